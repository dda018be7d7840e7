/-
  The walks of CreditPlays and CreditBack.
-/
import Derived.Test.YtpofhadeepgmbaaPlay14
import Derived.Test.YtpofhadeepgmbaaWakes14
import Derived.Deep.RegionHeld3
namespace Go.Proofs.Ytpofhadeepgmbaa
open Go.RowKit Go.WideShapes Go.ChangeShapes Go.ChangeAt Go.Deep
set_option linter.unusedVariables false

theorem ref_new (w : World) : IsRef (w.heap.size + 1) (w.alloc (.cells #[.slice none 0 0, .slice none 0 0] 50)) w.heap.size none 0 [] none 0 [] :=
  ⟨Blk.new _ _ _, World.ownsRow_nil _ _ _ _, World.ownsRow_nil _ _ _ _, Nat.lt_succ_self _⟩

set_option maxRecDepth 100000 in
set_option maxHeartbeats 8000000 in
theorem creditPlays_walk (l : List Quad) (A : Option Addr) (cp : Nat) (w : World) (hR : Rd w A (l.flatMap en4)) (hl : l.length * 32 ≤ 140737488351232) :
    Calls Try.prog 6 #[.slice A l.length cp] w (Law w) := by
  go_enter Try.func6, Try.ntmps6
  go_wp2_with fail
  refine (wakes_any _).mono ?_
  rintro e w1 ⟨rfl, hb⟩
  go_wp2_with fail
  refine (new_any _).mono ?_
  rintro e w2 ⟨X, BA, BH, rfl, h, hb1, _, _, _⟩
  have hsz := hb.size
  have hsz2 := hb1.size
  replace hb := bthen hb hb1
  have hsz3 := hb.size
  have hI := hid (play_any w l A cp hR (n0 := w1.heap.size) (base := w2.heap.size + 1) (X := X) (BA := BA) (BH := BH) (R := w2.heap.size) (w2.alloc (.cells #[.slice none 0 0, .slice none 0 0] 50))
    (h.alloc _) (ref_new w2) RelB.nil (hb.alloc hb.size _) (by simp) ⟨by omega, by omega, by omega⟩ (by simp; omega))
  clear hb1 h hb hR hl
  go_wp2_with fail
  refine hI.out.mono ?_
  rintro e w3 ⟨rfl, _, _, _, _, _, _, _, _, _, _, _, _, hb3, _⟩
  clear hI
  go_wp2_with fail
  go_ret
  exact ⟨by simp, hb3⟩

theorem mdel_mset_new {κ ν : Type} [DecidableEq κ] {m : List (κ × ν)} {a : κ} {b : ν} (h : mget m a = none) : mdel (mset m a b) a = m := by
  rw [mset_new h]
  unfold mdel
  rw [List.filter_append]
  have h1 : m.filter (fun p => decide (p.1 ≠ a)) = m := by
    rw [List.filter_eq_self]
    intro p hp
    simp only [decide_eq_true_eq]
    intro e
    obtain ⟨c, hc⟩ := mget_key (List.mem_map.2 ⟨p, hp, e⟩)
    rw [h] at hc; cases hc
  rw [h1]
  simp
theorem mset_self {κ ν : Type} [DecidableEq κ] {m : List (κ × ν)} {a : κ} {b : ν} (hd : (m.map (·.1)).Nodup) (h : mget m a = some b) : mset m a b = m := by
  have hin : a ∈ m.map (·.1) := mget_isSome.1 (by rw [h]; rfl)
  unfold mset
  rw [if_pos hin]
  conv => rhs; rw [← List.map_id m]
  refine List.map_congr_left fun p hp => ?_
  split
  · rename_i e
    have := mget_of_mem hd hp
    rw [e, h] at this
    injection this with this
    obtain ⟨p1, p2⟩ := p
    simp only at e this
    simp [e, this]
  · rfl

set_option maxRecDepth 100000 in
set_option maxHeartbeats 8000000 in
theorem creditBack_walk (l : List Quad) (A : Option Addr) (cp : Nat) (x : Quad) (w : World) (hR : Rd w A (l.flatMap en4)) (hl : l.length * 32 ≤ 140737488351232) :
    Calls Try.prog 7 #[.slice A l.length cp, .agg (en4 x).toArray] w (Law w) := by
  obtain ⟨xa, xo, xc, xm⟩ := x
  obtain ⟨w0, hw0⟩ : ∃ w0, w0 = w.alloc (.cells #[.int .i64 xa, .int .i64 xo, .int .i64 xc, .int .i64 xm] 35) := ⟨_, rfl⟩
  have hb0 : Below w.heap.size w w0 := by rw [hw0]; exact (Below.refl _ _).alloc (Nat.le_refl _) _
  obtain ⟨G, hG⟩ : ∃ G, G = w.heap.size := ⟨_, rfl⟩
  have hBk : Blk w0 G 35 (en4 ⟨xa, xo, xc, xm⟩).toArray := by rw [hw0, hG]; exact Blk.new _ _ _
  have hR1 := hR.below hb0
  have HW := hid hw0
  have HG := hid hG
  have hBk0 := hid (fun w' (hb : Below w0.heap.size w0 w') => hBk.next hb)
  clear hR hw0 hG
  simp only [en4]
  go_enter Try.func7, Try.ntmps7
  go_wp2_with fail
  rw [← HW.out, ← HG.out]
  refine (new_any _).mono ?_
  rintro e w2 ⟨X, BA, BH, rfl, h, hb1, _, _, _⟩
  have hsz2 := hb1.size
  have hF := ref_new w2
  have hPl : Pl w0 w0.heap.size (w2.heap.size + 1) X BA BH w2.heap.size G ⟨xa, xo, xc, xm⟩ [] [] none 0 [] none 0 [] (w2.alloc (.cells #[.slice none 0 0, .slice none 0 0] 50)) :=
    ⟨h.alloc _, hF, (hBk.next hb1).alloc _, hb1.alloc hsz2 _, by simp, ⟨Nat.le_refl _, hsz2⟩⟩
  replace hPl := hid hPl
  clear h hb1 hF hBk
  obtain ⟨R, hRR⟩ : ∃ R, R = w2.heap.size := ⟨_, rfl⟩
  go_wp2_with fail
  rw [← hRR] at hPl hsz2 ⊢
  obtain ⟨w3, hw3⟩ : ∃ w3, w3 = w2.alloc (.cells #[.slice none 0 0, .slice none 0 0] 50) := ⟨_, rfl⟩
  rw [← hw3] at hPl ⊢
  replace hPl := hPl.out
  clear hRR hw3 HW HG
  refine (wakes_any _).mono ?_
  rintro e w4 ⟨rfl, hb4⟩
  replace hPl := hPl.next hb4
  clear hb4
  have hI := hid (play_any w0 l A cp hR1 (n0 := w0.heap.size) (base := R + 1) (X := X) (BA := BA) (BH := BH) (R := R) w4 hPl.book hPl.ref RelB.nil hPl.bel hPl.bw ⟨Nat.le_refl _, hsz2, by omega⟩ (by simp; omega))
  clear hPl hR1
  go_wp2_with fail
  refine hI.out.mono ?_
  rintro e w5 ⟨rfl, ac, hs, A1, c1, ps, A2, c2, hr, h, hF, hM, hln, hb, hbw⟩
  have hP : Pl w0 w0.heap.size (R + 1) X BA BH R G ⟨xa, xo, xc, xm⟩ ac hs A1 c1 ps A2 c2 hr w5 := ⟨h, hF, hBk0.out _ hb, hb, hbw, ⟨Nat.le_refl _, hsz2⟩⟩
  clear hI h hF hb hbw hBk0
  have hl2 : (hs.length + 1) * 24 ≤ 140737488351232 := by simp at hln; omega
  obtain ⟨_, p1, p2, p3⟩ := hP.cells
  by_cases hok : 1 ≤ xo ∧ 0 ≤ xm ∧ xm ≤ 1125899906842624
  · by_cases hz : holdR ac hs xo xc xm = 0
    · obtain ⟨a, ha, hno, hle⟩ := hold_from hok hz
      have hb7 := hM.bd ha
      have hroom := hold_room hM ha hle
      have e2 : wrap64 (a.e + xm) = a.e + xm := wr_lim _ ⟨by omega, by omega⟩
      have e3 : wrap64 (wrap64 (a.e + xm) - xm) = a.e := by rw [e2]; rw [wr_lim _ ⟨by omega, by omega⟩]; omega
      have K := hid (hold_ok hP.book xo xc xm hok a ha hno hle)
      have hM2 := hid hM
      have hlen2 : hr.length = hs.length := hM.hd.len
      obtain ⟨n1, hn1⟩ : ∃ n1, n1 = hr.length + 1 := ⟨_, rfl⟩
      have K1 : Hid (∀ w, Pl w0 w0.heap.size (R + 1) X BA BH R G ⟨xa, xo, xc, xm⟩ (mset ac xc ⟨a.g, a.l, wrap64 (a.e + xm)⟩) (mset hs xo ⟨xo, xc, xm⟩) A1 c1 ps A2 c2 hr w → Calls Try.prog 15 #[.pointer (some ⟨X, 0, none⟩)] w fun e w' => ∃ A' cap', e = .returned (.slice A' n1 cap') ∧
          Pl w0 w0.heap.size (R + 1) X BA BH R G ⟨xa, xo, xc, xm⟩ (mset ac xc ⟨a.g, a.l, wrap64 (a.e + xm)⟩) (mset hs xo ⟨xo, xc, xm⟩) A1 c1 ps A2 c2 hr w') := hid (fun w h => (holds_any h.book (by have := mset_len (m := hs) (a := xo) (b := (⟨xo, xc, xm⟩ : Hd)); omega)).mono fun e w' ⟨A', cap', l', h1, h2, _, _, h5⟩ => by
            have hll := h2.length_eq
            rw [List.length_map, mset_new hno, List.length_append, List.length_singleton, ← hlen2, ← hn1] at hll
            rw [hll] at h1
            exact ⟨A', cap', h1, h.next h5⟩)
      have K2 : Hid (∀ w, Pl w0 w0.heap.size (R + 1) X BA BH R G ⟨xa, xo, xc, xm⟩ (mset ac xc ⟨a.g, a.l, wrap64 (a.e + xm)⟩) (mset hs xo ⟨xo, xc, xm⟩) A1 c1 ps A2 c2 hr w → Calls Try.prog 14 #[.pointer (some ⟨X, 0, none⟩), .int .i64 xo] w fun e w' => e = .returned (.int .i64 0) ∧
          Pl w0 w0.heap.size (R + 1) X BA BH R G ⟨xa, xo, xc, xm⟩ ac hs A1 c1 ps A2 c2 hr w') := hid (fun w h => (release_yes h.book xo ⟨xo, xc, xm⟩ (by rw [mget_mset, if_pos rfl]) ⟨a.g, a.l, wrap64 (a.e + xm)⟩ (by simp only; rw [mget_mset, if_pos rfl])).mono fun e w' ⟨h1, h2, h3⟩ => by
            rw [mset_twice, mdel_mset_new hno] at h2
            simp only at h2
            rw [e3, mset_self hM.pa.nd (by obtain ⟨g, l, e⟩ := a; exact ha)] at h2
            exact ⟨h1, h.stepB h2 h3⟩)
      have K3 : Hid (∀ w, Pl w0 w0.heap.size (R + 1) X BA BH R G ⟨xa, xo, xc, xm⟩ ac hs A1 c1 ps A2 c2 hr w → Calls Try.prog 17 #[.pointer (some ⟨X, 0, none⟩), .pointer (some ⟨R, 0, none⟩)] w fun e w' => e = .returned (.bool true) ∧
          Pl w0 w0.heap.size (R + 1) X BA BH R G ⟨xa, xo, xc, xm⟩ ac hs A1 c1 ps A2 c2 hr w') := hid (fun w h => (state_any h.book h.ref hM (by omega)).mono fun e w' ⟨h1, h2⟩ => ⟨h1, h.next h2⟩)
      have hw1 : IntKind.i64.wrap ((hr.length : Int) + 1) = (n1 : Int) := by rw [IntWalk.i64_in _ ⟨by omega, by omega⟩]; omega
      have hq : ((n1 : Int) == (n1 : Int)) = true := by simp
      clear hz hno hle ha hM hb7 hroom e2 e3 hn1 hlen2
      go_wp2_with fail
      refine K.out.mono ?_
      rintro e w6 ⟨rfl, h6, hT⟩
      replace hP := hP.stepB h6 hT
      clear K h6 hT p1 p2 p3
      go_wp2_with fail
      replace hP : Pl w0 w0.heap.size (R + 1) X BA BH R G ⟨xa, xo, xc, xm⟩ (mset ac xc ⟨a.g, a.l, wrap64 (a.e + xm)⟩) (mset hs xo ⟨xo, xc, xm⟩) A1 c1 ps A2 c2 hr w6.drew := hP.next (below_drewN (Below.refl _ _) 1)
      generalize (mset ac xc ⟨a.g, a.l, wrap64 (a.e + xm)⟩) = ac2 at hP K1 K2
      generalize (mset hs xo ⟨xo, xc, xm⟩) = hs2 at hP K1 K2
      go_region_held3 (fun w' => w'.cell? ⟨G, 1, none⟩ = some (.int .i64 xo) ∧ w'.cell? ⟨R, 1, none⟩ = some (.slice A2 hr.length c2)) ((first | exact ⟨(Pl.cells (by assumption)).2.1, (Pl.ref (by assumption)).cell1⟩))
        (first
          | (go_at_call 15; refine (K1.out _ hP).mono ?_; rintro e w7 ⟨A7, c7, rfl, hP7⟩; clear hP)
          | (go_at_call 14; refine (K2.out _ hP7).mono ?_; rintro e w8 ⟨rfl, hP8⟩; clear hP7)
          | (go_at_call 17; refine (K3.out _ hP8).mono ?_; rintro e w9 ⟨rfl, hP9⟩; clear hP8))
      all_goals
        have hPf := hid hP9
        clear K1 K2 K3
        go_wp2_with fail
        go_ret
        exact ⟨by simp, bthen hb0 hPf.out.bel⟩
    · have K := hid (hold_no hP.book xo xc xm hok hz)
      have S := hid (fun w h hF => state_any (w := w) (n0 := w0.heap.size) (base := R + 1) (R := R) (X := X) (BA := BA) (BH := BH) (c1 := c1) (c2 := c2) (A1 := A1) (A2 := A2) h hF hM (by omega))
      have hzz : (holdR ac hs xo xc xm != 0) = true := by simpa using hz
      generalize holdR ac hs xo xc xm = z at K hzz
      clear hz hM hok
      go_wp2_with fail
      refine K.out.mono ?_
      rintro e w6 ⟨rfl, hb6⟩
      replace hP := hP.next hb6
      clear K p1 p2 p3
      go_wp2_with fail
      refine (S.out _ hP.book hP.ref).mono ?_
      rintro e w7 ⟨rfl, hb7⟩
      replace hP := hid (hP.next hb7)
      clear S hb7
      go_wp2_with fail
      go_ret
      exact ⟨by simp, bthen hb0 hP.out.bel⟩
  · have K := hid (hold_arg hP.book xo xc xm hok)
    have S := hid (fun w h hF => state_any (w := w) (n0 := w0.heap.size) (base := R + 1) (R := R) (X := X) (BA := BA) (BH := BH) (c1 := c1) (c2 := c2) (A1 := A1) (A2 := A2) h hF hM (by omega))
    clear hM hok
    go_wp2_with fail
    refine K.out.mono ?_
    rintro e w6 ⟨rfl, rfl⟩
    clear K p1 p2 p3
    go_wp2_with fail
    refine (S.out _ hP.book hP.ref).mono ?_
    rintro e w7 ⟨rfl, hb7⟩
    replace hP := hid (hP.next hb7)
    clear S hb7
    go_wp2_with fail
    go_ret
    exact ⟨by simp, bthen hb0 hP.out.bel⟩

end Go.Proofs.Ytpofhadeepgmbaa
