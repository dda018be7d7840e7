/-
  The walk of TimersFire.
-/
import Derived.Test.YthlpcbpilfakmaaTimRest
namespace Go.Proofs.Ythlpcbpilfakmaa
open Go.RowKit Go.WideShapes Go.ChangeShapes Go.ChangeAt Go.Deep
set_option linter.unusedVariables false

/-- All timers are due at lo or later, and ahead of hi. -/
def DueIn (m : TMap) (lo hi : Int) : Prop := ∀ q ∈ m, lo ≤ q.2 ∧ q.2 < hi
theorem dueIn_set {m : TMap} {lo hi : Int} (h : DueIn m lo hi) (p : Int × Int) (d : Int) (h1 : lo ≤ d) (h2 : d < hi) : DueIn (mset m p d) lo hi := by
  intro q hq
  rcases mem_mset hq with rfl | ⟨hq', _⟩
  · exact ⟨h1, h2⟩
  · exact h q hq'
theorem dueIn_del {m : TMap} {lo hi : Int} (h : DueIn m lo hi) (p : Int × Int) : DueIn (mdel m p) lo hi := fun q hq => h q (mem_mdel hq).1
theorem mdel_len {κ ν : Type} [DecidableEq κ] {m : List (κ × ν)} (hd : (m.map (·.1)).Nodup) {p : κ} {v : ν} (h : mget m p = some v) : (mdel m p).length + 1 = m.length := by
  obtain ⟨j, hj⟩ := List.mem_iff_getElem?.1 (mget_mem h)
  have hjl := (List.getElem?_eq_some_iff.1 hj).1
  rw [eraseIdx_mdel hd hj, List.length_eraseIdx, if_pos hjl]
  omega

theorem rdyN_zero {L : List Tm} {now q : Int} (hs : SortedK id ltT L) (hq : 1 ≤ q) (h : rdyN L now q = 0) : ∀ x ∈ L, now < x.d := by
  have hz : rdyN L now q = dueN L now := by unfold rdyN at h ⊢; omega
  intro x hx
  obtain ⟨k, hk⟩ := List.mem_iff_getElem?.1 hx
  have h0 : 0 < L.length := by have := (List.getElem?_eq_some_iff.1 hk).1; omega
  have hy : L[0]? = some L[0] := List.getElem?_eq_getElem h0
  have hy2 : L[rdyN L now q]? = some L[0] := by rw [h]; exact hy
  rcases rdy_at hy2 with h1 | h1
  · have := due_mono hs hy hk (Nat.zero_le _)
    omega
  · rw [h] at h1; omega

set_option maxRecDepth 100000 in
set_option maxHeartbeats 16000000 in
theorem timersFire_walk (hS : SortsT) (l : List Tm) (A : Option Addr) (cp : Nat) (most : Int) (w : World) (hR : Rd w A (l.flatMap en3)) (hl : l.length * 24 ≤ 140737488351232) :
    Calls Try.prog 4 #[.slice A l.length cp, .int .i64 most] w (Law w) := by
  go_enter Try.func4, Try.ntmps4
  go_wp2_with fail
  refine (wakes_any hS _).mono ?_
  rintro e w1 ⟨rfl, hb⟩
  go_wp2_with fail
  refine (tnew_some _).mono ?_
  rintro e w2 ⟨X, B, rfl, hB, hX, h, hb1⟩
  have hwB : w.heap.size ≤ B := Nat.le_trans hb.size hB
  replace hb := bthen hb hb1
  clear hb1 hB hX
  go_wp2_with fail
  go_loopw [18] (fun i wr => ∃ (k : Nat) (m : TMap), k ≤ l.length ∧ i = .int .i64 k ∧ m.length ≤ k ∧ Hid (DueIn m 0 50) ∧ IsTim wr X B m ∧ Below w.heap.size w wr) (fun i _ => l.length - (intOf i).toNat)
  case atStart => exact ⟨0, [], Nat.zero_le _, rfl, Nat.le_refl _, hid (fun q hq => by cases hq), h, hb⟩
  case round =>
    clear h hb
    obtain ⟨k, m, hk, rfl, hmk, hD, h, hb⟩ := hrel
    by_cases hlt : k < l.length
    · obtain ⟨x, hx⟩ : ∃ x, l[k]? = some x := ⟨l[k], List.getElem?_eq_getElem hlt⟩
      have hR1 := hR.below hb
      obtain ⟨b, off, rfl, hbs, hcc⟩ := hR1.at_ 3 en3_len (by omega) hx
      obtain ⟨xd, xo, xs⟩ := x
      have q0 : wr.cell? ⟨b, off + k * 3, none⟩ = some (.int .i64 xd) := hcc 0 _ rfl
      have q1 : wr.cell? ⟨b, off + k * 3 + 1, none⟩ = some (.int .i64 xo) := hcc 1 _ rfl
      have q2 : wr.cell? ⟨b, off + k * 3 + 2, none⟩ = some (.int .i64 xs) := hcc 2 _ rfl
      clear hcc hx hR1
      have K := hid (fun d => set_any xo xs d _ (h.alloc (.cells #[.int .i64 xd, .int .i64 xo, .int .i64 xs] 30)))
      have hb1 := hb.alloc hb.size (.cells #[.int .i64 xd, .int .i64 xo, .int .i64 xs] 30)
      clear h hb
      have hmx : 0 ≤ max 0 xd := by omega
      go_wp2_with fail
      refine (K.out _).mono ?_
      rintro e4 w4 ⟨rfl, h4, hg⟩
      have hb4 := hb1.trans (grown_below hg hb1.size hwB)
      clear hb1 hg K q0 q1 q2
      go_wp2_with fail
      go_roundw
      case rel => exact ⟨k + 1, _, by omega, by go_num, by have := mset_length m (xo, xs) (max 0 xd % 50); omega, hid (dueIn_set hD.out _ _ (by omega) (by omega)), h4, hb4⟩
      case measure => simp [intOf]; omega
    · have hml : m.length * 24 ≤ 140737488351232 := by omega
      have L := hid (tlist_any hS wr h hml)
      clear hR
      go_wp2_with fail
      refine L.out.mono ?_
      rintro e5 w5 ⟨A5, c5, La, rfl, hT, hO, hb5⟩
      have hlen := hT.len
      replace h := h.next hb5
      replace hb := bthen hb hb5
      rw [hlen]
      have hml2 : m.length ≤ 140737488351232 := by omega
      clear hO hb5 L hT hlen hlt hk hmk
      have hmx : 0 ≤ max 0 most := by omega
      go_wp2_with fail
      obtain ⟨q, hq⟩ : ∃ q, q = 1 + max 0 most % 5 := ⟨_, rfl⟩
      have hq1 : 1 ≤ q := by omega
      have hq2 : q ≤ 5 := by omega
      rw [← hq]
      generalize max 0 most % 5 = mm at *
      clear hq
      go_loopw [40, 8] (fun i v wr => ∃ (n : Nat) (m : TMap), n ≤ 50 ∧ i = .int .i64 n ∧ v = .int .i64 m.length ∧ m.length * 24 ≤ 140737488351232 ∧ Hid (DueIn m n 50) ∧ IsTim wr X B m ∧ Below w.heap.size w wr) (fun i _ _ => 50 - (intOf i).toNat)
      case atStart => exact ⟨0, m, by omega, rfl, rfl, hml, hD, h, hb⟩
      case round =>
        clear h hb hml hml2 hD
        obtain ⟨n, m, hn, rfl, rfl, hml, hD, h, hb⟩ := hrel
        obtain ⟨wo, rfl⟩ : ∃ wo : World, wo = wr := ⟨_, rfl⟩
        by_cases hlt : n < 50
        · have HH := hid (And.intro h (And.intro hb (And.intro hml hD)))
          clear h hb hml hD
          have hlt3 : (n : Int) < 50 := by omega
          go_wp2_with fail
          go_loopw [8] (fun v wr => ∃ (m : TMap), v = .int .i64 m.length ∧ m.length * 24 ≤ 140737488351232 ∧ Hid (DueIn m n 50) ∧ IsTim wr X B m ∧ Below w.heap.size w wr) (fun v _ => (intOf v).toNat)
          case atStart => exact ⟨m, rfl, HH.out.2.2.1, HH.out.2.2.2, HH.out.1, HH.out.2.1⟩
          case round =>
            clear HH
            obtain ⟨m, rfl, hml, hD, h, hb⟩ := hrel
            have RD := hid (ready_any hS n q wr h hml)
            have hnd := h.map.nodup
            go_wp2_with fail
            refine RD.out.mono ?_
            rintro e6 w6 ⟨A6, c6, L, rfl, hT, hO, hb6⟩
            replace h := h.next hb6
            replace hb := bthen hb hb6
            obtain ⟨A6', c6', e6', hRL⟩ := own_slice hO
            injection e6' with e61 _ _
            subst e61
            have hrl := rdyN_le L n q
            have hrq : rdyN L n q ≤ 5 := by unfold rdyN; omega
            have hrq2 : ((rdyN L n q : Nat) : Int) ≤ q := by unfold rdyN; omega
            have HIN := hid (fun j x hj hx => (rdy_in (L := L) (now := n) (most := q) (n := j) (x := x) hj hx).1)
            have HZ := hid (fun h0 : rdyN L n q = 0 => rdyN_zero hT.sorted hq1 h0)
            have HT := hid hT
            have HLN := hid hT.len
            clear RD hO hb6 hT
            generalize rdyN L n q = r at *
            by_cases hr0 : r = 0
            · subst hr0
              have hD2 : Hid (DueIn m (n + 1 : Nat) 50) := hid (fun p hp => by
                have h1 := hD.out p hp
                have h2 := HZ.out rfl (toT p) (HT.out.perm.mem_iff.2 (List.mem_map_of_mem hp))
                simp only [toT] at h2
                exact ⟨by omega, h1.2⟩)
              clear HZ HIN HT hRL hD hnd
              go_wp2_with fail
              go_roundw
              case rel => exact ⟨n + 1, m, by omega, by go_num, rfl, hml, hD2, h, hb⟩
              case measure => simp [intOf]; omega
            · have hr1 : decide (q < (r : Int)) = false := decide_eq_false (by omega)
              have hr2 : ((r : Int) == 0) = false := by simp; omega
              have hr3 : 0 < r := by omega
              have hm0 : (m.length : Int) = (m.length : Nat) := rfl
              obtain ⟨M0, hM0⟩ : ∃ M0, M0 = m.length := ⟨_, rfl⟩
              have HM0 := hid hM0
              have HR := hid hRL
              clear HZ hr0
              go_wp2_with fail
              have HH := hid (And.intro h (And.intro hb hD))
              clear h hb hD hRL
              obtain ⟨w6', rfl⟩ : ∃ w6' : World, w6' = w6 := ⟨_, rfl⟩
              go_loopw [56, 8] (fun i v wr => ∃ (j : Nat) (mj : TMap), j ≤ r ∧ i = .int .i64 j ∧ v = .int .i64 mj.length ∧ mj.length + j = M0 ∧ Hid (DueIn mj n 50) ∧ Hid (∀ (i : Nat) (x : Tm), j ≤ i → L[i]? = some x → mget mj (x.o, x.s) = some x.d) ∧ IsTim wr X B mj ∧ Below w.heap.size w wr ∧ Rd wr A6 (L.flatMap en3)) (fun i _ _ => r - (intOf i).toNat)
              case atStart =>
                exact ⟨0, m, Nat.zero_le _, rfl, rfl, HM0.out.symm, HH.out.2.2, hid (fun i x _ hx => by
                  obtain ⟨p, hp, rfl⟩ := List.mem_map.1 (HT.out.perm.mem_iff.1 (List.mem_of_getElem? hx))
                  exact mget_of_mem HT.out.nd hp), HH.out.1, HH.out.2.1, HR.out⟩
              case round =>
                clear HH
                obtain ⟨j, mj, hj, rfl, rfl, hjm, hD, hG, h, hb, hRL⟩ := hrel
                by_cases hlt2 : j < r
                · have hjl : j < L.length := by omega
                  obtain ⟨x, hx⟩ : ∃ x, L[j]? = some x := ⟨L[j], List.getElem?_eq_getElem hjl⟩
                  obtain ⟨b, off, rfl, hbs, hcc⟩ := hRL.at_ 3 en3_len (by omega) hx
                  have hgx := hG.out j x (Nat.le_refl _) hx
                  have hxd : x.d = n := by
                    have h1 := HIN.out j x hlt2 hx
                    have h2 := (hD.out _ (mget_mem hgx)).1
                    simp only at h2
                    omega
                  have hlen := mdel_len h.map.nodup hgx
                  have hD2 := hid (dueIn_del hD.out (x.o, x.s))
                  have hG2 : Hid (∀ (i : Nat) (y : Tm), j + 1 ≤ i → L[i]? = some y → mget (mdel mj (x.o, x.s)) (y.o, y.s) = some y.d) := hid (fun i y hi hy => by
                    rw [mget_mdel, if_neg, hG.out i y (by omega) hy]
                    intro e
                    have hkn : (L.map keyT).Nodup := by
                      have hp := HT.out.perm.map keyT
                      rw [List.map_map] at hp
                      exact hp.nodup_iff.2 HT.out.nd
                    have e1 : (L.map keyT)[i]? = some (x.o, x.s) := by rw [List.getElem?_map, hy]; simp [keyT, ← e]
                    have e2 : (L.map keyT)[j]? = some (x.o, x.s) := by rw [List.getElem?_map, hx]; rfl
                    have := (List.getElem?_inj (by simpa using hjl) hkn).1 (e2.trans e1.symm)
                    omega)
                  have K := fun w h => cancel_any (X := X) (B := B) (m := mj) x.o x.s w h
                  rw [hgx] at K
                  obtain ⟨xd, xo, xs⟩ := x
                  simp only at hxd K hD2 hG2 hlen
                  subst hxd
                  have q0 : wr.cell? ⟨b, off + j * 3, none⟩ = some (.int .i64 n) := hcc 0 _ rfl
                  have q1 : wr.cell? ⟨b, off + j * 3 + 1, none⟩ = some (.int .i64 xo) := hcc 1 _ rfl
                  have q2 : wr.cell? ⟨b, off + j * 3 + 2, none⟩ = some (.int .i64 xs) := hcc 2 _ rfl
                  have ha : Below wr.heap.size wr (wr.alloc (.cells #[.int .i64 n, .int .i64 xo, .int .i64 xs] 30)) := (Below.refl _ _).alloc (Nat.le_refl _) _
                  have h1 := h.next ha
                  have hb1 := bthen hb ha
                  have hRL1 := hRL.below ha
                  have hnB : ∀ b', (some (⟨b, off, none⟩ : Addr)).map (·.block) = some b' → ¬ b' = B := fun b' e e2 => by
                    simp at e
                    subst e e2
                    have := hcc 0 _ rfl
                    obtain ⟨es, cl, hbm, _⟩ := h.map
                    simp [World.cell?, hbm] at this
                  replace K := hid K
                  clear hcc hx hgx ha h hb hRL hG hD
                  go_wp2_with fail
                  refine (K.out _ h1).mono ?_
                  rintro e8 w8 ⟨rfl, h8, hg⟩
                  have hb8 := hb1.trans (grown_below hg hb1.size hwB)
                  have hR8 := (Touch.of_grown hg).rd hRL1 hnB
                  generalize mdel mj (xo, xs) = mk at *
                  clear K hg h1 hb1 hRL1 q0 q1 q2 hnB
                  go_wp2_with fail
                  go_roundw
                  case rel => exact ⟨j + 1, mk, by omega, by go_num, by congr 1; omega, by omega, hD2, hG2, h8, hb8, hR8⟩
                  case measure => simp [intOf]; omega
                · have hm2 : mj.length < m.length := by have := HM0.out; omega
                  have hml2 : mj.length * 24 ≤ 140737488351232 := by omega
                  clear hRL hG HIN HT
                  go_wp2_with fail
                  go_roundw
                  case rel => exact ⟨mj, rfl, hml2, hD, h, hb⟩
                  case measure => simp [intOf]; omega
        · have hn5 : n = 50 := by omega
          subst hn5
          have hz : m = [] := by
            cases m with
            | nil => rfl
            | cons p m => have := hD.out p (by simp); omega
          subst hz
          clear hD hml hlt hn
          have L := hid (tlist_any hS wo h (by simp))
          go_wp2_with fail
          refine L.out.mono ?_
          rintro e9 w9 ⟨A9, c9, L9, rfl, hT9, hO9, hb9⟩
          have hl9 : L9.length = 0 := by rw [hT9.len]; rfl
          rw [hl9]
          replace hb := bthen hb hb9
          clear hT9 hO9 L hl9 hb9
          go_wp2_with fail
          go_ret
          exact ⟨by simp, hb⟩

end Go.Proofs.Ythlpcbpilfakmaa
