/-
  The walk of InboxLists.
-/
import Derived.Test.YtidjkigkfefojaaRest08W
import Derived.Test.YtidjkigkfefojaaKnown
namespace Go.Proofs.Ytidjkigkfefojaa
open Go.RowKit Go.WideShapes
set_option linter.unusedVariables false

set_option maxRecDepth 100000 in
set_option maxHeartbeats 16000000 in
theorem inboxLists_walk (hS : SortsAt Try.prog 24 (.func (.func 25) #[] #[]) enE5 5 ltE)
    (l : List Req) (A : Option Addr) (cp : Nat) (w : World) (hR : Rd w A (l.flatMap enR)) (hl : l.length * 40 ≤ 140737488351232) :
    Calls Try.prog 8 #[.slice A l.length cp] w (Law w) := by
  go_enter Try.func8, Try.ntmps8
  go_wp2_with fail
  refine (wakes_any _).mono ?_
  rintro e w1 ⟨rfl, hb⟩
  go_wp2_with fail
  refine (new_some _).mono ?_
  rintro e w2 ⟨X, B, rfl, hB, h, hb1, hltB⟩
  have hwB : w.heap.size ≤ B := Nat.le_trans hb.size hB
  replace hb := bthen hb hb1
  clear hb1 hB hltB
  go_wp2_with fail
  go_loopw [21] (fun i wr => ∃ (k : Nat) (m : List ((Int × Int) × Ent)), k ≤ l.length ∧ i = .int .i64 k ∧ Hid (MapOk m ∧ m.length ≤ k) ∧ IsBox wr X B m ∧ Below w.heap.size w wr) (fun i _ => l.length - (intOf i).toNat)
  case atStart => exact ⟨0, [], Nat.zero_le _, rfl, hid ⟨(fun p hp => by cases hp), Nat.le_refl _⟩, h, hb⟩
  case round =>
    clear h hb
    obtain ⟨k, m, hk, rfl, hI, h, hb⟩ := hrel
    by_cases hlt : k < l.length
    · obtain ⟨x, hx⟩ : ∃ x, l[k]? = some x := ⟨l[k], List.getElem?_eq_getElem hlt⟩
      have hR1 := hR.below hb
      obtain ⟨b, off, rfl, hbs, hcc⟩ := hR1.at_ 6 enR_len (by omega) hx
      obtain ⟨xo, xs, xt, xc, xu, xk⟩ := x
      have q0 : wr.cell? ⟨b, off + k * 6, none⟩ = some (.int .i64 xo) := hcc 0 _ rfl
      have q1 : wr.cell? ⟨b, off + k * 6 + 1, none⟩ = some (.int .i64 xs) := hcc 1 _ rfl
      have q2 : wr.cell? ⟨b, off + k * 6 + 2, none⟩ = some (.int .i64 xt) := hcc 2 _ rfl
      have q3 : wr.cell? ⟨b, off + k * 6 + 3, none⟩ = some (.int .i64 xc) := hcc 3 _ rfl
      have q4 : wr.cell? ⟨b, off + k * 6 + 4, none⟩ = some (.bool xu) := hcc 4 _ rfl
      have q5 : wr.cell? ⟨b, off + k * 6 + 5, none⟩ = some (.bool xk) := hcc 5 _ rfl
      clear hcc hx hR1
      have K := hid (keep_any X B m xo xs xt xc xu _ (h.alloc (.cells #[.int .i64 xo, .int .i64 xs, .int .i64 xt, .int .i64 xc, .bool xu, .bool xk] 37)))
      have hb1 := hb.alloc hb.size (.cells #[.int .i64 xo, .int .i64 xs, .int .i64 xt, .int .i64 xc, .bool xu, .bool xk] 37)
      clear h hb
      go_wp2_with fail
      refine K.out.mono ?_
      rintro e4 w4 ⟨rfl, h4, hg⟩
      have hb4 := hb1.trans (grown_below hg hb1.size hwB)
      clear hb1 hg K q0 q1 q2 q3 q4 q5
      go_wp2_with fail
      go_roundw
      case rel => exact ⟨k + 1, _, by omega, by go_num, hid ⟨mapOk_keep hI.out.1 xo xs xt xu xc, by have := keepM_length m xo xs xt xu xc; have := hI.out.2; omega⟩, h4, hb4⟩
      case measure => simp [intOf]; omega
    · have hml : m.length * 40 ≤ 140737488351232 := by have := hI.out.2; omega
      have L := hid (list_any hS X B m wr h hml)
      have hnd : (m.map (·.1)).Nodup := h.2.nodup
      clear hml
      go_wp2_with fail
      refine L.out.mono ?_
      rintro e4 w4 ⟨v, l', rfl, hp, hst, hO, hb4⟩
      have hstr := hid (strict_of hI.out.1 hnd hp hst)
      have hSame := hid (fun p => restM_same hI.out.1 hnd hp p)
      have hOks := hid (show ∀ e ∈ l', EntOk e from fun e he => by
        obtain ⟨q, hq, rfl⟩ := List.mem_map.1 (hp.mem_iff.1 he)
        exact (hI.out.1 q hq).2)
      have hll : l'.length ≤ l.length := by have h1 := hp.length_eq; rw [List.length_map] at h1; have h2 := hI.out.2; omega
      replace h := h.next hb4
      replace hb := bthen hb hb4
      obtain ⟨A', cap', rfl, hRl⟩ := Rd.of_own hO
      clear hO hb4 L hst hp hnd hI hlt hk
      go_wp2_with fail
      go_loopw [7] (fun i wr => ∃ (k : Nat), 1 ≤ k ∧ i = .int .i64 k ∧ (l'.length = 0 ∨ k ≤ l'.length) ∧ IsBox wr X B m ∧ Below w.heap.size w wr ∧ Rd wr A' (l'.flatMap enE5)) (fun i _ => l'.length - (intOf i).toNat)
      case atStart => exact ⟨1, Nat.le_refl _, rfl, by omega, h, hb, hRl⟩
      case round =>
        clear h hb hRl
        obtain ⟨j, hj1, rfl, hj2, h, hb, hRl⟩ := hrel
        by_cases hlt : j < l'.length
        · obtain ⟨y, hy⟩ : ∃ y, l'[j]? = some y := ⟨l'[j], List.getElem?_eq_getElem hlt⟩
          have hj3 : j - 1 < l'.length := by omega
          obtain ⟨z, hz⟩ : ∃ z, l'[j - 1]? = some z := ⟨l'[j - 1], List.getElem?_eq_getElem hj3⟩
          obtain ⟨b, off, rfl, hbs, hcy⟩ := hRl.at_ 5 enE5_len (by omega) hy
          obtain ⟨b', off', e', _, hcz⟩ := hRl.at_ 5 enE5_len (by omega) hz
          simp only [Option.some.injEq, Addr.mk.injEq, and_true] at e'
          obtain ⟨rfl, rfl⟩ := e'
          have hzy : ltE z y = true := by
            have := (List.pairwise_iff_getElem.1 hstr.out) (j - 1) j hj3 hlt (by omega)
            rw [(List.getElem?_eq_some_iff.1 hy).2, (List.getElem?_eq_some_iff.1 hz).2] at this
            exact this
          obtain ⟨yo, ys, yt, yc, yb⟩ := y
          obtain ⟨zo, zs, zt, zc, zb⟩ := z
          have q0 : wr.cell? ⟨b, off + j * 5, none⟩ = some (.int .i64 yo) := hcy 0 _ rfl
          have q1 : wr.cell? ⟨b, off + j * 5 + 1, none⟩ = some (.int .i64 ys) := hcy 1 _ rfl
          have q2 : wr.cell? ⟨b, off + (j - 1) * 5, none⟩ = some (.int .i64 zo) := hcz 0 _ rfl
          have q3 : wr.cell? ⟨b, off + (j - 1) * 5 + 1, none⟩ = some (.int .i64 zs) := hcz 1 _ rfl
          have hkw : IntKind.i64.wrap ((j : Int) - 1) = ((j - 1 : Nat) : Int) := by rw [IntWalk.i64_in _ ⟨by omega, by omega⟩]; omega
          clear hcy hcz hy hz
          rcases (ltE_iff _ _).1 hzy with h1 | ⟨h1, h2⟩
          · have b1 : decide (yo < zo) = false := decide_eq_false (by have : zo < yo := h1; omega)
            have b2 : (zo == yo) = false := by have : zo < yo := h1; simp; omega
            clear hzy h1
            go_wp2_with fail
            refine wp_region_quiet_lit (by kernel_rfl) (by kernel_rfl) ?_
            repeat (first | go_big_quiet_step (fail) | quiet_step (fail))
            refine wpQuiet_nil ?_
            rintro _ ⟨nq, rfl⟩
            clear hkw
            go_wp2_with fail
            go_roundw
            case rel => exact ⟨j + 1, by omega, by go_num, by omega, h.next (below_drewN (Below.refl _ _) nq), below_drewN hb nq, hRl.below (below_drewN (Below.refl _ _) nq)⟩
            case measure => simp [intOf]; omega
          · have h1' : zo = yo := h1
            have h2' : zs < ys := h2
            subst h1'
            have b1 : decide (zo < zo) = false := decide_eq_false (by omega)
            have b3 : decide (ys ≤ zs) = false := decide_eq_false (by omega)
            clear hzy h1 h2 h2'
            go_wp2_with fail
            refine wp_region_quiet_lit (by kernel_rfl) (by kernel_rfl) ?_
            repeat (first | go_big_quiet_step (fail) | quiet_step (fail))
            refine wpQuiet_nil ?_
            rintro _ ⟨nq, rfl⟩
            clear hkw
            go_wp2_with fail
            go_roundw
            case rel => exact ⟨j + 1, by omega, by go_num, by omega, h.next (below_drewN (Below.refl _ _) nq), below_drewN hb nq, hRl.below (below_drewN (Below.refl _ _) nq)⟩
            case measure => simp [intOf]; omega
        · have hR0 := hid hR
          have RS := hid (restore_ok l' A' cap' wr hRl (by omega) hOks.out hstr.out)
          clear hj2 hRl
          go_wp2_with fail
          refine RS.out.mono ?_
          rintro e5 w5 ⟨Y, D, rfl, hD, hY, h5, hb5⟩
          have hltB := h.2.lt
          replace h := h.next hb5
          replace hb := bthen hb hb5
          clear RS hlt hstr hOks hb5
          go_wp2_with fail
          go_loopw [95] (fun i wr => ∃ (k : Nat), k ≤ l.length ∧ i = .int .i64 k ∧ IsBox wr X B m ∧ IsBox wr Y D (restM l') ∧ Below w.heap.size w wr) (fun i _ => l.length - (intOf i).toNat)
          case atStart => exact ⟨0, Nat.zero_le _, rfl, h, h5, hb⟩
          case round =>
            clear h h5 hb
            obtain ⟨k, hk, rfl, h, h5, hb⟩ := hrel
            by_cases hlt : k < l.length
            · obtain ⟨x, hx⟩ : ∃ x, l[k]? = some x := ⟨l[k], List.getElem?_eq_getElem hlt⟩
              have hR1 := hR0.out.below hb
              obtain ⟨b, off, rfl, hbs, hcc⟩ := hR1.at_ 6 enR_len (by omega) hx
              obtain ⟨xo, xs, xt, xc, xu, xk⟩ := x
              have q0 : wr.cell? ⟨b, off + k * 6, none⟩ = some (.int .i64 xo) := hcc 0 _ rfl
              have q1 : wr.cell? ⟨b, off + k * 6 + 1, none⟩ = some (.int .i64 xs) := hcc 1 _ rfl
              have q2 : wr.cell? ⟨b, off + k * 6 + 2, none⟩ = some (.int .i64 xt) := hcc 2 _ rfl
              have q3 : wr.cell? ⟨b, off + k * 6 + 3, none⟩ = some (.int .i64 xc) := hcc 3 _ rfl
              have q4 : wr.cell? ⟨b, off + k * 6 + 4, none⟩ = some (.bool xu) := hcc 4 _ rfl
              have q5 : wr.cell? ⟨b, off + k * 6 + 5, none⟩ = some (.bool xk) := hcc 5 _ rfl
              clear hcc hx hR1
              have A1 := fun w h => ask_any X B m xo xs xt xu w h
              have A2 := fun w h => ask_any Y D (restM l') xo xs xt xu w h
              have D1 := fun w h => done_any X B m xo xs w h
              have D2 := fun w h => done_any Y D (restM l') xo xs w h
              rw [hSame.out (xo, xs)] at A2 D2
              generalize (askF (entAt m (xo, xs)) xt xu).1 = v at A1 A2
              generalize (askF (entAt m (xo, xs)) xt xu).2 = c at A1 A2
              generalize doneF (entAt m (xo, xs)) = dn at D1 D2
              replace A1 := hid A1
              replace A2 := hid A2
              replace D1 := hid D1
              replace D2 := hid D2
              obtain ⟨C, hCd⟩ : ∃ C : World → Prop, ∀ w', C w' ↔ (IsBox w' X B m ∧ IsBox w' Y D (restM l') ∧ Blk w' wr.heap.size 37 #[.int .i64 xo, .int .i64 xs, .int .i64 xt, .int .i64 xc, .bool xu, .bool xk] ∧ Below w.heap.size w w') := ⟨_, fun _ => Iff.rfl⟩
              have hK : ∀ w1 w2, C w1 → Below w1.heap.size w1 w2 → C w2 := fun w1 w2 h hb => by
                obtain ⟨a1, a2, a3, a4⟩ := (hCd _).1 h
                exact (hCd _).2 ⟨a1.next hb, a2.next hb, a3.next hb, bthen a4 hb⟩
              have hW : C (wr.alloc (.cells #[.int .i64 xo, .int .i64 xs, .int .i64 xt, .int .i64 xc, .bool xu, .bool xk] 37)) := (hCd _).2 ⟨h.alloc _, h5.alloc _, Blk.new _ _ _, hb.alloc hb.size _⟩
              replace hCd := hid hCd
              replace hK := hid hK
              clear h h5 hb
              have HGG : ∃ G, G = wr.heap.size := ⟨_, rfl⟩
              obtain ⟨G, hGG⟩ := HGG
              rw [← hGG] at hCd
              have HG := hid hGG
              clear hGG
              go_wp2_with fail
              refine (A1.out _ ((hCd.out _).1 hW).1).mono ?_
              rintro e6 w6 ⟨rfl, hb6⟩
              replace hW := hK.out _ _ hW hb6
              clear hb6 A1 q0 q1 q2 q3 q4 q5
              rw [← HG.out]
              have d0 : w6.cell? ⟨G, 0, none⟩ = some (.int .i64 xo) := ((hCd.out _).1 hW).2.2.1.cell 0
              have d1 : w6.cell? ⟨G, 1, none⟩ = some (.int .i64 xs) := ((hCd.out _).1 hW).2.2.1.cell 1
              have d2 : w6.cell? ⟨G, 2, none⟩ = some (.int .i64 xt) := ((hCd.out _).1 hW).2.2.1.cell 2
              have d4 : w6.cell? ⟨G, 4, none⟩ = some (.bool xu) := ((hCd.out _).1 hW).2.2.1.cell 4
              go_wp2_with fail
              refine (A2.out _ ((hCd.out _).1 hW).2.1).mono ?_
              rintro e7 w7 ⟨rfl, hb7⟩
              replace hW := hK.out _ _ hW hb7
              clear hb7 A2 d0 d1 d2 d4
              have hself : (v != v) = false := by simp
              have hself2 : (c != c) = false := by simp
              have hself3 : (dn != dn) = false := by simp
              go_wp2_with fail
              have hW2 : C w7.drew := hK.out _ _ hW (below_drewN (Below.refl _ _) 1)
              have c0 : ∀ p : In C, p.w.cell? ⟨G, 0, none⟩ = some (.int .i64 xo) := fun p => ((hCd.out _).1 p.h).2.2.1.cell 0
              have c1 : ∀ p : In C, p.w.cell? ⟨G, 1, none⟩ = some (.int .i64 xs) := fun p => ((hCd.out _).1 p.h).2.2.1.cell 1
              have E1 : Hid (∀ p : In C, Calls Try.prog 13 #[.pointer (some ⟨X, 0, none⟩), .int .i64 xo, .int .i64 xs] p.w fun e w' => e = .returned (.bool dn) ∧ C w') := hid (fun p => (D1.out _ ((hCd.out _).1 p.h).1).mono fun _ _ ⟨e1, e2⟩ => ⟨e1, hK.out _ _ p.h e2⟩)
              have E2 : Hid (∀ p : In C, Calls Try.prog 13 #[.pointer (some ⟨Y, 0, none⟩), .int .i64 xo, .int .i64 xs] p.w fun e w' => e = .returned (.bool dn) ∧ C w') := hid (fun p => (D2.out _ ((hCd.out _).1 p.h).2.1).mono fun _ _ ⟨e1, e2⟩ => ⟨e1, hK.out _ _ p.h e2⟩)
              clear hW
              refine wp_region_in C (by kernel_rfl) (by kernel_rfl) hW2 ?_
              intro hne
              clear hW2
              repeat (first | go_big_quiet_step ((go_at_call 13; first | (with_reducible exact Calls.in_of (E1.out _)) | (with_reducible exact Calls.in_of (E2.out _)))) | quiet_step ((go_at_call 13; first | (with_reducible exact Calls.in_of (E1.out _)) | (with_reducible exact Calls.in_of (E2.out _)))))
              refine wpQuiet_nil ?_
              intro wq hq
              obtain ⟨h, h5, hG, hb⟩ := (hCd.out _).1 hq
              clear c0 c1 E1 E2 hne hq hG
              go_wp2_with fail
              go_roundw
              case rel => exact ⟨k + 1, by omega, by go_num, h, h5, hb⟩
              case measure => simp [intOf]; omega
            · clear hk
              go_wp2_with fail
              go_ret
              exact ⟨rfl, hb⟩

end Go.Proofs.Ytidjkigkfefojaa
