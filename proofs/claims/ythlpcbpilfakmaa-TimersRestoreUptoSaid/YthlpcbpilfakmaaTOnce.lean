/-
  The walk of TimersOnce.
-/
import Derived.Test.YthlpcbpilfakmaaTReady
import Derived.Test.YthlpcbpilfakmaaArrKey
import Derived.Test.YthlpcbpilfakmaaMapLen
namespace Go.Proofs.Ythlpcbpilfakmaa
open Go.RowKit Go.WideShapes Go.ChangeShapes Go.ChangeAt Go.Deep
set_option linter.unusedVariables false

theorem info_int : (Try.prog.info? 3).map (fun i => (i.zero, i.size, i.bytes)) = some (some (.int .i64 0), 1, 8) := by kernel_rfl
theorem keyA2 : KeyLaw Try.prog 39 kP := by
  obtain ⟨i0, hi, _⟩ := info_parts info_int
  exact arrKey Try.underlying39 Try.underlying3 isAgg_int Try.sizeOf3 hi (by kernel_rfl)
theorem lookA2 {w : World} {M : Nat} {m : TMap} (h : IsMap w M kP vI m) (o s : Int) : (Instr.lookup 36 (.map (some M)) (.agg #[.int .i64 o, .int .i64 s]) true).run Try.prog w = .ok (.tuple #[.int .i64 ((mget m (o, s)).getD 0), .bool (mget m (o, s)).isSome]) w := by
  have := h.lookOk keyA2 Try.underlying36 (zeroI _) (o, s)
  rw [show (Value.int .i64 0) = vI 0 from rfl, looked_vI] at this
  exact this
theorem mdel_length {κ ν : Type} [DecidableEq κ] (m : List (κ × ν)) (a : κ) : (mdel m a).length ≤ m.length := by
  unfold mdel; exact List.length_filter_le _ _
theorem TRel.at_ {m : TMap} {l : List Tm} (h : TRel m l) {x : Tm} (hx : x ∈ l) : mget m (x.o, x.s) = some x.d := by
  obtain ⟨q, hq, rfl⟩ := List.mem_map.1 (h.perm.mem_iff.1 hx)
  exact mget_of_mem h.nd hq

set_option maxRecDepth 100000 in
set_option maxHeartbeats 16000000 in
theorem timersOnce_walk (hS : SortsT) (l : List Quad) (A : Option Addr) (cp : Nat) (w : World) (hR : Rd w A (l.flatMap en4)) (hl : l.length * 32 ≤ 140737488351232) :
    Calls Try.prog 5 #[.slice A l.length cp] w (Law w) := by
  have hmm := @run_makeMap Try.prog
  go_enter Try.func5, Try.ntmps5
  go_wp2_with fail
  refine (wakes_any hS _).mono ?_
  rintro e w1 ⟨rfl, hb⟩
  go_wp2_with fail
  refine (tnew_some _).mono ?_
  rintro e w2 ⟨X, B, rfl, hB, hX, h, hb1⟩
  have hwB : w.heap.size ≤ B := Nat.le_trans hb.size hB
  replace hb := bthen hb hb1
  have hM := IsMap.made w2 kP vI
  have hne : B ≠ w2.heap.size ∧ X ≠ w2.heap.size := ⟨by have := h.map.lt; omega, by have := h.blk.lt; omega⟩
  have hwM : w.heap.size ≤ w2.heap.size := hb.size
  replace h := h.alloc (.map #[] 0)
  replace hb := hb.alloc hb.size (.map #[] 0)
  clear hb1 hB hX
  go_wp2_with fail
  obtain ⟨w3, hw3⟩ : ∃ w3, w3 = w2.alloc (.map #[] 0) := ⟨_, rfl⟩
  rw [← hw3] at h hM hb ⊢
  obtain ⟨M, hMM⟩ : ∃ M, M = w2.heap.size := ⟨_, rfl⟩
  rw [← hMM] at hM hne hwM ⊢
  clear hw3 hMM hmm
  go_loopw [23] (fun i wr => ∃ (k : Nat) (m : TMap), k ≤ l.length ∧ i = .int .i64 k ∧ m.length ≤ k ∧ IsTim wr X B m ∧ IsMap wr M kP vI m ∧ Below w.heap.size w wr) (fun i _ => l.length - (intOf i).toNat)
  case atStart => exact ⟨0, [], Nat.zero_le _, rfl, Nat.le_refl _, h, hM, hb⟩
  case round =>
    clear h hM hb
    obtain ⟨k, m, hk, rfl, hmk, h, hM, hb⟩ := hrel
    by_cases hlt : k < l.length
    · obtain ⟨x, hx⟩ : ∃ x, l[k]? = some x := ⟨l[k], List.getElem?_eq_getElem hlt⟩
      have hR1 := hR.below hb
      obtain ⟨b, off, rfl, hbs, hcc⟩ := hR1.at_ 4 en4_len (by omega) hx
      obtain ⟨xk, xo, xs, xn⟩ := x
      have q0 : wr.cell? ⟨b, off + k * 4, none⟩ = some (.int .i64 xk) := hcc 0 _ rfl
      have q1 : wr.cell? ⟨b, off + k * 4 + 1, none⟩ = some (.int .i64 xo) := hcc 1 _ rfl
      have q2 : wr.cell? ⟨b, off + k * 4 + 2, none⟩ = some (.int .i64 xs) := hcc 2 _ rfl
      have q3 : wr.cell? ⟨b, off + k * 4 + 3, none⟩ = some (.int .i64 xn) := hcc 3 _ rfl
      clear hcc hx hR1
      have hG : Blk ((wr.alloc (.cells #[.int .i64 xk, .int .i64 xo, .int .i64 xs, .int .i64 xn] 38)).alloc (.cells #[.int .i64 xo, .int .i64 xs] 39)) wr.heap.size 38 #[.int .i64 xk, .int .i64 xo, .int .i64 xs, .int .i64 xn] := (Blk.new _ _ _).alloc _
      have hK : Blk ((wr.alloc (.cells #[.int .i64 xk, .int .i64 xo, .int .i64 xs, .int .i64 xn] 38)).alloc (.cells #[.int .i64 xo, .int .i64 xs] 39)) (wr.heap.size + 1) 39 #[.int .i64 xo, .int .i64 xs] := by
        have := Blk.new (wr.alloc (.cells #[.int .i64 xk, .int .i64 xo, .int .i64 xs, .int .i64 xn] 38)) 39 #[.int .i64 xo, .int .i64 xs]
        rw [World.size_alloc] at this
        exact this
      replace h := (h.alloc (.cells #[.int .i64 xk, .int .i64 xo, .int .i64 xs, .int .i64 xn] 38)).alloc (.cells #[.int .i64 xo, .int .i64 xs] 39)
      replace hM := (hM.alloc (.cells #[.int .i64 xk, .int .i64 xo, .int .i64 xs, .int .i64 xn] 38)).alloc (.cells #[.int .i64 xo, .int .i64 xs] 39)
      replace hb := (hb.alloc hb.size (.cells #[.int .i64 xk, .int .i64 xo, .int .i64 xs, .int .i64 xn] 38)).alloc (by have := hb.size; simp; omega) (.cells #[.int .i64 xo, .int .i64 xs] 39)
      have hcs : xk = 1 ∨ xk = 2 ∨ (xk ≠ 1 ∧ xk ≠ 2) := by omega
      rcases hcs with rfl | rfl | ⟨hk1, hk2⟩
      · obtain ⟨G, hGG⟩ : ∃ G, G = wr.heap.size := ⟨_, rfl⟩
        have HG := hid hGG
        rw [← hGG] at hG hK
        clear hGG
        have K1 := hid (set_any xo xs xn _ h)
        go_wp2_with fail
        refine K1.out.mono ?_
        rintro e4 w4 ⟨rfl, h4, hg⟩
        rw [← HG.out]
        replace hM := (Touch.of_grown hg).isMap hM (fun e => hne.1 e.symm)
        replace hK := (Touch.of_grown hg).blk hK (fun e => h.map.notBlk hK e.symm)
        replace hG := (Touch.of_grown hg).blk hG (fun e => h.map.notBlk hG e.symm)
        replace hb := hb.trans (grown_below hg hb.size hwB)
        replace h := h4
        clear h4 hg K1 q0 q1 q2 q3
        have d0 : w4.cell? ⟨G, 0, none⟩ = some (.int .i64 1) := hG.cell 0
        have d1 : w4.cell? ⟨G, 1, none⟩ = some (.int .i64 xo) := hG.cell 1
        have d2 : w4.cell? ⟨G, 2, none⟩ = some (.int .i64 xs) := hG.cell 2
        have d3 : w4.cell? ⟨G, 3, none⟩ = some (.int .i64 xn) := hG.cell 3
        have k0 : w4.cell? ⟨G + 1, 0, none⟩ = some (.int .i64 xo) := hK.cell 0
        have k1 : w4.cell? ⟨G + 1, 1, none⟩ = some (.int .i64 xs) := hK.cell 1
        go_wp2_with (first
          | (at_mapUpdate; refine wpList_store _ rfl _ _ _ 36 3 rfl keyA2 Try.underlying36 M m rfl hM (xo, xs) xn rfl rfl ?_; intro w5 hM5 hg5 hs5; replace h := h.touch (Touch.of_grown hg5) (fun e => hne.2 e) (fun e => hne.1 e); replace hK := (Touch.of_grown hg5).blk hK (fun e => hM.notBlk hK e.symm); replace hG := (Touch.of_grown hg5).blk hG (fun e => hM.notBlk hG e.symm); replace hb := hb.trans (grown_below hg5 hb.size hwM); replace hM := hM5; have hln := mset_length m (xo, xs) xn; clear hM5 hg5 hs5 d0 d1 d2 d3 k0 k1; generalize mset m (xo, xs) xn = m2 at *; have D := hid (due_any xo xs w5 h); have lk := lookA2 hM xo xs; have d0 : w5.cell? ⟨G, 0, none⟩ = some (.int .i64 1) := hG.cell 0; have d1 : w5.cell? ⟨G, 1, none⟩ = some (.int .i64 xo) := hG.cell 1; have d2 : w5.cell? ⟨G, 2, none⟩ = some (.int .i64 xs) := hG.cell 2; have d3 : w5.cell? ⟨G, 3, none⟩ = some (.int .i64 xn) := hG.cell 3; have k0 : w5.cell? ⟨G + 1, 0, none⟩ = some (.int .i64 xo) := hK.cell 0; have k1 : w5.cell? ⟨G + 1, 1, none⟩ = some (.int .i64 xs) := hK.cell 1; have s1 : ((mget m2 (xo, xs)).getD 0 != (mget m2 (xo, xs)).getD 0) = false := (by simp); have s2 : ((mget m2 (xo, xs)).isSome != (mget m2 (xo, xs)).isSome) = false := (by simp); generalize (mget m2 (xo, xs)).getD 0 = vd at *; generalize (mget m2 (xo, xs)).isSome = vo at *; clear hG hK)
          | (go_at_call 16; refine D.out.mono ?_; rintro e w9 ⟨rfl, rfl⟩))
        clear D lk d0 d1 d2 d3 k0 k1 s1 s2
        go_roundw
        case rel => exact ⟨k + 1, m2, by omega, by go_num, by omega, h, hM, hb⟩
        case measure => simp [intOf]; omega
      · obtain ⟨G, hGG⟩ : ∃ G, G = wr.heap.size := ⟨_, rfl⟩
        have HG := hid hGG
        rw [← hGG] at hG hK
        clear hGG
        have K1 := hid (cancel_any xo xs _ h)
        go_wp2_with fail
        refine K1.out.mono ?_
        rintro e4 w4 ⟨rfl, h4, hg⟩
        rw [← HG.out]
        replace hM := (Touch.of_grown hg).isMap hM (fun e => hne.1 e.symm)
        replace hK := (Touch.of_grown hg).blk hK (fun e => h.map.notBlk hK e.symm)
        replace hG := (Touch.of_grown hg).blk hG (fun e => h.map.notBlk hG e.symm)
        replace hb := hb.trans (grown_below hg hb.size hwB)
        replace h := h4
        generalize (mget m (xo, xs)).isSome = v00
        clear h4 hg K1 q0 q1 q2 q3
        have d0 : w4.cell? ⟨G, 0, none⟩ = some (.int .i64 2) := hG.cell 0
        have d1 : w4.cell? ⟨G, 1, none⟩ = some (.int .i64 xo) := hG.cell 1
        have d2 : w4.cell? ⟨G, 2, none⟩ = some (.int .i64 xs) := hG.cell 2
        have d3 : w4.cell? ⟨G, 3, none⟩ = some (.int .i64 xn) := hG.cell 3
        have k0 : w4.cell? ⟨G + 1, 0, none⟩ = some (.int .i64 xo) := hK.cell 0
        have k1 : w4.cell? ⟨G + 1, 1, none⟩ = some (.int .i64 xs) := hK.cell 1
        go_wp2_with (first
          | (at_delete; refine wpList_drop _ rfl _ _ 36 3 39 rfl keyA2 Try.underlying36 M m rfl hM (xo, xs) rfl ?_; intro w5 hM5 hg5 hs5; replace h := h.touch (Touch.of_grown hg5) (fun e => hne.2 e) (fun e => hne.1 e); replace hK := (Touch.of_grown hg5).blk hK (fun e => hM.notBlk hK e.symm); replace hG := (Touch.of_grown hg5).blk hG (fun e => hM.notBlk hG e.symm); replace hb := hb.trans (grown_below hg5 hb.size hwM); replace hM := hM5; have hln := mdel_length m (xo, xs); clear hM5 hg5 hs5 d0 d1 d2 d3 k0 k1; generalize mdel m (xo, xs) = m2 at *; have D := hid (due_any xo xs w5 h); have lk := lookA2 hM xo xs; have d0 : w5.cell? ⟨G, 0, none⟩ = some (.int .i64 2) := hG.cell 0; have d1 : w5.cell? ⟨G, 1, none⟩ = some (.int .i64 xo) := hG.cell 1; have d2 : w5.cell? ⟨G, 2, none⟩ = some (.int .i64 xs) := hG.cell 2; have d3 : w5.cell? ⟨G, 3, none⟩ = some (.int .i64 xn) := hG.cell 3; have k0 : w5.cell? ⟨G + 1, 0, none⟩ = some (.int .i64 xo) := hK.cell 0; have k1 : w5.cell? ⟨G + 1, 1, none⟩ = some (.int .i64 xs) := hK.cell 1; have s1 : ((mget m2 (xo, xs)).getD 0 != (mget m2 (xo, xs)).getD 0) = false := (by simp); have s2 : ((mget m2 (xo, xs)).isSome != (mget m2 (xo, xs)).isSome) = false := (by simp); generalize (mget m2 (xo, xs)).getD 0 = vd at *; generalize (mget m2 (xo, xs)).isSome = vo at *; clear hG hK)
          | (go_at_call 16; refine D.out.mono ?_; rintro e w9 ⟨rfl, rfl⟩))
        clear D lk d0 d1 d2 d3 k0 k1 s1 s2
        go_roundw
        case rel => exact ⟨k + 1, m2, by omega, by go_num, by omega, h, hM, hb⟩
        case measure => simp [intOf]; omega
      · have b1 : (xk == 1) = false := by simpa using hk1
        have b2 : (xk == 2) = false := by simpa using hk2
        clear hk1 hk2
        have D := hid (due_any xo xs _ h)
        have lk := lookA2 hM xo xs
        have s1 : ((mget m (xo, xs)).getD 0 != (mget m (xo, xs)).getD 0) = false := by simp
        have s2 : ((mget m (xo, xs)).isSome != (mget m (xo, xs)).isSome) = false := by simp
        generalize (mget m (xo, xs)).getD 0 = vd at *
        generalize (mget m (xo, xs)).isSome = vo at *
        clear hG hK
        go_wp2_with fail
        refine D.out.mono ?_
        rintro e w9 ⟨rfl, rfl⟩
        go_wp2_with fail
        clear D lk q0 q1 q2 q3 s1 s2 b1 b2
        go_roundw
        case rel => exact ⟨k + 1, m, by omega, by go_num, by omega, h, hM, hb⟩
        case measure => simp [intOf]; omega
    · have L := hid (tlist_any hS wr h (by omega))
      clear hR
      go_wp2_with fail
      refine L.out.mono ?_
      rintro e5 w5 ⟨A5, c5, La, rfl, hT, hO, hb5⟩
      have hLl : La.length ≤ l.length := by rw [hT.len]; exact Nat.le_trans hmk (by omega)
      have HLEN := hid hT.len
      have HT := hid hT
      replace hM := hM.next hb5
      replace hb := bthen hb hb5
      obtain ⟨A5', c5', e5', hRa⟩ := own_slice hO
      injection e5' with e51 _ _
      subst e51
      clear hO hb5 h L hT
      go_wp2_with fail
      go_loopw [86] (fun i wr => ∃ i1 : Nat, i1 ≤ La.length ∧ i = .int .i64 i1 ∧ IsMap wr M kP vI m ∧ Below w.heap.size w wr ∧ Rd wr A5 (La.flatMap en3)) (fun i _ => La.length - (intOf i).toNat)
      case atStart => exact ⟨0, Nat.zero_le _, rfl, hM, hb, hRa⟩
      case round =>
        clear hM hb hRa
        obtain ⟨i1, hi1, rfl, hM, hb, hRa⟩ := hrel
        by_cases hlt : i1 < La.length
        · obtain ⟨x, hx⟩ : ∃ x, La[i1]? = some x := ⟨La[i1], List.getElem?_eq_getElem hlt⟩
          obtain ⟨bb, off, rfl, hbs, hcc⟩ := hRa.at_ 3 en3_len (by omega) hx
          have hga := HT.out.at_ (List.mem_of_getElem? hx)
          have hprev : i1 = 0 ∨ ∃ yd, 0 < i1 ∧ yd ≤ x.d ∧ wr.cell? ⟨bb, off + (i1 - 1) * 3, none⟩ = some (.int .i64 yd) := by
            rcases Nat.eq_zero_or_pos i1 with h0 | h0
            · exact .inl h0
            · right
              have hk1 : i1 - 1 < La.length := by omega
              obtain ⟨b', off', e', _, hc'⟩ := hRa.at_ (k := i1 - 1) (x := La[i1 - 1]) 3 en3_len (by omega) (List.getElem?_eq_getElem hk1)
              simp only [Option.some.injEq, Addr.mk.injEq, and_true] at e'
              obtain ⟨rfl, rfl⟩ := e'
              exact ⟨La[i1 - 1].d, h0, due_mono HT.out.sorted (List.getElem?_eq_getElem hk1) hx (by omega), hc' 0 _ rfl⟩
          obtain ⟨xd, xo, xs⟩ := x
          simp only at hga hprev
          have q0 : wr.cell? ⟨bb, off + i1 * 3, none⟩ = some (.int .i64 xd) := hcc 0 _ rfl
          have q1 : wr.cell? ⟨bb, off + i1 * 3 + 1, none⟩ = some (.int .i64 xo) := hcc 1 _ rfl
          have q2 : wr.cell? ⟨bb, off + i1 * 3 + 2, none⟩ = some (.int .i64 xs) := hcc 2 _ rfl
          have lk := lookA2 (hM.alloc (.cells #[.int .i64 xd, .int .i64 xo, .int .i64 xs] 30)) xo xs
          rw [hga] at lk
          simp only [Option.getD_some, Option.isSome_some] at lk
          have hb1 := hb.alloc hb.size (.cells #[.int .i64 xd, .int .i64 xo, .int .i64 xs] 30)
          have hM1 := hM.alloc (.cells #[.int .i64 xd, .int .i64 xo, .int .i64 xs] 30)
          have hRa1 := hRa.below ((Below.refl _ _).alloc (Nat.le_refl _) (.cells #[.int .i64 xd, .int .i64 xo, .int .i64 xs] 30))
          have hself : (xd != xd) = false := by simp
          have H1 := hid (And.intro hb1 (And.intro hM1 hRa1))
          have hil : i1 ≤ 140737488351232 := by omega
          clear hcc hx hga hM hb hRa hb1 hM1 hRa1
          rcases hprev with h0 | ⟨yd, h0, hyd, p0⟩
          · have b0 : decide (0 < i1) = false := decide_eq_false (by omega)
            clear h0
            go_wp2_with fail
            refine wp_region_quiet_lit (by kernel_rfl) (by kernel_rfl) ?_
            repeat (first | go_big_quiet_step (fail) | quiet_step (fail))
            refine wpQuiet_nil ?_
            rintro _ ⟨nq, rfl⟩
            clear q0 q1 q2 lk hself
            go_wp2_with fail
            go_roundw
            case rel => exact ⟨i1 + 1, by omega, by go_num, H1.out.2.1.next (below_drewN (Below.refl _ _) nq), below_drewN H1.out.1 nq, H1.out.2.2.below (below_drewN (Below.refl _ _) nq)⟩
            case measure => simp [intOf]; omega
          · have b0 : decide (0 < i1) = true := decide_eq_true h0
            have b3 : decide (xd < yd) = false := decide_eq_false (by omega)
            have hk1 : i1 - 1 < La.length := by omega
            have hkw : IntKind.i64.wrap ((i1 : Int) - 1) = ((i1 - 1 : Nat) : Int) := by rw [IntWalk.i64_in _ ⟨by omega, by omega⟩]; omega
            have lb : bb < wr.heap.size := hbs
            clear hyd
            go_wp2_with fail
            refine wp_region_quiet_lit (by kernel_rfl) (by kernel_rfl) ?_
            repeat (first | go_big_quiet_step (fail) | quiet_step (fail))
            refine wpQuiet_nil ?_
            rintro _ ⟨nq, rfl⟩
            clear q0 q1 q2 lk hself hkw p0
            go_wp2_with fail
            go_roundw
            case rel => exact ⟨i1 + 1, by omega, by go_num, H1.out.2.1.next (below_drewN (Below.refl _ _) nq), below_drewN H1.out.1 nq, H1.out.2.2.below (below_drewN (Below.refl _ _) nq)⟩
            case measure => simp [intOf]; omega
        · have b1 : (La.length == m.length) = true := by have := HLEN.out; simpa using this
          clear hRa
          go_wp2_with (first
            | (at_len; refine wpList_maplen _ rfl _ 36 3 rfl Try.underlying36 M m rfl hM ?_))
          go_ret
          exact ⟨by have := HLEN.out; simp [this], hb⟩
    
    end Go.Proofs.Ythlpcbpilfakmaa
