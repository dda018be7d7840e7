/-
  Money of orders: Restore (printed by gen_chn.py).
-/
import Derived.Test.YthdmbbfppgenlaaGreatChFK
import Derived.Test.YthdmbbfppgenlaaGreatCmp
import Derived.Test.YthdmbbfppgenlaaGreatOwn
namespace Go.Proofs.YthdmbbfppgenlaaGreat
open Go.RowKit Go.Maps Go.Sort Go.ChangeShapes Go.WideShapes Go.ChangeAt Go.Deep
set_option linter.unusedVariables false

/-- What Restore leaves. -/
def RestCP (t : Int) (l : List Ca) (w : World) (e : Ending) (w' : World) : Prop :=
  Below w.heap.size w w' ∧ ((RestC t l ∧ ∃ (X XL BL BA : Nat) (ac : List (Int × CP)), e = .returned (.tuple #[.pointer (some ⟨X, 0, none⟩), .int .i64 0]) ∧ IsC w.heap.size w' X XL BL BA ac t ∧ RelC (cfind ac) l) ∨ (¬ RestC t l ∧ e = .returned (.tuple #[.pointer none, .int .i64 2])))
/-- The book and the sums in the making. -/
structure RW (w : World) (X XL BL BA BW : Nat) (ac : List (Int × CP)) (m : LMap) (wr : World) : Prop where
  c : IsCash w.heap.size wr X XL BL BA ac f0 0
  wh : IsMap wr BW kT vI m
  ne : BW ≠ BL ∧ BW ≠ BA
  lo : w.heap.size ≤ BW
  bel : Below w.heap.size w wr
theorem RW.next {w wr w' : World} {X XL BL BA BW : Nat} {ac : List (Int × CP)} {m : LMap} (h : RW w X XL BL BA BW ac m wr) (hb : Below wr.heap.size wr w') : RW w X XL BL BA BW ac m w' :=
  ⟨h.c.next hb, h.wh.next hb, h.ne, h.lo, bthen h.bel hb⟩
theorem RW.notOwn {w wr : World} {X XL BL BA BW : Nat} {ac : List (Int × CP)} {m : LMap} (h : RW w X XL BL BA BW ac m wr) : ¬ Ch.Own XL BL BA ac BW := by
  rintro (e | e | e | ⟨p, hp, e⟩)
  · exact h.wh.notBlk h.c.led.blk e
  · exact h.ne.1 e
  · exact h.ne.2 e
  · exact h.wh.notBlk (h.c.cells p hp) e.symm
/-- The sums turned. -/
theorem RW.sums {w wr w' : World} {X XL BL BA BW : Nat} {ac : List (Int × CP)} {m m' : LMap} (h : RW w X XL BL BA BW ac m wr) (hT : Touch (· = BW) wr w') (hM : IsMap w' BW kT vI m') : RW w X XL BL BA BW ac m' w' :=
  ⟨h.c.touch hT (fun e => h.wh.notBlk h.c.blk e.symm) (fun k hk e => h.notOwn (e ▸ hk)), hM, h.ne, h.lo, h.bel.trans (hT.below h.bel.size (fun k hk => by rw [hk]; exact h.lo))⟩
/-- An account more. -/
theorem RW.more {w wr w' : World} {X XL BL BA BW : Nat} {ac : List (Int × CP)} {m : LMap} {p : CP} {o : Int} (h : RW w X XL BL BA BW ac m wr) (hm : mget ac o = none) (hg : Blk wr p.g 35 (celC p.a)) (hf : ∀ q ∈ ac, q.2.g ≠ p.g) (hn : w.heap.size ≤ p.g)
    (hM : IsMap w' BA kC vCP (mset ac o p)) (hgr : wr.grownBy w' (some BA)) : RW w X XL BL BA BW (mset ac o p) m w' :=
  ⟨h.c.add hm hg hf hn hM hgr, (Touch.of_grown hgr).isMap h.wh (fun e => h.ne.2 e), h.ne, h.lo, h.bel.trans ((Touch.of_grown hgr).below h.bel.size (fun k hk => by rw [hk]; exact h.c.low.2.2.2.1))⟩

set_option maxRecDepth 100000 in
set_option maxHeartbeats 64000000 in
theorem crest_any (hSR : SortsR) (t : Int) (l : List Ca) (A : Option Addr) (cp : Nat) (w : World) (hR : Rd w A (l.flatMap enC9)) (hl : l.length ≤ 140737488355328) :
    Calls Tryz.prog 17 #[.int .i64 t, .slice A l.length cp] w (RestCP t l w) := by
  have hmm := @run_makeMap Tryz.prog
  have HSR := hid hSR
  clear hSR
  go_enter Tryz.func17, Tryz.ntmps17
  go_wp2_with fail
  refine (cnew_any _).mono ?_
  rintro e w1 ⟨X, XL, BL, BA, rfl, h, hb⟩
  have hb1 : Below w1.heap.size w1 (w1.alloc (.map #[] 0)) := (Below.refl _ _).alloc (Nat.le_refl _) _
  have HRW : Hid (RW w X XL BL BA w1.heap.size [] [] (w1.alloc (.map #[] 0))) := hid ⟨h.next hb1, IsMap.made w1 kT vI, ⟨by obtain ⟨m, h1, _⟩ := h.led.map; exact (Nat.ne_of_lt h1.lt).symm, (Nat.ne_of_lt h.acs.lt).symm⟩, hb.size, bthen hb hb1⟩
  clear h hb hb1
  go_wp2_with fail
  obtain ⟨BW, hBW⟩ : ∃ BW, BW = w1.heap.size := ⟨_, rfl⟩
  rw [← hBW] at HRW ⊢
  clear hBW hmm
  go_loopw [7, 8, 25] (fun lf la i wr => ∃ (k : Nat) (left last : Int) (ac : List (Int × CP)) (m : LMap), k ≤ l.length ∧ i = .int .i64 k ∧ lf = .int .i64 left ∧ la = .int .i64 last ∧ Hid (RestT t l k left last ∧ MadeC l k ac ∧ Who m (ledC ac)) ∧ Hid (RW w X XL BL BA BW ac m wr)) (fun _ _ i _ => l.length - nOf i)
  case atStart => exact ⟨0, t, 0, [], [], Nat.zero_le _, rfl, rfl, rfl, hid ⟨RestT.zero t l, MadeC.zero l, Who.nil⟩, HRW⟩
  case round =>
    clear HRW
    obtain ⟨k, left, last, ac, m, hk, rfl, rfl, rfl, HP, HRW⟩ := hrel
    by_cases hlt : k < l.length
    · obtain ⟨y, hy⟩ : ∃ y, l[k]? = some y := ⟨l[k], List.getElem?_eq_getElem hlt⟩
      obtain ⟨b, off, rfl, _, hcc⟩ := (hR.below HRW.out.bel).at_ 9 enC9_len (by omega) hy
      have HY := hid hy
      have KF := hid (fun w => cfitA_any y w)
      have KS := hid (fun hf w => csumsA_any y hf w)
      obtain ⟨yo, yc, yst, ylv, ynet, ytax, yap, ywr, ydep⟩ := y
      simp only [celC] at KF KS
      have q0 : wr.cell? ⟨b, off + k * 9, none⟩ = some (.int .i64 yo) := hcc 0 _ rfl
      have q1 : wr.cell? ⟨b, off + k * 9 + 1, none⟩ = some (.int .i64 yc) := hcc 1 _ rfl
      have q2 : wr.cell? ⟨b, off + k * 9 + 2, none⟩ = some (.int .i64 yst) := hcc 2 _ rfl
      have q3 : wr.cell? ⟨b, off + k * 9 + 3, none⟩ = some (.int .i64 ylv) := hcc 3 _ rfl
      have q4 : wr.cell? ⟨b, off + k * 9 + 4, none⟩ = some (.int .i64 ynet) := hcc 4 _ rfl
      have q5 : wr.cell? ⟨b, off + k * 9 + 5, none⟩ = some (.int .i64 ytax) := hcc 5 _ rfl
      have q6 : wr.cell? ⟨b, off + k * 9 + 6, none⟩ = some (.int .i64 yap) := hcc 6 _ rfl
      have q7 : wr.cell? ⟨b, off + k * 9 + 7, none⟩ = some (.int .i64 ywr) := hcc 7 _ rfl
      have q8 : wr.cell? ⟨b, off + k * 9 + 8, none⟩ = some (.int .i64 ydep) := hcc 8 _ rfl
      have hwa : Below wr.heap.size wr (wr.alloc (.cells #[.int .i64 yo, .int .i64 yc, .int .i64 yst, .int .i64 ylv, .int .i64 ynet, .int .i64 ytax, .int .i64 yap, .int .i64 ywr, .int .i64 ydep] 35)) := (Below.refl _ _).alloc (Nat.le_refl _) _
      have HZ := hid (And.intro (HRW.out.next hwa) (Blk.new wr 35 #[.int .i64 yo, .int .i64 yc, .int .i64 yst, .int .i64 ylv, .int .i64 ynet, .int .i64 ytax, .int .i64 yap, .int .i64 ywr, .int .i64 ydep]))
      clear hcc hy hwa HRW
      go_upto_region 7 with fail
      clear q0 q1 q2 q3 q4 q5 q6 q7 q8
      obtain ⟨wz, hwz⟩ : ∃ wz, wz = wr.alloc (.cells #[.int .i64 yo, .int .i64 yc, .int .i64 yst, .int .i64 ylv, .int .i64 ynet, .int .i64 ytax, .int .i64 yap, .int .i64 ywr, .int .i64 ydep] 35) := ⟨_, rfl⟩
      obtain ⟨G, hG⟩ : ∃ G, G = wr.heap.size := ⟨_, rfl⟩
      rw [← hwz, ← hG] at HZ ⊢
      clear hwz hG
      go_cut [42] (fun v wx => v = .bool (!(fitA (⟨yo, yc, yst, ylv, ynet, ytax, yap, ywr, ydep⟩ : Ca) && decide (last < yo) && btw t 1152921504606846976)) ∧ Below wz.heap.size wz wx)
      case first =>
        have hB := HZ.out.2
        have g0 : wz.cell? ⟨G, 0, none⟩ = some (.int .i64 yo) := hB.cell 0
        have g1 : wz.cell? ⟨G, 1, none⟩ = some (.int .i64 yc) := hB.cell 1
        have g2 : wz.cell? ⟨G, 2, none⟩ = some (.int .i64 yst) := hB.cell 2
        have g3 : wz.cell? ⟨G, 3, none⟩ = some (.int .i64 ylv) := hB.cell 3
        have g4 : wz.cell? ⟨G, 4, none⟩ = some (.int .i64 ynet) := hB.cell 4
        have g5 : wz.cell? ⟨G, 5, none⟩ = some (.int .i64 ytax) := hB.cell 5
        have g6 : wz.cell? ⟨G, 6, none⟩ = some (.int .i64 yap) := hB.cell 6
        have g7 : wz.cell? ⟨G, 7, none⟩ = some (.int .i64 ywr) := hB.cell 7
        have g8 : wz.cell? ⟨G, 8, none⟩ = some (.int .i64 ydep) := hB.cell 8
        have lG := hB.lt
        have HB := hid hB
        clear hB HP KS
        go_wp2_with fail
        refine (KF.out _).mono ?_
        rintro e w5 ⟨rfl, hb5⟩
        clear g0 g1 g2 g3 g4 g5 g6 g7 g8 lG KF
        have g0 : w5.cell? ⟨G, 0, none⟩ = some (.int .i64 yo) := (HB.out.next hb5).cell 0
        have lG := (HB.out.next hb5).lt
        have HB5 := hid hb5
        clear HB hb5
        cases hfa : fitA (⟨yo, yc, yst, ylv, ynet, ytax, yap, ywr, ydep⟩ : Ca) with
        | false =>
          have HFA := hid hfa
          clear hfa
          go_wp2_with fail
          go_meet
          exact ⟨by rw [HFA.out]; rfl, HB5.out⟩
        | true =>
          have HFA := hid hfa
          clear hfa
          by_cases ho : yo ≤ last
          · have tlo : decide (yo ≤ last) = true := decide_eq_true ho
            have HV := hid (show decide (last < yo) = false from decide_eq_false (by omega))
            clear ho
            go_wp2_with fail
            go_meet
            exact ⟨by rw [HFA.out, HV.out]; simp, HB5.out⟩
          · have tlo : decide (yo ≤ last) = false := decide_eq_false ho
            have HV := hid (show decide (last < yo) = true from decide_eq_true (by omega))
            clear ho
            go_wp2_with fail
            refine (btw_any _ _ _).mono ?_
            rintro e w6 ⟨rfl, rfl⟩
            go_wp2_with fail
            go_meet
            exact ⟨by rw [HFA.out, HV.out]; simp, HB5.out⟩
      case rest =>
        obtain ⟨rfl, hwx⟩ := hcut
        obtain ⟨wv, hwv⟩ : ∃ wv, wv = wc := ⟨_, rfl⟩
        rw [← hwv] at hwx ⊢
        clear hwv
        have HZ2 := hid (And.intro (HZ.out.1.next hwx) (HZ.out.2.next hwx))
        clear hwx HZ KF
        cases hok : (fitA (⟨yo, yc, yst, ylv, ynet, ytax, yap, ywr, ydep⟩ : Ca) && decide (last < yo) && btw t 1152921504606846976) with
        | false =>
          have HNO := hid (HP.out.1.bad HY.out hok)
          clear hok HP KS HY
          go_wp2_with fail
          go_ret2
          exact ⟨HZ2.out.1.bel, .inr ⟨HNO.out, rfl⟩⟩
        | true =>
          obtain ⟨hok1, ho3⟩ := (Bool.and_eq_true _ _).mp hok
          obtain ⟨ho1, ho2⟩ := (Bool.and_eq_true _ _).mp hok1
          have hfit := (fitA_iff _).1 ho1
          have hol := of_decide_eq_true ho2
          have htb := (btw_iff _ _).1 ho3
          clear hok hok1 ho1 ho2 ho3
          have hw0 := wtR_nonneg HP.out.1.fit
          have hrem := HP.out.1.rem
          have hlb : 0 ≤ left ∧ left ≤ 1152921504606846976 := by
            by_cases h0 : k = 0
            · have := hrem; subst h0; simp [wtR] at this; omega
            · have := HP.out.1.ge (by omega); omega
          have HFIT := hid (And.intro hfit (And.intro hol htb))
          have hd0 : 0 ≤ ydep ∧ ydep ≤ 576460752303423488 := ⟨hfit.d0, hfit.d1⟩
          have hn0 : 0 ≤ ynet ∧ ynet ≤ 281474976710656 := ⟨hfit.n0, hfit.n1⟩
          have ht0 : 0 ≤ ytax ∧ ytax ≤ 281474976710656 := ⟨hfit.t0, hfit.t1⟩
          have hp0 : 0 ≤ yap ∧ yap ≤ ynet + ytax := ⟨hfit.p0, hfit.p1⟩
          have hr0 : 0 ≤ ywr ∧ ywr ≤ ynet + ytax - yap := ⟨hfit.w0, hfit.w1⟩
          obtain ⟨wa, hwa⟩ : ∃ wa, wa = wt (⟨yo, yc, yst, ylv, ynet, ytax, yap, ywr, ydep⟩ : Ca) := ⟨_, rfl⟩
          have HWA := hid hwa
          have hB := HZ2.out.2
          have g0 : wv.cell? ⟨G, 0, none⟩ = some (.int .i64 yo) := hB.cell 0
          have g2 : wv.cell? ⟨G, 2, none⟩ = some (.int .i64 yst) := hB.cell 2
          have g4 : wv.cell? ⟨G, 4, none⟩ = some (.int .i64 ynet) := hB.cell 4
          have g5 : wv.cell? ⟨G, 5, none⟩ = some (.int .i64 ytax) := hB.cell 5
          have g6 : wv.cell? ⟨G, 6, none⟩ = some (.int .i64 yap) := hB.cell 6
          have g7 : wv.cell? ⟨G, 7, none⟩ = some (.int .i64 ywr) := hB.cell 7
          have g8 : wv.cell? ⟨G, 8, none⟩ = some (.int .i64 ydep) := hB.cell 8
          have lG := hB.lt
          clear hB hwa hw0 hrem hfit hol htb
          obtain ⟨hlb1, hlb2⟩ := hlb
          obtain ⟨hd1, hd2⟩ := hd0
          go_upto_if 49 with fail
          go_cut [7] (fun v wx => v = .int .i64 (left - wa) ∧ wx = wv)
          case first =>
            obtain ⟨hn1, hn2⟩ := hn0
            obtain ⟨ht1, ht2⟩ := ht0
            obtain ⟨hp1, hp2⟩ := hp0
            obtain ⟨hr1, hr2⟩ := hr0
            by_cases hs : yst = 1
            · have ts : (yst == 1) = true := by simp [hs]
              have HV := hid (show left - wa = left - ydep - (ynet + ytax + yap + ywr) from by rw [HWA.out, wt_eq]; simp only [hs, if_true]; omega)
              clear HZ2 HP KS HY HFIT
              rw [ts]
              clear hs ts
              go_wp2_with fail
              go_meet
              exact ⟨by rw [HV.out], rfl⟩
            · have ts : (yst == 1) = false := by simp [hs]
              have HV := hid (show left - wa = left - ydep from by rw [HWA.out, wt_eq]; simp only [hs, if_false]; omega)
              clear HZ2 HP KS HY HFIT
              rw [ts]
              clear hs ts
              go_wp2_with fail
              go_meet
              exact ⟨by rw [HV.out], rfl⟩
          case rest =>
            obtain ⟨rfl, hwx⟩ := hcut
            rw [hwx]
            clear hwx hlb1 hlb2 hd1 hd2 hn0 ht0 hp0 hr0 g2 g4 g5 g6 g7 g8
            obtain ⟨lf, hlf⟩ : ∃ lf, lf = left - wa := ⟨_, rfl⟩
            rw [← hlf]
            have HLF := hid hlf
            clear hlf
            by_cases hng : lf < 0
            · have tn : decide (lf < 0) = true := decide_eq_true hng
              have HNO := hid (HP.out.1.poor HY.out (by rw [← HWA.out, ← HLF.out]; exact hng))
              clear hng HP KS HY HFIT
              go_wp2_with fail
              go_ret2
              exact ⟨HZ2.out.1.bel, .inr ⟨HNO.out, rfl⟩⟩
            · have tn : decide (lf < 0) = false := decide_eq_false hng
              have HT1 := hid (HP.out.1.next HY.out HFIT.out.1 HFIT.out.2.1 HFIT.out.2.2 (by rw [← HWA.out, ← HLF.out]; omega))
              rw [← HWA.out, ← HLF.out] at HT1
              have HMN := hid (HP.out.2.1.none (o := yo) (fun a ha e => by have := HP.out.1.lst a ha; have := HFIT.out.2.1; omega))
              clear hng HWA HLF
              have hB := HZ2.out.2
              have g1 : wv.cell? ⟨G, 1, none⟩ = some (.int .i64 yc) := hB.cell 1
              have g2 : wv.cell? ⟨G, 2, none⟩ = some (.int .i64 yst) := hB.cell 2
              have g3 : wv.cell? ⟨G, 3, none⟩ = some (.int .i64 ylv) := hB.cell 3
              have g4 : wv.cell? ⟨G, 4, none⟩ = some (.int .i64 ynet) := hB.cell 4
              have g5 : wv.cell? ⟨G, 5, none⟩ = some (.int .i64 ytax) := hB.cell 5
              have g6 : wv.cell? ⟨G, 6, none⟩ = some (.int .i64 yap) := hB.cell 6
              have g7 : wv.cell? ⟨G, 7, none⟩ = some (.int .i64 ywr) := hB.cell 7
              have g8 : wv.cell? ⟨G, 8, none⟩ = some (.int .i64 ydep) := hB.cell 8
              have hwa : Below wv.heap.size wv ((wv.alloc (.cells #[.int .i64 yo, .int .i64 yc, .int .i64 yst, .int .i64 ylv, .int .i64 ynet, .int .i64 ytax, .int .i64 yap, .int .i64 ywr, .int .i64 ydep] 35)).drew) := ((Below.refl _ _).alloc (Nat.le_refl _) _).trans (below_drewN (Below.refl _ _) 1)
              have HD := hid (And.intro (HZ2.out.1.next hwa) (And.intro (hB.next hwa) (show Blk ((wv.alloc (.cells #[.int .i64 yo, .int .i64 yc, .int .i64 yst, .int .i64 ylv, .int .i64 ynet, .int .i64 ytax, .int .i64 yap, .int .i64 ywr, .int .i64 ydep] 35)).drew) wv.heap.size 35 #[.int .i64 yo, .int .i64 yc, .int .i64 yst, .int .i64 ylv, .int .i64 ynet, .int .i64 ytax, .int .i64 yap, .int .i64 ywr, .int .i64 ydep] from Blk.new wv _ _)))
              have HF := hid (show ∀ q ∈ ac, q.2.g ≠ wv.heap.size from fun q hq => Nat.ne_of_lt (HZ2.out.1.c.cells q hq).lt)
              have HN := hid (show w.heap.size ≤ wv.heap.size from HZ2.out.1.bel.size)
              clear hB hwa
              go_upto_region 16 with fail
              clear g0 g1 g2 g3 g4 g5 g6 g7 g8 lG tn
              obtain ⟨wd, hwd⟩ : ∃ wd, wd = wv.alloc (.cells #[.int .i64 yo, .int .i64 yc, .int .i64 yst, .int .i64 ylv, .int .i64 ynet, .int .i64 ytax, .int .i64 yap, .int .i64 ywr, .int .i64 ydep] 35) := ⟨_, rfl⟩
              obtain ⟨T, hTT⟩ : ∃ T, T = wv.heap.size := ⟨_, rfl⟩
              rw [← hwd] at HD ⊢
              rw [← hTT] at HD HF HN ⊢
              have cA : wd.drew.cell? ⟨X, 1, none⟩ = some (.map (some BA)) := HD.out.1.c.cellA
              have g0 : wd.drew.cell? ⟨G, 0, none⟩ = some (.int .i64 yo) := HD.out.2.1.cell 0
              have lX := HD.out.1.c.blk.lt
              have lG := HD.out.2.1.lt
              clear hwd hTT HZ2
              refine wp_tail 6 (by kernel_rfl) (by kernel_rfl) ?_
              simp only [List.take_succ_cons, List.take_zero, List.drop_succ_cons, List.drop_zero]
              repeat still_step
              refine wpStill_nil ?_
              go_wp2_with (first
                | (at_mapUpdate; refine wpList_store _ rfl _ _ _ 64 59 rfl keyC Tryz.underlying64 BA ac rfl HD.out.1.c.acs yo ⟨T, (⟨yo, yc, yst, ylv, ynet, ytax, yap, ywr, ydep⟩ : Ca)⟩ rfl rfl ?_; intro w4 hM4 hg4 hs4; have hB4 := (Touch.of_grown hg4).blk HD.out.2.1 (fun e => HD.out.1.c.acs.notBlk HD.out.2.1 e.symm); clear g0; have g0 : w4.cell? ⟨G, 0, none⟩ = some (.int .i64 yo) := hB4.cell 0; have g1 : w4.cell? ⟨G, 1, none⟩ = some (.int .i64 yc) := hB4.cell 1; have g2 : w4.cell? ⟨G, 2, none⟩ = some (.int .i64 yst) := hB4.cell 2; have g3 : w4.cell? ⟨G, 3, none⟩ = some (.int .i64 ylv) := hB4.cell 3; have g4 : w4.cell? ⟨G, 4, none⟩ = some (.int .i64 ynet) := hB4.cell 4; have g5 : w4.cell? ⟨G, 5, none⟩ = some (.int .i64 ytax) := hB4.cell 5; have g6 : w4.cell? ⟨G, 6, none⟩ = some (.int .i64 yap) := hB4.cell 6; have g7 : w4.cell? ⟨G, 7, none⟩ = some (.int .i64 ywr) := hB4.cell 7; have g8 : w4.cell? ⟨G, 8, none⟩ = some (.int .i64 ydep) := hB4.cell 8; have lG4 := hB4.lt))
              have hRW4 := HD.out.1.more HMN.out (p := ⟨T, (⟨yo, yc, yst, ylv, ynet, ytax, yap, ywr, ydep⟩ : Ca)⟩) HD.out.2.2 HF.out HN.out hM4 hg4
              have HMD := hid (HP.out.2.1.next HY.out HMN.out T)
              have hinv := ledC_inv (ac := ac) (t := t) (fun q hq => HP.out.1.fit _ (HP.out.2.1.fit hq).1) (by rw [HP.out.2.1.wts]; have := HP.out.1.rem; by_cases h0 : k = 0; (subst h0; have := HFIT.out.2.2; simp [wtR]; omega); (have := HP.out.1.ge (by omega); omega)) HFIT.out.2.2.2
              have hpost := ledC_post HD.out.1.c.acs.nodup yo yc ⟨T, (⟨yo, yc, yst, ylv, ynet, ytax, yap, ywr, ydep⟩ : Ca)⟩ (sumsE (⟨yo, yc, yst, ylv, ynet, ytax, yap, ywr, ydep⟩ : Ca)) (by unfold acOf cfind; rw [HMN.out]; rfl) rfl (fun kk => by rw [at_sumsE]; unfold acOf cfind; rw [HMN.out]; simp [con_new])
              have hs1 := sumsE_a (⟨yo, yc, yst, ylv, ynet, ytax, yap, ywr, ydep⟩ : Ca)
              have hs2 := sumsE_n HFIT.out.1
              have hs3 := sumsE_len (⟨yo, yc, yst, ylv, ynet, ytax, yap, ywr, ydep⟩ : Ca)
              replace KS := hid (KS.out HFIT.out.1 w4)
              have hcc1 : 1 ≤ yc ∧ yc ≤ 64 := ⟨HFIT.out.1.c1, HFIT.out.1.c2⟩
              have htt := HFIT.out.2.2
              generalize sumsE (⟨yo, yc, yst, ylv, ynet, ytax, yap, ywr, ydep⟩ : Ca) = es at hpost hs1 hs2 hs3 KS
              have HPO := hid hpost
              have HS := hid (And.intro hs1 hs2)
              have HINV := hid hinv
              have HR4 := hid (And.intro hRW4 hB4)
              have HWH := hid HP.out.2.2
              clear cA lX lG hM4 hg4 hs4 HD HF HN hpost hs1 hs2 hinv hRW4 hB4 HMN HP
              refine KS.out.mono ?_
              rintro e w5 ⟨⟨A9, c9, rfl, hO9⟩, hb5⟩
              have hst : Hid (Who m (addF (ledC ac) yc (es.take 0))) := HWH
              have HR5 := hid (And.intro (HR4.out.1.next hb5) (And.intro (HR4.out.2.next hb5) (own_rd hO9)))
              have HA9 := hid (show ∀ b', A9.map (·.block) = some b' → b' ≠ BW from fun b' hb' e => by
                obtain ⟨c1, c2⟩ := own_blk hO9 b' hb'
                have := HR4.out.1.wh.lt
                omega)
              clear g0 g1 g2 g3 g4 g5 g6 g7 g8 lG4 hO9 hb5 KS HR4 HWH
              go_wp2_with fail
              go_loopw [77] (fun i wr => ∃ (j : Nat) (m' : LMap), j ≤ es.length ∧ i = .int .i64 j ∧ Hid (Who m' (addF (ledC ac) yc (es.take j))) ∧ Hid (RW w X XL BL BA BW (mset ac yo ⟨T, (⟨yo, yc, yst, ylv, ynet, ytax, yap, ywr, ydep⟩ : Ca)⟩) m' wr ∧ Blk wr G 35 #[.int .i64 yo, .int .i64 yc, .int .i64 yst, .int .i64 ylv, .int .i64 ynet, .int .i64 ytax, .int .i64 yap, .int .i64 ywr, .int .i64 ydep] ∧ Rd wr A9 (es.flatMap enE))) (fun i _ => es.length - nOf i)
              case atStart => exact ⟨0, m, Nat.zero_le _, rfl, hst, HR5⟩
              case round =>
                clear hst HR5
                obtain ⟨j, m', hj, rfl, HW, HR⟩ := hrel
                by_cases hjl : j < es.length
                · skip
                  obtain ⟨x, hx⟩ : ∃ x, es[j]? = some x := ⟨es[j], List.getElem?_eq_getElem hjl⟩
                  obtain ⟨b', off', hAE, _, hcc⟩ := HR.out.2.2.at_ 2 enE_len (by omega) hx
                  obtain ⟨ha1, ha2⟩ := HS.out.1 x (List.mem_of_getElem? hx)
                  obtain ⟨hn1, hn2⟩ := HS.out.2 x (List.mem_of_getElem? hx)
                  have HTK := hid (show addF (ledC ac) yc (es.take (j + 1)) = updF (addF (ledC ac) yc (es.take j)) (yc, x.a) x.n from by rw [takeE_snoc hx]; exact addF_snoc _ _ _ _)
                  have hbd : -(5188146770730811392 : Int) ≤ addF (ledC ac) yc (es.take j) (yc, x.a) ∧ addF (ledC ac) yc (es.take j) (yc, x.a) ≤ 5188146770730811392 := by
                    rw [addF_apply]
                    have h1 := HINV.out.one (yc, x.a)
                    have h2 := at_take_bd (es := es.take j) (fun z hz => HS.out.2 z (List.mem_of_mem_take hz)) x.a
                    have h3 : (es.take j).length ≤ 7 := by rw [List.length_take]; omega
                    have h4 : ((es.take j).map fun z => if (yc, x.a) = (yc, z.a) then z.n else 0).sum = at_ (es.take j) x.a := by
                      unfold at_
                      refine sum_map_congr (fun z _ => ?_)
                      by_cases h : x.a = z.a
                      · rw [if_pos (by rw [h]), if_pos h]
                      · rw [if_neg (fun e => h (by injection e)), if_neg h]
                    rw [h4]
                    omega
                  obtain ⟨xa, xn⟩ := x
                  simp only at ha1 ha2 hn1 hn2 hbd HTK
                  have HA := hid (show 1 ≤ (yc, xa).1 ∧ (yc, xa).1 ≤ 64 ∧ 0 ≤ (yc, xa).2 ∧ (yc, xa).2 < 6 from ⟨hcc1.1, hcc1.2, ha1, ha2⟩)
                  subst hAE
                  have q0 : wr.cell? ⟨b', off' + j * 2, none⟩ = some (.int .i64 xa) := hcc 0 _ rfl
                  have q1 : wr.cell? ⟨b', off' + j * 2 + 1, none⟩ = some (.int .i64 xn) := hcc 1 _ rfl
                  obtain ⟨v0, hv0⟩ : ∃ v0, v0 = addF (ledC ac) yc (es.take j) (yc, xa) := ⟨_, rfl⟩
                  rw [← hv0] at hbd
                  have hgv := HW.out.get (yc, xa)
                  rw [← hv0] at hgv
                  have HV0 := hid hv0
                  have hWb : Below wr.heap.size wr ((wr.alloc (.cells #[.int .i64 xa, .int .i64 xn] 84)).drew) := ((Below.refl _ _).alloc (Nat.le_refl _) _).trans (below_drewN (Below.refl _ _) 1)
                  have HG0 := hid (show Blk ((wr.alloc (.cells #[.int .i64 xa, .int .i64 xn] 84)).drew) wr.heap.size 84 #[.int .i64 xa, .int .i64 xn] from Blk.new wr _ _)
                  have HWb := hid hWb
                  clear hWb hv0 hcc hx ha1 ha2
                  go_upto_region 20 with fail
                  clear q0 q1
                  obtain ⟨W, hW⟩ : ∃ W, W = wr.alloc (.cells #[.int .i64 xa, .int .i64 xn] 84) := ⟨_, rfl⟩
                  obtain ⟨E, hE⟩ : ∃ E, E = wr.heap.size := ⟨_, rfl⟩
                  have hEB : BW < E := by rw [hE]; exact HR.out.1.wh.lt
                  have hEG : G < E := by rw [hE]; exact HR.out.2.1.lt
                  rw [← hW, ← hE] at HG0
                  rw [← hW] at HWb
                  rw [← hW, ← hE]
                  have hRW := HR.out.1.next HWb.out
                  have hGW := HR.out.2.1.next HWb.out
                  have hFW := HR.out.2.2.below HWb.out
                  clear hW hE HWb HR
                  obtain ⟨st, w7, he1, he2, he3, he4, he5⟩ := hRW.wh.entry keySm Tryz.underlying81 0 zero64 (yc, xa)
                  have hl0 := hRW.wh.look keySm Tryz.underlying81 (zero64 _) (yc, xa)
                  have hl1 := he2.look keySm Tryz.underlying81 (zero64 _) (yc, xa)
                  rw [show (Value.int .i64 0) = vI 0 from rfl, looked_vI] at hl0 hl1
                  rw [mget_mset, if_pos rfl] at hl1
                  simp only [Option.getD_some] at hl1
                  rw [hgv] at hl0 hl1 he1
                  simp only [kT, vI] at hl0 hl1 he1
                  have z1 : W.drew.cell? ⟨G, 1, none⟩ = some (.int .i64 yc) := hGW.cell 1
                  have z2 : W.drew.cell? ⟨E, 0, none⟩ = some (.int .i64 xa) := HG0.out.cell 0
                  have z3 : W.drew.cell? ⟨E, 1, none⟩ = some (.int .i64 xn) := HG0.out.cell 1
                  have hneG : some G ≠ some BW := fun e => hRW.wh.notBlk hGW (by injection e with e; exact e.symm)
                  have hneE : some E ≠ some BW := fun e => by injection e; omega
                  have y1 : w7.cell? ⟨G, 1, none⟩ = some (.int .i64 yc) := (hGW.grown he3 hneG).cell 1
                  have y2 : w7.cell? ⟨E, 0, none⟩ = some (.int .i64 xa) := (HG0.out.grown he3 hneE).cell 0
                  have y3 : w7.cell? ⟨E, 1, none⟩ = some (.int .i64 xn) := (HG0.out.grown he3 hneE).cell 1
                  obtain ⟨s, hs⟩ : ∃ s, s = v0 + xn := ⟨_, rfl⟩
                  have HSV := hid hs
                  clear hs
                  refine wp_region_entry 10 12 w7 (by omega) (by kernel_rfl) (by kernel_rfl) ?_
                  simp only [List.take_succ_cons, List.take_zero, List.drop_succ_cons, List.drop_zero]
                  refine wpE_read rfl rfl (.map (some BW)) (fun b => by cases b <;> (simp only [wAt]; go_simp)) ?_
                  refine wpE_read rfl rfl (.pointer (some ⟨G, 1, none⟩)) (fun b => by cases b <;> (simp only [wAt]; go_simp)) ?_
                  refine wpE_read rfl rfl (.int .i64 yc) (fun b => by cases b <;> (simp only [wAt]; go_simp)) ?_
                  refine wpE_read rfl rfl (.pointer (some ⟨E, 0, none⟩)) (fun b => by cases b <;> (simp only [wAt]; go_simp)) ?_
                  refine wpE_read rfl rfl (.int .i64 xa) (fun b => by cases b <;> (simp only [wAt]; go_simp)) ?_
                  refine wpE_read rfl rfl (.agg #[.int .i64 yc, .int .i64 xa, .int .i64 0]) (fun b => by cases b <;> (simp only [wAt]; go_simp)) ?_
                  refine wpE_read rfl rfl (.int .i64 v0) (fun b => by cases b <;> (simp only [wAt]; go_simp)) ?_
                  refine wpE_read rfl rfl (.pointer (some ⟨E, 1, none⟩)) (fun b => by cases b <;> (simp only [wAt]; go_simp)) ?_
                  refine wpE_read rfl rfl (.int .i64 xn) (fun b => by cases b <;> (simp only [wAt]; go_simp)) ?_
                  refine wpE_read rfl rfl (.int .i64 s) (fun b => by cases b <;> (simp only [wAt]; go_simp; rw [HSV.out]; exact IntWalk.i64_in _ (by omega))) ?_
                  refine wpE_turn rfl (.tuple #[.int .i64 v0, goInt st]) (by go_simp) ?_
                  refine wpE_read rfl rfl (goInt st) (fun b => by cases b <;> (simp only [wAt]; go_simp)) ?_
                  refine wpE_nil fun K hK => ?_
                  go_simp
                  refine hK _ ?_
                  clear hK K
                  refine wpList_entryStore (kE := kT) (vE := vI) w7 w7 rfl (Operand.tmp 81) (Operand.tmp 92) (Operand.tmp 90) 81 rfl BW st m' (yc, xa) s rfl rfl rfl rfl (hid he5) ?_
                  intro w3 hM3 hg3 hs3
                  have hT3 : Touch (· = BW) W.drew w3 := (Touch.of_grown he3).then (Touch.of_grown hg3)
                  have HR3 := hid (And.intro (hRW.sums hT3 hM3) (And.intro (hT3.blk hGW (fun e => hneG (by rw [e]))) (hT3.rd hFW (fun b hb e => HA9.out b hb e))))
                  have HW3 : Hid (Who (mset m' (yc, xa) s) (addF (ledC ac) yc (es.take (j + 1)))) := hid (by rw [HTK.out, HSV.out, HV0.out]; exact HW.out.put (yc, xa) xn HA.out)
                  clear he1 he2 he3 he4 he5 hg3 hs3 hM3 hl0 hl1 z1 z2 z3 y1 y2 y3 hT3 hRW hGW hFW HG0 hgv hneG hneE hEB hEG hbd hn1 hn2 HSV HV0 HA HTK
                  go_wp2_with fail
                  go_roundw
                  case rel => exact ⟨j + 1, _, by omega, by go_num, HW3, HR3⟩
                  case measure => simp [nOf]; omega
                · have hj' : j = es.length := by omega
                  subst hj'
                  have HW2 : Hid (Who m' (ledC (mset ac yo ⟨T, (⟨yo, yc, yst, ylv, ynet, ytax, yap, ywr, ydep⟩ : Ca)⟩))) := hid (by rw [← HPO.out]; have := HW.out; rw [List.take_length] at this; exact this)
                  clear HW hj hjl HPO HS HINV HA9
                  go_wp2_with fail
                  go_roundw
                  case rel => exact ⟨k + 1, lf, yo, _, m', by omega, by go_num, rfl, rfl, hid ⟨HT1.out, HMD.out, HW2.out⟩, hid HR.out.1⟩
                  case measure => simp [nOf]; omega
    · skip
      have hk' : k = l.length := by omega
      subst hk'
      clear hk hlt hl hR
      obtain ⟨wu, hwu⟩ : ∃ wu, wu = wr := ⟨_, rfl⟩
      rw [← hwu] at HRW ⊢
      clear hwu
      obtain ⟨i0, hi, hz0, hz1, hz2⟩ := info_parts info_sm
      have hGM := HRW.out.wh
      have HFT := hid (fun q (hq : q ∈ ac) => HP.out.1.fit _ (HP.out.2.1.fit hq).1)
      have HWT := hid (show wts ac ≤ 1152921504606846976 ∧ (0 ≤ t → wts ac ≤ t) from by
        rw [HP.out.2.1.wts]
        have hrem := HP.out.1.rem
        by_cases h0 : l.length = 0
        · rw [h0]; simp [wtR]
        · have h1 := HP.out.1.ge (by omega)
          have h2 := HP.out.1.tb (by omega)
          omega)
      have HL := hid (led_len (someL_nodup hGM.nodup) (HP.out.2.2.led hGM.nodup) (ledC_inv HFT.out (Int.le_refl _) HWT.out.1))
      have HND := hid hGM.nodup
      go_wp2_with (at_range; refine wpList_range _ rfl _ 81 86 2 rfl Tryz.underlying81 BW m rfl hGM ?_; intro w5 hI hb hz)
      go_frame
      go_loopw [15] (fun v wq => ∃ lft vs : LMap, wq.ownsRow wu.heap.size 86 3 v (someL vs).length (((someL vs).map toS).flatMap enS) ∧ IsIter wq wu.heap.size BW kT vI m lft ∧ Hid ((vs ++ lft).Perm m) ∧ Below wu.heap.size wu wq) (fun _ wq => wq.rangeLeft BW wu.heap.size)
      case atStart => exact ⟨m, [], World.ownsRow_nil _ _ _ _, hI, hid (List.Perm.refl _), hb⟩
      case round =>
        clear hI hb hz hGM
        obtain ⟨lft, vs, hO, hI, hPm, hb⟩ := hrel
        have hlv := some_bd hPm.out
        have hlv3 : (someL vs).length ≤ 384 := Nat.le_trans hlv HL.out
        have HLL := hid hI.left_len
        clear hlv
        go_wp2_with (first
          | (at_next; refine wpList_next _ rfl _ rfl wu.heap.size BW m lft rfl hI ?_ ?_))
        · intro hl0
          subst hl0
          have hO1 := hO
          rw [← List.length_map (f := toS)] at hO1
          go_wp2_with fail
          refine (sort_owned HSR.out enS_len hO1 (by rw [List.length_map]; omega)).mono ?_
          rintro e w6 ⟨rfl, l', hp', hst, hO', hg⟩
          have hb6 := hb.grown hg hb.size (fun k hk => (hO1.lt k hk).1)
          obtain ⟨A', cap', hv, _⟩ := own_slice hO'
          subst hv
          have hvs : vs.Perm m := by have := hPm.out; rwa [List.append_nil] at this
          have hl' : l'.length ≤ 384 := by rw [hp'.length_eq, List.length_map]; exact hlv3
          have HSO := hid (fun d (hI : LInv (ledC ac) d) => HP.out.2.2.sorted hI HND.out hvs hp' hst)
          have KL := hid (lrestore_any t l' A' cap' w6 (own_rd hO') (by omega))
          have H6 := hid (And.intro (HRW.out.next hb6) hb6)
          clear hO hO1 hI hb hp' hst hO' hg hb6 hvs hPm hlv3
          by_cases htr : 0 ≤ t ∧ t ≤ 1152921504606846976
          · have hInv := ledC_inv HFT.out (HWT.out.2 htr.1) htr.2
            have hcan := HSO.out t hInv
            have HOK := hid (show RestOk t l' ∧ fromL l' = ledC ac from by rw [hcan]; exact ⟨RestOk.canon hInv, fromL_canon hInv⟩)
            have HRC := hid (HP.out.1.done (Nat.le_refl _) htr)
            clear hInv hcan htr
            go_wp2_with fail
            refine KL.out.mono ?_
            rintro e w7 ⟨⟨h1, _⟩, hb7⟩
            obtain ⟨XL', BL', rfl, lB, lX, hL⟩ := h1 HOK.out.1
            rw [HOK.out.2] at hL
            have h7 := H6.out.1.next hb7
            have x0 : w7.cell? ⟨X, 0, none⟩ = some (.pointer (some ⟨XL, 0, none⟩)) := h7.c.cellL
            have xf := h7.c.blk.free 0
            have lX7 := h7.c.blk.lt
            have hX6 : X < w6.heap.size := H6.out.1.c.blk.lt
            have hA6 : BA < w6.heap.size := H6.out.1.c.acs.lt
            have hTs : Touch (· = X) w7 (w7.setCell ⟨X, 0, none⟩ (.pointer (some ⟨XL', 0, none⟩))) := Touch.setCell _ _ _ _
            have hIC : IsC w.heap.size (w7.setCell ⟨X, 0, none⟩ (.pointer (some ⟨XL', 0, none⟩))) X XL' BL' BA ac t := by
              have hlow := h7.c.low
              have hsz6 := H6.out.1.bel.size
              refine ⟨⟨h7.c.blk.set_ 0 _, hL.touch hTs (fun e => by omega) (fun e => by omega), hTs.isMap h7.c.acs (fun e => h7.c.acs.notBlk h7.c.blk e), fun p hp => hTs.blk (h7.c.cells p hp) (fun e => (h7.c.cells p hp).ne_ h7.c.blk (by decide) e), h7.c.apart, ⟨hlow.1, by omega, by omega, hlow.2.2.2.1, by omega⟩, h7.c.lows⟩, ⟨fun q hq => ⟨HFT.out q hq, (HP.out.2.1.fit hq).2⟩, HWT.out.2 HRC.out.t0, HRC.out.t1⟩⟩
            have HF := hid (And.intro hIC (And.intro (h7.bel.trans (hTs.below h7.bel.size (fun k hk => by rw [hk]; exact h7.c.low.1))) (HP.out.2.1.rel HRC.out.srt h7.c.acs.nodup)))
            clear hIC hTs hL lB lX h1 hX6 hA6 hb7 h7 H6 KL HSO
            go_wp2_with fail
            go_ret2
            exact ⟨HF.out.2.1, .inl ⟨HRC.out, X, XL', BL', BA, ac, rfl, HF.out.1, HF.out.2.2⟩⟩
          · have HNO := hid (show ¬ RestOk t l' ∧ ¬ RestC t l from ⟨fun h => htr ⟨h.d0, h.d1⟩, fun h => htr ⟨h.t0, h.t1⟩⟩)
            clear htr
            go_wp2_with fail
            refine KL.out.mono ?_
            rintro e w7 ⟨⟨_, h2⟩, hb7⟩
            obtain rfl := h2 HNO.out.1
            have HF := hid (bthen H6.out.1.bel hb7)
            clear h2 hb7 H6 KL HSO
            go_wp2_with fail
            go_ret2
            exact ⟨HF.out, .inr ⟨HNO.out.2, rfl⟩⟩
        · intro a1 a2 q left' w2 hp hI2 hg2 hs2 hen
          simp only [kT, vI] at hen
          have hO2 := hO.kept hg2 (.inr (fun e => hI.notOwn hO e.symm))
          have hb2 := hb.trans (grown_below hg2 hb.size (Nat.le_refl _))
          have HPM := hid (show ((vs ++ [((a1, a2), q)]) ++ left').Perm m from by
            refine List.Perm.trans ?_ hPm.out
            rw [List.append_assoc]
            exact List.Perm.append_left vs hp.symm)
          have hlv2 : (someL (vs ++ [((a1, a2), q)])).length ≤ 384 := Nat.le_trans (some_bd HPM.out) HL.out
          have HLT := hid (show left'.length < lft.length from by have := hp.length_eq; simp at this; omega)
          have hwa : Below w2.heap.size w2 (w2.alloc (.cells #[.int .i64 a1, .int .i64 a2, .int .i64 q] 86)) := (Below.refl _ _).alloc (Nat.le_refl _) _
          have HD := hid (And.intro (Blk.new w2 86 #[.int .i64 a1, .int .i64 a2, .int .i64 q]) (And.intro (hO2.alloc (.cells #[.int .i64 a1, .int .i64 a2, .int .i64 q] 86)) (And.intro (hI2.next_ hwa) (bthen hb2 hwa))))
          clear hO hI hg2 hs2 hO2 hb hb2 hI2 hp hPm hwa
          go_upto_region 28 with fail
          clear hen
          obtain ⟨W, hW⟩ : ∃ W, W = w2.alloc (.cells #[.int .i64 a1, .int .i64 a2, .int .i64 q] 86) := ⟨_, rfl⟩
          obtain ⟨S, hS⟩ : ∃ S, S = w2.heap.size := ⟨_, rfl⟩
          rw [← hW, ← hS] at HD
          rw [← hW, ← hS]
          clear hW hS
          by_cases hq : q = 0
          · have tq : (q != 0) = false := by simp [hq]
            have hsn : someL (vs ++ [((a1, a2), q)]) = someL vs := by rw [someL_snoc, if_pos hq, List.append_nil]
            have hO3 := HD.out.2.1
            rw [← hsn] at hO3
            clear hsn
            have HO3 := hid hO3
            clear hq hO3
            go_wp2_with fail
            go_roundw
            case rel => exact ⟨left', _, HO3.out, HD.out.2.2.1, HPM, HD.out.2.2.2⟩
            case measure => rw [HD.out.2.2.1.left_len, HLL.out]; exact HLT.out
          · have tq : (q != 0) = true := by simp [hq]
            have hsn : someL (vs ++ [((a1, a2), q)]) = someL vs ++ [((a1, a2), q)] := by rw [someL_snoc, if_neg hq]
            rw [hsn] at hlv2
            simp only [List.length_append, List.length_singleton] at hlv2
            have HSN := hid hsn
            have s0 : W.cell? ⟨S, 0, none⟩ = some (.int .i64 a1) := HD.out.1.cell 0
            have s1 : W.cell? ⟨S, 1, none⟩ = some (.int .i64 a2) := HD.out.1.cell 1
            have s2 : W.cell? ⟨S, 2, none⟩ = some (.int .i64 q) := HD.out.1.cell 2
            have lS := HD.out.1.lt
            have hwz : wu.heap.size ≤ W.heap.size := HD.out.2.2.2.size
            have HOW := hid HD.out.2.1
            have HI3 := hid (HD.out.2.2.1.alloc (.cells #[.int .i64 a1, .int .i64 a2, .int .i64 q] 86))
            have HO3 := hid (HD.out.2.1.alloc (.cells #[.int .i64 a1, .int .i64 a2, .int .i64 q] 86))
            have HB3 := hid (HD.out.2.2.2.alloc hwz (.cells #[.int .i64 a1, .int .i64 a2, .int .i64 q] 86))
            clear hq hsn HD
            go_wp2_with (first
              | (at_builtin; refine wpList_push _ rfl _ _ 87 rfl wu.heap.size 86 i0 _ 3 24 Tryz.underlying87 hi hz0 hz1 hz2 rfl (by decide) _ _ _ (by rfl) HOW.out #[.int .i64 a1, .int .i64 a2, .int .i64 q] W.heap.size (by simp) (by rfl) (by rfl) (by rfl) (by unfold maxLen; omega) (by omega) hwz ?_; intro v' w3 hO4 hg4))
            have hI4 := HI3.out.grown hg4 (fun e => HI3.out.isMap.notOwn HO3.out e) (fun e => HI3.out.notOwn HO3.out e)
            have hb4 := HB3.out.grown hg4 (by simp; omega) (fun k hk => (HO3.out.lt k hk).1)
            have hO5 : w3.ownsRow wu.heap.size 86 3 v' (someL (vs ++ [((a1, a2), q)])).length (((someL (vs ++ [((a1, a2), q)])).map toS).flatMap enS) := by rw [HSN.out]; simpa [enS, toS] using hO4
            have HF := hid (And.intro hO5 (And.intro hI4 hb4))
            clear HO3 HI3 HB3 HOW hO4 hg4 hI4 hb4 hO5 s0 s1 s2 lS hwz tq
            go_roundw
            case rel => exact ⟨left', _, HF.out.1, HF.out.2.1, HPM, HF.out.2.2⟩
            case measure => rw [HF.out.2.1.left_len, HLL.out]; exact HLT.out

end Go.Proofs.YthdmbbfppgenlaaGreat
