/-
  Money of orders: CashBooks (printed by gen_chm.py).
-/
import Derived.Test.YthdmbbfppgenlaaChPl
import Derived.Test.YthdmbbfppgenlaaChN
namespace Go.Proofs.Ythdmbbfppgenlaa
open Go.RowKit Go.Maps Go.Sort Go.ChangeShapes Go.WideShapes Go.ChangeAt Go.Deep
set_option linter.unusedVariables false

/-- What the accounts of one customer come to. -/
def sumC (g : Ca → Int) (l : List Ca) (c : Int) : Int := (l.map fun a => if a.c = c then g a else 0).sum
theorem sumC_snoc (g : Ca → Int) (l : List Ca) (a : Ca) (c : Int) : sumC g (l ++ [a]) c = sumC g l c + if a.c = c then g a else 0 := by unfold sumC; rw [List.map_append, List.sum_append]; simp
structure SumM (g : Ca → Int) (m : List (Int × Int)) (l : List Ca) : Prop where
  get : ∀ c, (mget m c).getD 0 = sumC g l c
  key : ∀ c ∈ m.map (·.1), c ≠ 0
theorem SumM.nil (g : Ca → Int) : SumM g [] [] := ⟨fun _ => rfl, fun p hp => (by cases hp)⟩
theorem SumM.snoc {g : Ca → Int} {m : List (Int × Int)} {l : List Ca} (h : SumM g m l) (a : Ca) (ha : a.c ≠ 0) : SumM g (mset m a.c (sumC g l a.c + g a)) (l ++ [a]) := by
  refine ⟨fun c => ?_, fun c hc => ?_⟩
  · rw [mget_mset, sumC_snoc]
    by_cases e : c = a.c
    · subst e; simp
    · rw [if_neg e, if_neg (fun e' => e e'.symm), h.get c]; omega
  · obtain ⟨z, hz, rfl⟩ := List.mem_map.1 hc
    rcases mem_mset hz with rfl | ⟨hz', _⟩
    · exact ha
    · exact h.key _ (List.mem_map_of_mem hz')
theorem sumC_bd {g : Ca → Int} {l : List Ca} (h : ∀ a ∈ l, 0 ≤ g a ∧ g a ≤ wt a) (c : Int) : 0 ≤ sumC g l c ∧ sumC g l c ≤ wtR l := by
  induction l with
  | nil => simp [sumC, wtR]
  | cons a l ih =>
    have h1 := h a (by simp)
    have h2 := ih (fun b hb => h b (by simp [hb]))
    unfold sumC wtR at *
    simp only [List.map_cons, List.sum_cons]
    split <;> omega
theorem FitC.ow {a : Ca} (h : FitC a) : 0 ≤ openC a ∧ openC a ≤ wt a := by
  have := h.open0; have := h.d0; have := h.n0; have := h.t0; have := h.p0; have := h.w0
  unfold openC wt at *
  split <;> simp_all <;> omega
theorem FitC.dw {a : Ca} (h : FitC a) : 0 ≤ a.dep ∧ a.dep ≤ wt a := by
  have := h.d0; have := h.n0; have := h.t0; have := h.p0; have := h.w0
  unfold wt
  split <;> omega
theorem con_one (a : Ca) : con a 1 = openC a := by simp [con]
theorem con_four (a : Ca) : con a 4 = -a.dep := by simp [con]
theorem sumC_open {ac : List (Int × CP)} {L : List Ca} (hp : L.Perm (accs ac)) {c : Int} (hc : c ≠ 0) : ledC ac (c, 1) = sumC openC L c := by
  rw [← balR_of hp hc]
  unfold balR sumC
  refine sum_map_congr (fun a _ => ?_)
  simp only [hc, false_or, con_one]
theorem sumC_dep {ac : List (Int × CP)} {L : List Ca} (hp : L.Perm (accs ac)) {c : Int} (hc : c ≠ 0) : ledC ac (c, 4) = -(sumC Ca.dep L c) := by
  rw [← balR_of hp hc]
  unfold balR sumC
  clear hp
  induction L with
  | nil => rfl
  | cons a L ih =>
    simp only [List.map_cons, List.sum_cons, hc, false_or, con_four] at *
    rw [ih]
    split <;> omega
theorem IsCash.below {n0 n1 : Nat} {w : World} {X XL BL BA : Nat} {ac : List (Int × CP)} {f : Fn} {d : Int} (h : IsCash n1 w X XL BL BA ac f d) (hn : n0 ≤ n1) : IsCash n0 w X XL BL BA ac f d :=
  ⟨h.blk, h.led, h.acs, h.cells, h.apart, by have := h.low; omega, fun p hp => Nat.le_trans hn (h.lows p hp)⟩

set_option maxRecDepth 100000 in
set_option maxHeartbeats 64000000 in
theorem cashBooks_walk (hS : SortsL) (hSR : SortsR) (l : List Op18) (Ao : Option Addr) (cp : Nat) (w0 : World) (hR0 : Rd w0 Ao (l.flatMap en18)) (hok : ∀ x ∈ l, ok18 x) (hl : l.length * 72 ≤ 140737488351232) :
    Calls Try.prog 7 #[.slice Ao l.length cp] w0 (Law w0) := by
  have hmm := @run_makeMap Try.prog
  have HSS := hid hS
  have HSR := hid hSR
  have HOK := hid hok
  clear hS hSR hok
  go_enter Try.func7, Try.ntmps7
  go_wp2_with fail
  refine (wakes_any HSS.out _).mono ?_
  rintro e w1 ⟨rfl, hb⟩
  go_wp2_with fail
  refine (cnew_any _).mono ?_
  rintro e w2 ⟨X, XL, BL, BA, rfl, h, hb1⟩
  have hsz := hb.size
  have hsz2 := hb1.size
  have hbb := bthen hb hb1
  have HF : Hid (Fin18 w0 w1.heap.size (w2.heap.size + 1) X XL BL BA w2.heap.size (0 + 0) (w2.alloc (.cells #[.slice none 0 0, .int .i64 0] 52))) := hid ⟨[], [], none, 0, 0, Nat.le_refl _,
    ⟨(isC_new h).next ((Below.refl _ _).alloc (Nat.le_refl _) _), rf_new w2, RelC.nil, hbb.alloc hbb.size _, by simp, by omega, by omega, by omega⟩⟩
  clear hb1 h hb hbb hsz hsz2
  go_wp2_with fail
  obtain ⟨R, hRR⟩ : ∃ R, R = w2.heap.size := ⟨_, rfl⟩
  obtain ⟨n0, hn0⟩ : ∃ n0, n0 = w1.heap.size := ⟨_, rfl⟩
  obtain ⟨base, hbase⟩ : ∃ base, base = w2.heap.size + 1 := ⟨_, rfl⟩
  rw [← hRR, ← hn0] at HF
  rw [show R + 1 = base from by omega] at HF
  rw [← hRR]
  clear hRR hn0 hbase
  go_loopw [24] (fun i wr => ∃ k : Nat, k ≤ l.length ∧ i = .int .i64 k ∧ Hid (Fin18 w0 n0 base X XL BL BA R (0 + k) wr)) (fun i _ => l.length - nOf i)
  case atStart => exact ⟨0, Nat.zero_le _, rfl, HF⟩
  case round =>
    clear HF
    obtain ⟨k, hk, rfl, HF⟩ := hrel
    by_cases hlt : k < l.length
    · obtain ⟨x, hx⟩ : ∃ x, l[k]? = some x := ⟨l[k], List.getElem?_eq_getElem hlt⟩
      have hox := HOK.out x (List.mem_of_getElem? hx)
      obtain ⟨ac, L, A, cap, d, hL, h⟩ := HF.out
      obtain ⟨b, off, rfl, _, hcc⟩ := (hR0.below h.bel).at_ 5 en18_len (by omega) hx
      obtain ⟨xk, xo, xc, xa, xb⟩ := x
      have q0 : wr.cell? ⟨b, off + k * 5, none⟩ = some (.int .i64 xk) := hcc 0 _ rfl
      have q1 : wr.cell? ⟨b, off + k * 5 + 1, none⟩ = some (.int .i64 xo) := hcc 1 _ rfl
      have q2 : wr.cell? ⟨b, off + k * 5 + 2, none⟩ = some (.int .i64 xc) := hcc 2 _ rfl
      have q3 : wr.cell? ⟨b, off + k * 5 + 3, none⟩ = some (.int .i64 xa) := hcc 3 _ rfl
      have q4 : wr.cell? ⟨b, off + k * 5 + 4, none⟩ = some (.int .i64 xb) := hcc 4 _ rfl
      have hz := h.next ((Below.refl _ _).alloc (Nat.le_refl _) (.cells #[.int .i64 xk, .int .i64 xo, .int .i64 xc, .int .i64 xa, .int .i64 xb] 55))
      have HB := hid (Blk.new wr 55 #[.int .i64 xk, .int .i64 xo, .int .i64 xc, .int .i64 xa, .int .i64 xb])
      have K := hid (step_any hz (by omega) xk xo xc xa xb hox)
      clear hcc hx hz h HF hox
      go_upto_region 8 with fail
      clear q0 q1 q2 q3 q4
      obtain ⟨W0, hW0⟩ : ∃ W0, W0 = wr.alloc (.cells #[.int .i64 xk, .int .i64 xo, .int .i64 xc, .int .i64 xa, .int .i64 xb] 55) := ⟨_, rfl⟩
      obtain ⟨G, hG⟩ : ∃ G, G = wr.heap.size := ⟨_, rfl⟩
      have hB := HB.out
      rw [← hW0] at K hB ⊢
      rw [← hG] at hB ⊢
      clear HB hW0 hG
      have g0 : W0.cell? ⟨G, 0, none⟩ = some (.int .i64 xk) := hB.cell 0
      have g1 : W0.cell? ⟨G, 1, none⟩ = some (.int .i64 xo) := hB.cell 1
      have g2 : W0.cell? ⟨G, 2, none⟩ = some (.int .i64 xc) := hB.cell 2
      have g3 : W0.cell? ⟨G, 3, none⟩ = some (.int .i64 xa) := hB.cell 3
      have g4 : W0.cell? ⟨G, 4, none⟩ = some (.int .i64 xb) := hB.cell 4
      clear hB
      go_wp2_with fail
      refine K.out.mono ?_
      rintro e w2 ⟨rfl, ac2, L2, A2, cap2, d2, hL2, h2⟩
      clear K g0 g1 g2 g3 g4
      have hL3 : ac2.length * 72 ≤ 140737488351232 := by rw [← h2.rel.len h2.c.gd h2.c.bk.acs.nodup]; omega
      have hwa : Below w2.heap.size w2 ((w2.alloc (.map #[] 0)).alloc (.map #[] 0)) := ((Below.refl _ _).alloc (Nat.le_refl _) _).alloc (by simp) _
      have hMO := (IsMap.made w2 kC vI).alloc (.map #[] 0)
      have hMD := IsMap.made (w2.alloc (.map #[] 0)) kC vI
      rw [World.size_alloc] at hMD
      have KA := call_any (h2.next hwa).c.bk hL3
      unfold AllC at KA
      have HKA := hid KA
      have H2 := hid (And.intro h2 True.intro)
      have HM := hid (And.intro hMO hMD)
      have HWA := hid hwa
      have hLb : L2.length ≤ 140737488355328 := by omega
      have hLk : L2.length ≤ 0 + (k + 1) := by omega
      have HLK := hid hLk
      clear KA h2 hwa hMO hMD hL3 hL2 hL hLk
      go_wp2_with fail
      obtain ⟨W3, hW3⟩ : ∃ W3, W3 = (w2.alloc (.map #[] 0)).alloc (.map #[] 0) := ⟨_, rfl⟩
      obtain ⟨MO, hMOe⟩ : ∃ MO, MO = w2.heap.size := ⟨_, rfl⟩
      rw [← hW3] at HKA HM HWA ⊢
      rw [← hMOe] at HM ⊢
      have HMOE := hid hMOe
      clear hW3 hMOe
      refine HKA.out.mono ?_
      rintro e w4 ⟨A1, c1, lA, rfl, hp, hs, hO, hcap, hb⟩
      have el : L2 = lA := (H2.out.1.rel.told H2.out.1.c.gd H2.out.1.c.bk.acs.nodup hp hs).symm
      subst el
      have hRd : Rd w4 A1 (L2.flatMap enC9) := own_rd hO
      have HBK := hid (own_blk hO)
      have HI : Hid (SumM openC [] (L2.take 0) ∧ SumM Ca.dep [] (L2.take 0) ∧ IsMap w4 MO kC vI [] ∧ IsMap w4 (MO + 1) kC vI [] ∧ Below w2.heap.size w2 w4 ∧ Rd w4 A1 (L2.flatMap enC9)) := hid ⟨SumM.nil _, SumM.nil _, HM.out.1.next hb, HM.out.2.next hb, bthen HWA.out hb, hRd⟩
      have HAP := hid (show ∀ b', A1.map (·.block) = some b' → b' ≠ MO ∧ b' ≠ MO + 1 from fun b' hb' => by
        obtain ⟨e1, e2⟩ := HBK.out b' hb'
        have e3 := HM.out.1.lt
        have e4 := HM.out.2.lt
        omega)
      clear HKA HM HWA hp hs hO hcap hb hRd HBK
      go_wp2_with fail
      go_loopw [38] (fun i wr => ∃ (j : Nat) (mo md : List (Int × Int)), j ≤ L2.length ∧ i = .int .i64 j ∧ Hid (SumM openC mo (L2.take j) ∧ SumM Ca.dep md (L2.take j) ∧ IsMap wr MO kC vI mo ∧ IsMap wr (MO + 1) kC vI md ∧ Below w2.heap.size w2 wr ∧ Rd wr A1 (L2.flatMap enC9))) (fun i _ => L2.length - nOf i)
      case atStart => exact ⟨0, [], [], Nat.zero_le _, rfl, HI⟩
      case round =>
        clear HI
        obtain ⟨j, mo, md, hj, rfl, HI⟩ := hrel
        by_cases hjl : j < L2.length
        · skip
          obtain ⟨y, hy⟩ : ∃ y, L2[j]? = some y := ⟨L2[j], List.getElem?_eq_getElem hjl⟩
          obtain ⟨b, o, hAE, _, hcc⟩ := HI.out.2.2.2.2.2.at_ 9 enC9_len (by omega) hy
          have hfit := H2.out.1.rel.fit H2.out.1.c.gd (List.mem_of_getElem? hy)
          have hFy : cfind ac2 y.o = some y := (H2.out.1.rel.mem _ _).2 ⟨List.mem_of_getElem? hy, rfl⟩
          have HC0 := hid (show y.c ≠ 0 from by have := hfit.c1; omega)
          have hwt : wtR (L2.take j) ≤ 1152921504606846976 := Int.le_trans (wtR_take (fun a ha => H2.out.1.rel.fit H2.out.1.c.gd ha) j) (by rw [wtR_all (H2.out.1.rel.perm H2.out.1.c.gd H2.out.1.c.bk.acs.nodup)]; exact Int.le_trans H2.out.1.c.gd.tot H2.out.1.c.gd.d1)
          have hso := sumC_bd (fun a (ha : a ∈ L2.take j) => (H2.out.1.rel.fit H2.out.1.c.gd (List.mem_of_mem_take ha)).ow) y.c
          have hsd := sumC_bd (fun a (ha : a ∈ L2.take j) => (H2.out.1.rel.fit H2.out.1.c.gd (List.mem_of_mem_take ha)).dw) y.c
          have KO : Hid (∀ w', Below w2.heap.size w2 w' → Calls Try.prog 13 #[.pointer (some ⟨X, 0, none⟩), .int .i64 y.o] w' fun e w2 => e = .returned (.int .i64 (openC y)) ∧ Below w'.heap.size w' w2) := hid (fun w' hb' => by
            have := copen_any (H2.out.1.next hb').c y.o
            rw [hFy] at this
            exact this)
          have HS1 := hid (show SumM openC (mset mo y.c (sumC openC (L2.take j) y.c + openC y)) (L2.take (j + 1)) from by rw [takeE_snoc hy]; exact HI.out.1.snoc y HC0.out)
          have HS2 := hid (show SumM Ca.dep (mset md y.c (sumC Ca.dep (L2.take j) y.c + y.dep)) (L2.take (j + 1)) from by rw [takeE_snoc hy]; exact HI.out.2.1.snoc y HC0.out)
          have hgo := HI.out.1.get y.c
          have hgd := HI.out.2.1.get y.c
          have hob := hfit.open0
          have hdb : 0 ≤ y.dep ∧ y.dep ≤ 576460752303423488 := ⟨hfit.d0, hfit.d1⟩
          obtain ⟨zo, hzo⟩ : ∃ zo, zo = sumC openC (L2.take j) y.c := ⟨_, rfl⟩
          obtain ⟨zd, hzd⟩ : ∃ zd, zd = sumC Ca.dep (L2.take j) y.c := ⟨_, rfl⟩
          obtain ⟨op, hop⟩ : ∃ op, op = openC y := ⟨_, rfl⟩
          rw [← hzo] at hso HS1 hgo
          rw [← hzd] at hsd HS2 hgd
          rw [← hop] at KO HS1 hob
          obtain ⟨yo, yc, yst, ylv, ynet, ytax, yap, ywr, ydep⟩ := y
          simp only at KO HS1 HS2 hgo hgd hdb
          subst hAE
          have q0 : wr.cell? ⟨b, o + j * 9, none⟩ = some (.int .i64 yo) := hcc 0 _ rfl
          have q1 : wr.cell? ⟨b, o + j * 9 + 1, none⟩ = some (.int .i64 yc) := hcc 1 _ rfl
          have q2 : wr.cell? ⟨b, o + j * 9 + 2, none⟩ = some (.int .i64 yst) := hcc 2 _ rfl
          have q3 : wr.cell? ⟨b, o + j * 9 + 3, none⟩ = some (.int .i64 ylv) := hcc 3 _ rfl
          have q4 : wr.cell? ⟨b, o + j * 9 + 4, none⟩ = some (.int .i64 ynet) := hcc 4 _ rfl
          have q5 : wr.cell? ⟨b, o + j * 9 + 5, none⟩ = some (.int .i64 ytax) := hcc 5 _ rfl
          have q6 : wr.cell? ⟨b, o + j * 9 + 6, none⟩ = some (.int .i64 yap) := hcc 6 _ rfl
          have q7 : wr.cell? ⟨b, o + j * 9 + 7, none⟩ = some (.int .i64 ywr) := hcc 7 _ rfl
          have q8 : wr.cell? ⟨b, o + j * 9 + 8, none⟩ = some (.int .i64 ydep) := hcc 8 _ rfl
          have hwa : Below wr.heap.size wr (wr.alloc (.cells #[.int .i64 yo, .int .i64 yc, .int .i64 yst, .int .i64 ylv, .int .i64 ynet, .int .i64 ytax, .int .i64 yap, .int .i64 ywr, .int .i64 ydep] 33)) := (Below.refl _ _).alloc (Nat.le_refl _) _
          have HZ := hid (And.intro (HI.out.2.2.1.next hwa) (And.intro (HI.out.2.2.2.1.next hwa) (And.intro (bthen HI.out.2.2.2.2.1 hwa) (And.intro (HI.out.2.2.2.2.2.below hwa) (Blk.new wr 33 #[.int .i64 yo, .int .i64 yc, .int .i64 yst, .int .i64 ylv, .int .i64 ynet, .int .i64 ytax, .int .i64 yap, .int .i64 ywr, .int .i64 ydep])))))
          have wo : IntKind.i64.wrap (zo + op) = zo + op := IntWalk.i64_in _ ⟨by omega, by omega⟩
          have wd : IntKind.i64.wrap (zd + ydep) = zd + ydep := IntWalk.i64_in _ ⟨by omega, by omega⟩
          clear hcc hy hwa HI hzo hzd hop hso hsd hob hdb hwt hfit hFy
          go_upto_region 14 with fail
          clear q0 q1 q2 q3 q4 q5 q6 q7 q8
          obtain ⟨wz, hwz⟩ : ∃ wz, wz = wr.alloc (.cells #[.int .i64 yo, .int .i64 yc, .int .i64 yst, .int .i64 ylv, .int .i64 ynet, .int .i64 ytax, .int .i64 yap, .int .i64 ywr, .int .i64 ydep] 33) := ⟨_, rfl⟩
          obtain ⟨G, hG⟩ : ∃ G, G = wr.heap.size := ⟨_, rfl⟩
          rw [← hwz, ← hG] at HZ
          rw [← hwz, ← hG]
          clear hwz hG
          obtain ⟨C, hCd⟩ : ∃ C : World → Prop, ∀ w', C w' ↔ Below wz.heap.size wz w' := ⟨_, fun _ => Iff.rfl⟩
          have hC : C wz.drew := (hCd _).2 (Below.refl _ _).drew
          have g0 : ∀ p : In C, p.w.cell? ⟨G, 0, none⟩ = some (.int .i64 yo) := fun p => (HZ.out.2.2.2.2.next ((hCd _).1 p.h)).cell 0
          have g1 : ∀ p : In C, p.w.cell? ⟨G, 1, none⟩ = some (.int .i64 yc) := fun p => (HZ.out.2.2.2.2.next ((hCd _).1 p.h)).cell 1
          have lk : ∀ p : In C, (Instr.lookup 57 (.map (some MO)) (.int .i64 yc) false).run Try.prog p.w = .ok (.int .i64 zo) p.w := fun p => by
            have := (HZ.out.1.next ((hCd _).1 p.h)).look keyC Try.underlying57 (zero64 _) yc
            rw [show (Value.int .i64 0) = vI 0 from rfl, looked_vI, hgo] at this
            exact this
          have O : Hid (∀ p : In C, Calls Try.prog 13 #[.pointer (some ⟨X, 0, none⟩), .int .i64 yo] p.w fun e w' => e = .returned (.int .i64 op) ∧ C w') := hid (fun p => (KO.out _ (bthen HZ.out.2.2.1 ((hCd _).1 p.h))).mono fun _ _ ⟨e1, e2⟩ => ⟨e1, (hCd _).2 (bthen ((hCd _).1 p.h) e2)⟩)
          have HCd := hid hCd
          clear hCd KO hgo
          refine wp_region_in_tail C 9 (by kernel_rfl) (by kernel_rfl) hC ?_
          intro hne
          clear hC
          refine wpIn_quiet ?_
          simp only [List.take_succ_cons, List.take_zero, List.drop_succ_cons, List.drop_zero]
          repeat (first | go_big_quiet_step ((go_at_call 13; exact Calls.in_of (O.out _))) | quiet_step ((go_at_call 13; exact Calls.in_of (O.out _))))
          refine wpQuiet_nil ?_
          intro wp hwp
          have hbp := (HCd.out _).1 hwp
          have HP := hid (And.intro (HZ.out.1.next hbp) (And.intro (HZ.out.2.1.next hbp) (And.intro (bthen HZ.out.2.2.1 hbp) (And.intro (HZ.out.2.2.2.1.below hbp) (HZ.out.2.2.2.2.next hbp)))))
          have hneO : some G ≠ some MO := fun e => HP.out.1.notBlk HP.out.2.2.2.2 (by injection e with e; exact e.symm)
          clear g0 g1 lk O hne hwp hbp HCd HZ wo
          go_wp2_with (first
            | (at_mapUpdate; refine wpList_store _ rfl _ _ _ 57 2 rfl keyC Try.underlying57 MO mo rfl HP.out.1 yc (zo + op) rfl rfl ?_; intro w5 hM5 hg5 hs5; (have hB5 := HP.out.2.2.2.2.grown hg5 hneO); (have r1 : w5.cell? ⟨G, 1, none⟩ = some (.int .i64 yc) := hB5.cell 1); (have r8 : w5.cell? ⟨G, 8, none⟩ = some (.int .i64 ydep) := hB5.cell 8); (have hMD5 := (Touch.of_grown hg5).isMap HP.out.2.1 (fun e => by omega)); (have lk5 : (Instr.lookup 57 (.map (some (MO + 1))) (.int .i64 yc) false).run Try.prog w5 = .ok (.int .i64 zd) w5 := (by have := hMD5.look keyC Try.underlying57 (zero64 _) yc; rw [show (Value.int .i64 0) = vI 0 from rfl, looked_vI, hgd] at this; exact this)))
            | (at_mapUpdate; refine wpList_store _ rfl _ _ _ 57 2 rfl keyC Try.underlying57 (MO + 1) md rfl hMD5 yc (zd + ydep) rfl rfl ?_; intro w6 hM6 hg6 hs6))
          have hMO6 := (Touch.of_grown hg6).isMap hM5 (fun e => by omega)
          have hT6 := ((Touch.of_grown hg5).mono (fun k' hk' => (.inl hk' : k' = MO ∨ k' = MO + 1))).then ((Touch.of_grown hg6).mono (fun k' hk' => (.inr hk' : k' = MO ∨ k' = MO + 1)))
          have HI6 := hid (And.intro HS1.out (And.intro HS2.out (And.intro hMO6 (And.intro hM6 (And.intro (HP.out.2.2.1.trans (hT6.below HP.out.2.2.1.size (fun k' hk' => by have := HMOE.out; rcases hk' with e | e <;> omega))) (hT6.rd HP.out.2.2.2.1 (fun b' hb' hh => by have := HAP.out b' hb'; rcases hh with e | e <;> omega)))))))
          clear hMO6 hT6 hM5 hg5 hs5 hM6 hg6 hs6 hMD5 lk5 r1 r8 hB5 hneO HP HS1 HS2 wd hgd
          go_roundw
          case rel => exact ⟨j + 1, _, _, by omega, by go_num, HI6⟩
          case measure => simp [nOf]; omega
        · skip
          have hj' : j = L2.length := by omega
          subst hj'
          have hI := HI.out
          rw [List.take_length] at hI
          have HI2 := hid hI
          have hMO := HI2.out.2.2.1
          obtain ⟨wu, hwu⟩ : ∃ wu, wu = wr := ⟨_, rfl⟩
          rw [← hwu] at HI2 hMO ⊢
          clear HI hj hjl hI hwu
          go_wp2_with (at_range; refine wpList_range _ rfl _ 57 3 2 rfl Try.underlying57 MO mo rfl hMO ?_; intro w5 hI5 hb5 hz5)
          go_frame
          go_loopw [] (fun wq => ∃ lft : List (Int × Int), IsIter wq wu.heap.size MO kC vI mo lft ∧ Hid (∀ q ∈ lft, q ∈ mo) ∧ Below wu.heap.size wu wq) (fun wq => wq.rangeLeft MO wu.heap.size)
          case atStart => exact ⟨mo, hI5, hid (fun q hq => hq), hb5⟩
          case round =>
            clear hI5 hb5 hz5 hMO
            obtain ⟨lft, hI, hIn, hb⟩ := hrel
            have HLL := hid hI.left_len
            go_wp2_with (first
              | (at_next; refine wpList_next _ rfl _ rfl wu.heap.size MO mo lft rfl hI ?_ ?_))
            · intro hl0
              subst hl0
              have hinv := hid H2.out.1.c.bk.led.inv
              have HBR := hid (bthen HI2.out.2.2.2.2.1 hb)
              clear hI hIn hb HLL HI2
              go_wp2_with fail
              obtain ⟨wv, hwv⟩ : ∃ wv, wv = wr := ⟨_, rfl⟩
              rw [← hwv] at HBR ⊢
              clear hwv
              go_loopw [13, 81] (fun s i wq => ∃ j2 : Nat, j2 ≤ 6 ∧ i = .int .i64 j2 ∧ s = .int .i64 (allF (ledC ac2) j2) ∧ Below wv.heap.size wv wq) (fun _ i _ => 6 - nOf i)
              case atStart => exact ⟨0, Nat.zero_le _, rfl, rfl, Below.refl _ _⟩
              case round =>
                obtain ⟨j2, hj2, rfl, rfl, hb⟩ := hrel
                by_cases h6 : j2 < 6
                · have tm : (j2 : Int) < 6 := by omega
                  have hsu := allF_succ (ledC ac2) j2
                  have hbd := allF_bd hinv.out (j := j2 + 1) (by omega)
                  have wA : IntKind.i64.wrap (allF (ledC ac2) j2 + balF (ledC ac2) (j2 : Int)) = allF (ledC ac2) (j2 + 1) := by rw [← hsu]; exact IntWalk.i64_in _ ⟨by omega, by omega⟩
                  have KB := hid (cbal_all HSS.out (H2.out.1.next (bthen HBR.out hb)).c (j2 : Int))
                  clear hsu hbd
                  generalize allF (ledC ac2) j2 = s0 at wA ⊢
                  generalize balF (ledC ac2) (j2 : Int) = bk at wA KB
                  generalize hs1 : allF (ledC ac2) (j2 + 1) = s1 at wA
                  have HS1 := hid hs1
                  clear hs1
                  go_wp2_with fail
                  refine KB.out.mono ?_
                  rintro e w8 ⟨rfl, hb8⟩
                  have hb9 := bthen hb hb8
                  clear KB hb8 hb
                  go_wp2_with fail
                  go_roundw
                  case rel => exact ⟨j2 + 1, by omega, by go_num, by rw [HS1.out], hb9⟩
                  case measure => simp [nOf]; omega
                · have hj6 : j2 = 6 := by omega
                  subst hj6
                  have tm : ¬ ((6 : Nat) : Int) < 6 := by omega
                  rw [allF_zero hinv.out]
                  have HF2 : Hid (Fin18 w0 n0 base X XL BL BA R (0 + (k + 1)) wr) := hid ⟨ac2, L2, A2, cap2, d2, HLK.out, H2.out.1.next (bthen HBR.out hb)⟩
                  clear hb hj2 h6
                  go_wp2_with fail
                  go_roundw
                  case rel => exact ⟨k + 1, by omega, by go_num, HF2⟩
                  case measure => simp [nOf]; omega
            · intro c n left' w6 hp hI2 hg2 hs2 hen
              simp only [kC, vI] at hen
              have hmem := hIn.out (c, n) (hp.mem_iff.2 (List.mem_cons_self ..))
              have hIn2 := hid (fun q (hq : q ∈ left') => hIn.out q (hp.mem_iff.2 (List.mem_cons_of_mem _ hq)))
              have hb6 := bthen HI2.out.2.2.2.2.1 (hb.trans (grown_below hg2 hb.size (Nat.le_refl _)))
              have hb7 := hb.trans (grown_below hg2 hb.size (Nat.le_refl _))
              have HLT := hid (show left'.length < lft.length from by have := hp.length_eq; simp at this; omega)
              have hc0 := HI2.out.1.key c (List.mem_map_of_mem (f := (·.1)) hmem)
              have hpm := H2.out.1.rel.perm H2.out.1.c.gd H2.out.1.c.bk.acs.nodup
              have hnv : sumC openC L2 c = n := by
                rw [← HI2.out.1.get c, mget_of_mem HI2.out.2.2.1.nodup hmem]; rfl
              have hv1 : ledC ac2 (c, 1) = n := by rw [sumC_open hpm hc0]; exact hnv
              have hdb := sumC_bd (fun a (ha : a ∈ L2) => (H2.out.1.rel.fit H2.out.1.c.gd ha).dw) c
              have hwt : wtR L2 ≤ 1152921504606846976 := by rw [wtR_all hpm]; exact Int.le_trans H2.out.1.c.gd.tot H2.out.1.c.gd.d1
              have hv4 : ledC ac2 (c, 4) = -(sumC Ca.dep L2 c) := sumC_dep hpm hc0
              have hgd := HI2.out.2.1.get c
              obtain ⟨dv, hdv⟩ : ∃ dv, dv = sumC Ca.dep L2 c := ⟨_, rfl⟩
              rw [← hdv] at hv4 hdb hgd
              have wn : IntKind.i64.wrap (-dv) = -dv := IntWalk.i64_in _ ⟨by omega, by omega⟩
              have KB1 : Hid (∀ w', Below w6.heap.size w6 w' → Calls Try.prog 18 #[.pointer (some ⟨X, 0, none⟩), .int .i64 c, .int .i64 1] w' fun e w2 => e = .returned (.int .i64 n) ∧ Below w'.heap.size w' w2) := hid (fun w' hb' => by
                have := cbal_of (H2.out.1.next (bthen hb6 hb')).c c 1 hc0
                rw [hv1] at this
                exact this)
              have KB4 : Hid (∀ w', Below w6.heap.size w6 w' → Calls Try.prog 18 #[.pointer (some ⟨X, 0, none⟩), .int .i64 c, .int .i64 4] w' fun e w2 => e = .returned (.int .i64 (-dv)) ∧ Below w'.heap.size w' w2) := hid (fun w' hb' => by
                have := cbal_of (H2.out.1.next (bthen hb6 hb')).c c 4 hc0
                rw [hv4] at this
                exact this)
              have HMD := hid (fun w' (hb' : Below w6.heap.size w6 w') => (show (Instr.lookup 57 (.map (some (MO + 1))) (.int .i64 c) false).run Try.prog w' = .ok (.int .i64 dv) w' from by
                have := ((HI2.out.2.2.2.1.next (bthen hb7 hb')).look keyC Try.underlying57 (zero64 _) c)
                rw [show (Value.int .i64 0) = vI 0 from rfl, looked_vI, hgd] at this
                exact this))
              have HB7 := hid hb7
              have HI3 := hid hI2
              clear hI hIn hb hp hg2 hs2 hmem hb6 hb7 hc0 hpm hnv hv1 hdb hwt hv4 hgd hdv hI2
              go_upto_region 20 with fail
              clear hen
              obtain ⟨C, hCd⟩ : ∃ C : World → Prop, ∀ w', C w' ↔ Below w6.heap.size w6 w' := ⟨_, fun _ => Iff.rfl⟩
              have hC : C w6.drew := (hCd _).2 (Below.refl _ _).drew
              have lk : ∀ p : In C, (Instr.lookup 57 (.map (some (MO + 1))) (.int .i64 c) false).run Try.prog p.w = .ok (.int .i64 dv) p.w := fun p => HMD.out _ ((hCd _).1 p.h)
              have O1 : Hid (∀ p : In C, Calls Try.prog 18 #[.pointer (some ⟨X, 0, none⟩), .int .i64 c, .int .i64 1] p.w fun e w' => e = .returned (.int .i64 n) ∧ C w') := hid (fun p => (KB1.out _ ((hCd _).1 p.h)).mono fun _ _ ⟨e1, e2⟩ => ⟨e1, (hCd _).2 (bthen ((hCd _).1 p.h) e2)⟩)
              have O4 : Hid (∀ p : In C, Calls Try.prog 18 #[.pointer (some ⟨X, 0, none⟩), .int .i64 c, .int .i64 4] p.w fun e w' => e = .returned (.int .i64 (-dv)) ∧ C w') := hid (fun p => (KB4.out _ ((hCd _).1 p.h)).mono fun _ _ ⟨e1, e2⟩ => ⟨e1, (hCd _).2 (bthen ((hCd _).1 p.h) e2)⟩)
              have tn : (n != n) = false := by simp
              have td : (-dv != -dv) = false := by simp
              have HCd := hid hCd
              clear hCd KB1 KB4 HMD
              refine wp_region_in C (by kernel_rfl) (by kernel_rfl) hC ?_
              intro hne
              clear hC
              repeat (first | go_big_quiet_step ((go_at_call 18; (first | (with_reducible exact Calls.in_of (O1.out _)) | (with_reducible exact Calls.in_of (O4.out _))))) | quiet_step ((go_at_call 18; (first | (with_reducible exact Calls.in_of (O1.out _)) | (with_reducible exact Calls.in_of (O4.out _))))))
              refine wpQuiet_nil ?_
              intro wq hq
              have hbq := (HCd.out _).1 hq
              have hI8 := HI3.out.next_ hbq
              have hb8 := bthen HB7.out hbq
              clear lk O1 O4 tn td wn hne hq HCd hbq HI3 HB7
              go_wp2_with fail
              go_roundw
              case rel => exact ⟨left', hI8, hIn2, hb8⟩
              case measure => rw [hI8.left_len, HLL.out]; exact HLT.out
    · have hk' : k = l.length := by omega
      subst hk'
      clear hk hlt
      obtain ⟨ac, L, A, cap, d, hL, h⟩ := HF.out
      have hL3 : ac.length * 72 ≤ 140737488351232 := by rw [← h.rel.len h.c.gd h.c.bk.acs.nodup]; omega
      have hLb : L.length ≤ 140737488355328 := by omega
      have KT := hid (cturn_any h.c.bk)
      have H := hid h
      clear HF h hL
      go_wp2_with fail
      refine KT.out.mono ?_
      rintro e w2 ⟨rfl, hb2⟩
      have h2 := H.out.next hb2
      have KA := call_any h2.c.bk hL3
      unfold AllC at KA
      have HKA := hid KA
      have H2 := hid h2
      clear KT H hb2 h2 KA
      go_wp2_with fail
      refine HKA.out.mono ?_
      rintro e w4 ⟨A1, c1, lA, rfl, hp, hs, hO, hcap, hb⟩
      have el : L = lA := (H2.out.rel.told H2.out.c.gd H2.out.c.bk.acs.nodup hp hs).symm
      subst el
      have h4 := H2.out.next hb
      have hpm := h4.rel.perm h4.c.gd h4.c.bk.acs.nodup
      have HRC := hid (show RestC d L from ⟨h4.c.gd.d0, h4.c.gd.d1, fun a ha => h4.rel.fit h4.c.gd ha, h4.rel.sorted, by rw [wtR_all hpm]; exact h4.c.gd.tot⟩)
      have KR := hid (crest_any HSR.out d L A1 c1 w4 (own_rd hO) hLb)
      have H4 := hid h4
      clear HKA H2 hp hs hO hcap hb h4 hpm
      go_wp2_with fail
      refine KR.out.mono ?_
      rintro e w5 ⟨hb5, hh⟩
      obtain ⟨_, X', XL', BL', BA', ac', rfl, hC5, hR5⟩ : RestC d L ∧ ∃ (X XL BL BA : Nat) (ac : List (Int × CP)), e = .returned (.tuple #[.pointer (some ⟨X, 0, none⟩), .int .i64 0]) ∧ IsC w4.heap.size w5 X XL BL BA ac d ∧ RelC (cfind ac) L := by
        rcases hh with h | ⟨h, _⟩
        · exact h
        · exact absurd HRC.out h
      have h5 := H4.out.next hb5
      have hn4 : n0 ≤ w4.heap.size := Nat.le_trans H4.out.low.2.2 H4.out.bw
      have hS5 : St w0 n0 base X' XL' BL' BA' R A cap ac' L d w5 := ⟨⟨hC5.bk.below hn4, hC5.gd⟩, h5.f, hR5, h5.bel, h5.bw, h5.low⟩
      have hL5 : ac'.length * 72 ≤ 140737488351232 := by rw [← hR5.len hC5.gd hC5.bk.acs.nodup, H4.out.rel.len H4.out.c.gd H4.out.c.bk.acs.nodup]; exact hL3
      have KS := hid (state_any HSS.out hS5 hL5)
      have HBE := hid h5.bel
      clear KR hh hb5 hC5 hR5 h5 hS5 hL5 hn4 H4 HRC
      go_wp2_with fail
      refine KS.out.mono ?_
      rintro e w6 ⟨rfl, hb6⟩
      have HB6 := hid (bthen HBE.out hb6)
      clear KS HBE hb6
      go_wp2_with fail
      go_ret
      exact ⟨by simp, HB6.out⟩

end Go.Proofs.Ythdmbbfppgenlaa
