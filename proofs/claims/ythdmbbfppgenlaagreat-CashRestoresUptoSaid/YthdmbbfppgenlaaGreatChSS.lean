/-
  Money of orders: the laws' words ref and state; the document's list beside the book.
  Money of orders: the laws' word state (printed by gen_chsu.py).
-/
import Derived.Test.YthdmbbfppgenlaaGreatChRR
import Derived.Test.YthdmbbfppgenlaaGreatAggSame
import Derived.Test.YthdmbbfppgenlaaGreatIn
namespace Go.Proofs.YthdmbbfppgenlaaGreat
open Go.RowKit Go.WideShapes Go.ChangeShapes Go.ChangeAt Go.Deep
set_option linter.unusedVariables false

/-! ### The list and the book -/
theorem sum_perm {l l' : List Int} (h : l.Perm l') : l.sum = l'.sum := by
  induction h with
  | nil => rfl
  | cons x _ ih => simp [ih]
  | swap x y l => simp; omega
  | trans _ _ h1 h2 => exact h1.trans h2
theorem accs_mem {ac : List (Int × CP)} (hd : (ac.map (·.1)).Nodup) (hg : ∀ q ∈ ac, q.2.a.o = q.1) (a : Ca) : a ∈ accs ac ↔ cfind ac a.o = some a := by
  unfold accs
  rw [List.mem_map]
  constructor
  · rintro ⟨q, hq, rfl⟩
    have h1 := mget_of_mem hd hq
    rw [← hg q hq] at h1
    unfold cfind
    rw [h1]
    rfl
  · intro h
    obtain ⟨g, hm⟩ := cfind_some.1 h
    exact ⟨(a.o, ⟨g, a⟩), mget_mem hm, rfl⟩
theorem accs_nodup {ac : List (Int × CP)} (hd : (ac.map (·.1)).Nodup) (hg : ∀ q ∈ ac, q.2.a.o = q.1) : (accs ac).Nodup := by
  have h1 : ((accs ac).map Ca.o).Nodup := by
    unfold accs
    have e : (ac.map (fun q => q.2.a)).map Ca.o = ac.map (·.1) := by
      rw [List.map_map]
      exact List.map_congr_left (fun q hq => hg q hq)
    rw [e]
    exact hd
  exact (List.pairwise_map.1 h1).imp (fun h e => h (by rw [e]))
theorem RelC.perm {ac : List (Int × CP)} {d : Int} {L : List Ca} (h : RelC (cfind ac) L) (hg : GoodC ac d) (hd : (ac.map (·.1)).Nodup) : L.Perm (accs ac) := by
  have hk := fun q hq => (hg.fit q hq).2
  have hL : L.Nodup := (List.pairwise_map.1 (h.sorted.nodup linI)).imp (fun h e => h (by rw [e]))
  refine (List.perm_ext_iff_of_nodup hL (accs_nodup hd hk)).2 (fun a => ?_)
  rw [accs_mem hd hk, h.mem]
  simp
theorem RelC.told {ac : List (Int × CP)} {d : Int} {L l : List Ca} (h : RelC (cfind ac) L) (hg : GoodC ac d) (hd : (ac.map (·.1)).Nodup) (hp : l.Perm (accs ac)) (hs : l.Pairwise (fun a b => ltC b a = false)) : l = L := by
  have hk := fun q hq => (hg.fit q hq).2
  have hpl : l.Perm L := hp.trans (h.perm hg hd).symm
  have hno : (l.map Ca.o).Nodup := (hpl.map Ca.o).nodup_iff.2 (h.sorted.nodup linI)
  refine SortedK.perm_eq linI (key := Ca.o) ?_ h.sorted hpl
  have h2 := List.pairwise_map.1 hno
  refine List.Pairwise.imp₂ (fun a b h1 h2 => ?_) hs h2
  have h3 := ltC_no h1
  simp only [ltI, decide_eq_true_eq]
  omega
theorem balR_all {ac : List (Int × CP)} {L : List Ca} (hp : L.Perm (accs ac)) (k : Int) : balR L 0 k = sumM (fun a => con a k) ac := by
  unfold balR sumM
  rw [sum_perm (hp.map _)]
  unfold accs
  rw [List.map_map]
  congr 1
theorem balR_of {ac : List (Int × CP)} {L : List Ca} (hp : L.Perm (accs ac)) {c : Int} (hc : c ≠ 0) (k : Int) : balR L c k = ledC ac (c, k) := by
  unfold balR ledC sumM
  rw [sum_perm (hp.map _)]
  unfold accs
  rw [List.map_map]
  congr 1
  refine List.map_congr_left fun q _ => ?_
  simp [hc]
theorem wtR_all {ac : List (Int × CP)} {L : List Ca} (hp : L.Perm (accs ac)) : wtR L = wts ac := by
  unfold wtR wts sumM
  rw [sum_perm (hp.map _)]
  unfold accs
  rw [List.map_map]
  rfl
theorem RelC.fit {ac : List (Int × CP)} {d : Int} {L : List Ca} (h : RelC (cfind ac) L) (hg : GoodC ac d) {a : Ca} (ha : a ∈ L) : FitC a := by
  exact (hg.of a.o 0 ((h.mem a.o a).2 ⟨ha, rfl⟩)).1
theorem RelC.len {ac : List (Int × CP)} {d : Int} {L : List Ca} (h : RelC (cfind ac) L) (hg : GoodC ac d) (hd : (ac.map (·.1)).Nodup) : L.length = ac.length := by
  have := (h.perm hg hd).length_eq
  simpa [accs] using this

/-! ### Equal accounts -/
theorem isAgg_i64 : ∀ w, (isAgg 2).run Tryz.prog w = .ok false w := fun w => by kernel_rfl
theorem isAgg_st : ∀ w, (isAgg 33).run Tryz.prog w = .ok false w := fun w => by kernel_rfl
theorem same_ca (xo xc xst xlv xnet xtax xap xwr xdep : Int) (w : World) : (Op.equalIn 10000 35 (.agg #[.int .i64 xo, .int .i64 xc, .int .i64 xst, .int .i64 xlv, .int .i64 xnet, .int .i64 xtax, .int .i64 xap, .int .i64 xwr, .int .i64 xdep]) (.agg #[.int .i64 xo, .int .i64 xc, .int .i64 xst, .int .i64 xlv, .int .i64 xnet, .int .i64 xtax, .int .i64 xap, .int .i64 xwr, .int .i64 xdep])).run Tryz.prog w = .ok true w := by
  refine agg_same (L := [(3, 0), (3, 1), (33, 2), (3, 3), (2, 4), (2, 5), (2, 6), (2, 7), (2, 8)]) (by kernel_rfl) (by kernel_rfl) (by kernel_rfl) ?_ w
  intro q hq
  simp only [List.mem_cons, List.not_mem_nil, or_false] at hq
  rcases hq with rfl | rfl | rfl | rfl | rfl | rfl | rfl | rfl | rfl
  · exact sameAt_int Tryz.underlying3 isAgg_int rfl
  · exact sameAt_int Tryz.underlying3 isAgg_int rfl
  · exact sameAt_int Tryz.underlying33 isAgg_st rfl
  · exact sameAt_int Tryz.underlying3 isAgg_int rfl
  all_goals exact sameAt_int Tryz.underlying2 isAgg_i64 rfl
theorem guard_ca : Tryz.prog.eqGuardType Tryz.prog.depth 35 = false := by kernel_rfl
theorem same_rca (xo xc xst xlv xnet xtax xap xwr xdep : Int) (w : World) : (Op.equalIn 10000 47 (.agg #[.int .i64 xo, .int .i64 xc, .int .i64 xst, .int .i64 xlv, .int .i64 xnet, .int .i64 xtax, .int .i64 xap, .int .i64 xwr, .int .i64 xdep]) (.agg #[.int .i64 xo, .int .i64 xc, .int .i64 xst, .int .i64 xlv, .int .i64 xnet, .int .i64 xtax, .int .i64 xap, .int .i64 xwr, .int .i64 xdep])).run Tryz.prog w = .ok true w := by
  refine agg_same (L := [(3, 0), (3, 1), (3, 2), (3, 3), (2, 4), (2, 5), (2, 6), (2, 7), (2, 8)]) (by kernel_rfl) (by kernel_rfl) (by kernel_rfl) ?_ w
  intro q hq
  simp only [List.mem_cons, List.not_mem_nil, or_false] at hq
  rcases hq with rfl | rfl | rfl | rfl | rfl | rfl | rfl | rfl | rfl
  · exact sameAt_int Tryz.underlying3 isAgg_int rfl
  · exact sameAt_int Tryz.underlying3 isAgg_int rfl
  · exact sameAt_int Tryz.underlying3 isAgg_int rfl
  · exact sameAt_int Tryz.underlying3 isAgg_int rfl
  all_goals exact sameAt_int Tryz.underlying2 isAgg_i64 rfl
theorem guard_rca : Tryz.prog.eqGuardType Tryz.prog.depth 47 = false := by kernel_rfl

section
variable {n0 base R cap : Nat} {A : Option Addr} {L : List Ca} {d : Int} {w w' w4 wr : World} {X XL BL BA : Nat} {ac : List (Int × CP)}
set_option maxRecDepth 100000 in
set_option maxHeartbeats 8000000 in
theorem ref_any (xo xc xst xlv xnet xtax xap xwr xdep : Int) (w : World) : Calls Tryz.prog 16 #[.agg #[.int .i64 xo, .int .i64 xc, .int .i64 xst, .int .i64 xlv, .int .i64 xnet, .int .i64 xtax, .int .i64 xap, .int .i64 xwr, .int .i64 xdep]] w fun e w' => e = .returned (.agg #[.int .i64 xo, .int .i64 xc, .int .i64 xst, .int .i64 xlv, .int .i64 xnet, .int .i64 xtax, .int .i64 xap, .int .i64 xwr, .int .i64 xdep]) ∧ Below w.heap.size w w' := by
  have hA := Blk.new w 35 #[.int .i64 xo, .int .i64 xc, .int .i64 xst, .int .i64 xlv, .int .i64 xnet, .int .i64 xtax, .int .i64 xap, .int .i64 xwr, .int .i64 xdep]
  have hwa : Below w.heap.size w (w.alloc (.cells #[.int .i64 xo, .int .i64 xc, .int .i64 xst, .int .i64 xlv, .int .i64 xnet, .int .i64 xtax, .int .i64 xap, .int .i64 xwr, .int .i64 xdep] 35)) := (Below.refl _ _).alloc (Nat.le_refl _) _
  have hZ := Blk.new (w.alloc (.cells #[.int .i64 xo, .int .i64 xc, .int .i64 xst, .int .i64 xlv, .int .i64 xnet, .int .i64 xtax, .int .i64 xap, .int .i64 xwr, .int .i64 xdep] 35)) 47 #[.int .i64 0, .int .i64 0, .int .i64 0, .int .i64 0, .int .i64 0, .int .i64 0, .int .i64 0, .int .i64 0, .int .i64 0]
  rw [World.size_alloc] at hZ
  have hA2 := hA.alloc (.cells #[.int .i64 0, .int .i64 0, .int .i64 0, .int .i64 0, .int .i64 0, .int .i64 0, .int .i64 0, .int .i64 0, .int .i64 0] 47)
  have hwb := hwa.alloc hwa.size (.cells #[.int .i64 0, .int .i64 0, .int .i64 0, .int .i64 0, .int .i64 0, .int .i64 0, .int .i64 0, .int .i64 0, .int .i64 0] 47)
  obtain ⟨wz, hwz⟩ : ∃ wz, wz = (w.alloc (.cells #[.int .i64 xo, .int .i64 xc, .int .i64 xst, .int .i64 xlv, .int .i64 xnet, .int .i64 xtax, .int .i64 xap, .int .i64 xwr, .int .i64 xdep] 35)).alloc (.cells #[.int .i64 0, .int .i64 0, .int .i64 0, .int .i64 0, .int .i64 0, .int .i64 0, .int .i64 0, .int .i64 0, .int .i64 0] 47) := ⟨_, rfl⟩
  obtain ⟨G, hG⟩ : ∃ G, G = w.heap.size := ⟨_, rfl⟩
  rw [← hwz] at hZ hA2 hwb
  rw [← hG] at hZ hA2
  have HW := hid hwz
  have HG := hid hG
  have HH := hid (And.intro hZ (And.intro hA2 hwb))
  clear hA hwa hZ hA2 hwb hwz hG
  go_enter Tryz.func16, Tryz.ntmps16
  go_upto_region 1 with fail
  rw [← HW.out, ← HG.out]
  obtain ⟨hZ, hA2, hwb⟩ := HH.out
  have g0 : wz.cell? ⟨G, 0, none⟩ = some (.int .i64 xo) := hA2.cell 0
  have g1 : wz.cell? ⟨G, 1, none⟩ = some (.int .i64 xc) := hA2.cell 1
  have g2 : wz.cell? ⟨G, 2, none⟩ = some (.int .i64 xst) := hA2.cell 2
  have g3 : wz.cell? ⟨G, 3, none⟩ = some (.int .i64 xlv) := hA2.cell 3
  have g4 : wz.cell? ⟨G, 4, none⟩ = some (.int .i64 xnet) := hA2.cell 4
  have g5 : wz.cell? ⟨G, 5, none⟩ = some (.int .i64 xtax) := hA2.cell 5
  have g6 : wz.cell? ⟨G, 6, none⟩ = some (.int .i64 xap) := hA2.cell 6
  have g7 : wz.cell? ⟨G, 7, none⟩ = some (.int .i64 xwr) := hA2.cell 7
  have g8 : wz.cell? ⟨G, 8, none⟩ = some (.int .i64 xdep) := hA2.cell 8
  have lG := hA2.lt
  clear hZ hA2 hwb
  go_wp2_with (first | (refine wpList_store_row rfl 47 _ _ rfl (G + 1) #[.int .i64 xo, .int .i64 xc, .int .i64 xst, .int .i64 xlv, .int .i64 xnet, .int .i64 xtax, .int .i64 xap, .int .i64 xwr, .int .i64 xdep] rfl rfl 47 _ HH.out.1 (by kernel_rfl) (by rfl) (by simp [Value.oneCell']) ?_))
  clear g0 g1 g2 g3 g4 g5 g6 g7 g8 lG
  have hB2 := HH.out.1.setRow #[.int .i64 xo, .int .i64 xc, .int .i64 xst, .int .i64 xlv, .int .i64 xnet, .int .i64 xtax, .int .i64 xap, .int .i64 xwr, .int .i64 xdep]
  have hT2 := Touch.setRow wz (G + 1) #[.int .i64 xo, .int .i64 xc, .int .i64 xst, .int .i64 xlv, .int .i64 xnet, .int .i64 xtax, .int .i64 xap, .int .i64 xwr, .int .i64 xdep]
  have HD := hid (HH.out.2.2.trans (hT2.below HH.out.2.2.size (fun k hk => by rw [hk, HG.out]; omega)))
  generalize wz.setRow (G + 1) #[.int .i64 xo, .int .i64 xc, .int .i64 xst, .int .i64 xlv, .int .i64 xnet, .int .i64 xtax, .int .i64 xap, .int .i64 xwr, .int .i64 xdep] = wf at hB2 HD ⊢
  have e0 : wf.cell? ⟨G + 1, 0, none⟩ = some (.int .i64 xo) := hB2.cell 0
  have e1 : wf.cell? ⟨G + 1, 1, none⟩ = some (.int .i64 xc) := hB2.cell 1
  have e2 : wf.cell? ⟨G + 1, 2, none⟩ = some (.int .i64 xst) := hB2.cell 2
  have e3 : wf.cell? ⟨G + 1, 3, none⟩ = some (.int .i64 xlv) := hB2.cell 3
  have e4 : wf.cell? ⟨G + 1, 4, none⟩ = some (.int .i64 xnet) := hB2.cell 4
  have e5 : wf.cell? ⟨G + 1, 5, none⟩ = some (.int .i64 xtax) := hB2.cell 5
  have e6 : wf.cell? ⟨G + 1, 6, none⟩ = some (.int .i64 xap) := hB2.cell 6
  have e7 : wf.cell? ⟨G + 1, 7, none⟩ = some (.int .i64 xwr) := hB2.cell 7
  have e8 : wf.cell? ⟨G + 1, 8, none⟩ = some (.int .i64 xdep) := hB2.cell 8
  refine bodyPost_ret (v := .agg #[.int .i64 xo, .int .i64 xc, .int .i64 xst, .int .i64 xlv, .int .i64 xnet, .int .i64 xtax, .int .i64 xap, .int .i64 xwr, .int .i64 xdep]) (by simp [results, Tryz.results16, go_sem, e0, e1, e2, e3, e4, e5, e6, e7, e8]) rfl ⟨rfl, HD.out⟩

/-- The book and the document's, side by side. -/
structure St (w0 : World) (n0 base X XL BL BA R : Nat) (A : Option Addr) (cap : Nat) (ac : List (Int × CP)) (L : List Ca) (d : Int) (w : World) : Prop where
  c : IsC n0 w X XL BL BA ac d
  f : IsRf base w R A cap L d
  rel : RelC (cfind ac) L
  bel : Below w0.heap.size w0 w
  bw : base ≤ w.heap.size
  low : w0.heap.size ≤ n0 ∧ w0.heap.size ≤ R ∧ n0 ≤ base
theorem St.next {w0 : World} (h : St w0 n0 base X XL BL BA R A cap ac L d w) (hb : Below w.heap.size w w') : St w0 n0 base X XL BL BA R A cap ac L d w' :=
  ⟨h.c.next hb, h.f.next hb, h.rel, bthen h.bel hb, Nat.le_trans h.bw hb.size, h.low⟩
/-- Both books tell the same on an account. -/
theorem St.bal {w0 : World} (h : St w0 n0 base X XL BL BA R A cap ac L d w) (hS : SortsL) (hl : L.length ≤ 140737488355328) (c k : Int) : ∃ n : Int, ∀ w', Below w.heap.size w w' →
    Calls Tryz.prog 14 #[.pointer (some ⟨X, 0, none⟩), .int .i64 c, .int .i64 k] w' (fun e w2 => e = .returned (.int .i64 n) ∧ Below w'.heap.size w' w2) ∧
    Calls Tryz.prog 50 #[.pointer (some ⟨R, 0, none⟩), .int .i64 c, .int .i64 k] w' (fun e w2 => e = .returned (.int .i64 n) ∧ Below w'.heap.size w' w2) := by
  have hp := h.rel.perm h.c.gd h.c.bk.acs.nodup
  refine ⟨balR L c k, fun w' hb => ⟨?_, rbal_any (h.f.next hb) (fun a ha => h.rel.fit h.c.gd ha) (by rw [wtR_all hp]; exact Int.le_trans h.c.gd.tot h.c.gd.d1) hl c k⟩⟩
  by_cases hc : c = 0
  · subst hc
    rw [balR_all hp, ← h.c.bal]
    exact cbal_all hS (h.c.next hb) k
  · rw [balR_of hp hc]
    exact cbal_of (h.c.next hb) c k hc
end
end Go.Proofs.YthdmbbfppgenlaaGreat

namespace Go.Proofs.YthdmbbfppgenlaaGreat
open Go.RowKit Go.WideShapes Go.ChangeShapes Go.ChangeAt Go.Deep
set_option linter.unusedVariables false
def nO7 (v : Value) : Nat := match v with | .int _ z => (7 - z).toNat | _ => 0
section
variable {n0 base R cap : Nat} {A : Option Addr} {L : List Ca} {d : Int} {w w' w4 wr : World} {X XL BL BA : Nat} {ac : List (Int × CP)}
set_option maxRecDepth 100000 in
set_option maxHeartbeats 16000000 in
theorem state_any {w0 : World} (hS : SortsL) (h : St w0 n0 base X XL BL BA R A cap ac L d w) (hl : ac.length * 72 ≤ 140737488351232) :
    Calls Tryz.prog 19 #[.pointer (some ⟨X, 0, none⟩), .pointer (some ⟨R, 0, none⟩)] w fun e w' => e = .returned (.bool true) ∧ Below w.heap.size w w' := by
  have hL : L.length * 72 ≤ 140737488351232 := by rw [h.rel.len h.c.gd h.c.bk.acs.nodup]; exact hl
  have K := hid (call_any h.c.bk hl)
  unfold AllC at K
  have HS := hid h
  have HSS := hid hS
  clear h hS hl
  go_enter Tryz.func19, Tryz.ntmps19
  go_wp2_with fail
  refine K.out.mono ?_
  rintro e w1 ⟨A1, c1, l, rfl, hp, hs, hO, hcap, hb⟩
  have el : L = l := (HS.out.rel.told HS.out.c.gd HS.out.c.bk.acs.nodup hp hs).symm
  subst el
  clear K hp hs hcap
  have HR := hid (own_rd hO)
  have HE := hid (And.intro (HS.out.next hb) hb)
  clear hO hb HS
  go_wp2_with fail
  obtain ⟨C, hCd⟩ : ∃ C : World → Prop, ∀ w', C w' ↔ Below w1.heap.size w1 w' := ⟨_, fun _ => Iff.rfl⟩
  have hC : C w1.drew := (hCd _).2 (Below.refl _ _).drew
  have c0 : ∀ p : In C, p.w.cell? ⟨R, 0, none⟩ = some (.slice A L.length cap) := fun p => (HE.out.1.f.next ((hCd _).1 p.h)).blk.cell 0
  have cd : ∀ p : In C, p.w.cell? ⟨R, 1, none⟩ = some (.int .i64 d) := fun p => (HE.out.1.f.next ((hCd _).1 p.h)).blk.cell 1
  have lR : ∀ p : In C, R < p.w.heap.size := fun p => (HE.out.1.f.next ((hCd _).1 p.h)).blk.lt
  have O : Hid (∀ p : In C, Calls Tryz.prog 15 #[.pointer (some ⟨X, 0, none⟩)] p.w fun e w' => e = .returned (.int .i64 d) ∧ C w') := hid (fun p => (cturn_any (HE.out.1.next ((hCd _).1 p.h)).c.bk).mono fun _ _ ⟨e1, e2⟩ => ⟨e1, (hCd _).2 (bthen ((hCd _).1 p.h) e2)⟩)
  have t1 : ((L.length : Int) != (L.length : Int)) = false := by simp
  have t2 : (d != d) = false := by simp
  have HCd := hid hCd
  clear hCd
  refine wp_region_in C (by kernel_rfl) (by kernel_rfl) hC ?_
  intro hne
  clear hC
  repeat (first | go_big_quiet_step ((go_at_call 15; exact Calls.in_of (O.out _))) | quiet_step ((go_at_call 15; exact Calls.in_of (O.out _))))
  refine wpQuiet_nil ?_
  intro wq hq
  have hb := (HCd.out _).1 hq
  clear c0 cd lR O hne hq HCd t1 t2
  go_wp2_with fail
  go_loopw [33] (fun i wr => ∃ k : Nat, k ≤ L.length ∧ i = .int .i64 k ∧ Below w1.heap.size w1 wr) (fun i _ => L.length - nOf i)
  case atStart => exact ⟨0, Nat.zero_le _, rfl, hb⟩
  case round =>
    clear hb
    obtain ⟨k, hk, rfl, hb⟩ := hrel
    by_cases hlt : k < L.length
    · obtain ⟨y, hy⟩ : ∃ y, L[k]? = some y := ⟨L[k], List.getElem?_eq_getElem hlt⟩
      obtain ⟨b, o, rfl, _, hcc⟩ := (HR.out.below hb).at_ 9 enC9_len (by omega) hy
      have hF : cfind ac y.o = some y := (HE.out.1.rel.mem _ _).2 ⟨List.mem_of_getElem? hy, rfl⟩
      have KG := hid (fun w' (hb' : Below w1.heap.size w1 w') => cget_any (HE.out.1.next hb').c y.o)
      have KO : Hid (∀ w', Below w1.heap.size w1 w' → Calls Tryz.prog 12 #[.pointer (some ⟨X, 0, none⟩), .int .i64 y.o] w' fun e w2 => e = .returned (.int .i64 (openC y)) ∧ Below w'.heap.size w' w2) := hid (fun w' hb' => by
        have := copen_any (HE.out.1.next hb').c y.o
        rw [hF] at this
        exact this)
      have hsm := (HE.out.1.rel.fit HE.out.1.c.gd (List.mem_of_getElem? hy)).small
      have KP := hid (fun w' => ropen_any y w' hsm)
      have KR := hid (fun w' (hb' : Below w1.heap.size w1 w') => (HE.out.1.next hb').f.elem hy)
      rw [hF] at KG
      simp only [Option.getD_some, Option.isSome_some, aggC, celC] at KG KP
      clear hsm hF
      obtain ⟨yo, yc, yst, ylv, ynet, ytax, yap, ywr, ydep⟩ := y
      have q0 : wr.cell? ⟨b, o + k * 9, none⟩ = some (.int .i64 yo) := hcc 0 _ rfl
      have q1 : wr.cell? ⟨b, o + k * 9 + 1, none⟩ = some (.int .i64 yc) := hcc 1 _ rfl
      have q2 : wr.cell? ⟨b, o + k * 9 + 2, none⟩ = some (.int .i64 yst) := hcc 2 _ rfl
      have q3 : wr.cell? ⟨b, o + k * 9 + 3, none⟩ = some (.int .i64 ylv) := hcc 3 _ rfl
      have q4 : wr.cell? ⟨b, o + k * 9 + 4, none⟩ = some (.int .i64 ynet) := hcc 4 _ rfl
      have q5 : wr.cell? ⟨b, o + k * 9 + 5, none⟩ = some (.int .i64 ytax) := hcc 5 _ rfl
      have q6 : wr.cell? ⟨b, o + k * 9 + 6, none⟩ = some (.int .i64 yap) := hcc 6 _ rfl
      have q7 : wr.cell? ⟨b, o + k * 9 + 7, none⟩ = some (.int .i64 ywr) := hcc 7 _ rfl
      have q8 : wr.cell? ⟨b, o + k * 9 + 8, none⟩ = some (.int .i64 ydep) := hcc 8 _ rfl
      clear hcc
      simp only at KG KO KP
      generalize openC (⟨yo, yc, yst, ylv, ynet, ytax, yap, ywr, ydep⟩ : Ca) = op at KO KP
      have hGB := Blk.new wr 35 #[.int .i64 yo, .int .i64 yc, .int .i64 yst, .int .i64 ylv, .int .i64 ynet, .int .i64 ytax, .int .i64 yap, .int .i64 ywr, .int .i64 ydep]
      have hba : Below wr.heap.size wr (wr.alloc (.cells #[.int .i64 yo, .int .i64 yc, .int .i64 yst, .int .i64 ylv, .int .i64 ynet, .int .i64 ytax, .int .i64 yap, .int .i64 ywr, .int .i64 ydep] 35)) := (Below.refl _ _).alloc (Nat.le_refl _) _
      have HW := hid (And.intro hGB (bthen hb hba))
      clear hGB hba
      go_upto_region 7 with fail
      clear q0 q1 q2 q3 q4 q5 q6 q7 q8
      obtain ⟨wz, hwz⟩ : ∃ wz, wz = wr.alloc (.cells #[.int .i64 yo, .int .i64 yc, .int .i64 yst, .int .i64 ylv, .int .i64 ynet, .int .i64 ytax, .int .i64 yap, .int .i64 ywr, .int .i64 ydep] 35) := ⟨_, rfl⟩
      obtain ⟨G, hG⟩ : ∃ G, G = wr.heap.size := ⟨_, rfl⟩
      obtain ⟨hGB, hbz⟩ := HW.out
      rw [← hwz] at hGB hbz ⊢
      rw [← hG] at hGB ⊢
      clear HW hwz hG hb
      have g0 : wz.cell? ⟨G, 0, none⟩ = some (.int .i64 yo) := hGB.cell 0
      have lG := hGB.lt
      have HG := hid (And.intro hGB hbz)
      replace KG := hid (KG.out _ hbz)
      clear hGB hbz
      go_wp2_with fail
      refine KG.out.mono ?_
      rintro e w3 ⟨rfl, hb3⟩
      clear KG g0 lG
      have hba : Below w3.heap.size w3 (w3.alloc (.cells #[.int .i64 yo, .int .i64 yc, .int .i64 yst, .int .i64 ylv, .int .i64 ynet, .int .i64 ytax, .int .i64 yap, .int .i64 ywr, .int .i64 ydep] 35)) := (Below.refl _ _).alloc (Nat.le_refl _) _
      have hGB := HG.out.1.next (bthen hb3 hba)
      have hbz := bthen HG.out.2 (bthen hb3 hba)
      have hHB := Blk.new w3 35 #[.int .i64 yo, .int .i64 yc, .int .i64 yst, .int .i64 ylv, .int .i64 ynet, .int .i64 ytax, .int .i64 yap, .int .i64 ywr, .int .i64 ydep]
      have HW := hid (And.intro hGB (And.intro hHB hbz))
      clear hGB hbz hHB hba hb3 HG
      go_upto_region 8 with fail
      obtain ⟨hGB, hHB, hbz⟩ := HW.out
      obtain ⟨w5, hw5⟩ : ∃ w5, w5 = w3.alloc (.cells #[.int .i64 yo, .int .i64 yc, .int .i64 yst, .int .i64 ylv, .int .i64 ynet, .int .i64 ytax, .int .i64 yap, .int .i64 ywr, .int .i64 ydep] 35) := ⟨_, rfl⟩
      obtain ⟨H, hH⟩ : ∃ H, H = w3.heap.size := ⟨_, rfl⟩
      rw [← hw5] at hGB hHB hbz ⊢
      rw [← hH] at hHB ⊢
      clear HW hw5 hH
      obtain ⟨C, hCd⟩ : ∃ C : World → Prop, ∀ w', C w' ↔ Below w5.heap.size w5 w' := ⟨_, fun _ => Iff.rfl⟩
      have hC : C w5.drew := (hCd _).2 (Below.refl _ _).drew
      have HC1 := hid (fun p : In C => bthen hbz ((hCd _).1 p.h))
      obtain ⟨g, rfl, _, _⟩ := KR.out _ hbz
      have hcl : ∀ p : In C, CellsAt p.w g (k * 9) (enC9 (⟨yo, yc, yst, ylv, ynet, ytax, yap, ywr, ydep⟩ : Ca)) := fun p => by
        obtain ⟨g', e, _, hcc⟩ := KR.out _ (HC1.out p)
        simp only [Option.some.injEq, Addr.mk.injEq, and_true] at e
        rw [e]
        exact hcc
      have c0 : ∀ p : In C, p.w.cell? ⟨R, 0, none⟩ = some (.slice (some ⟨g, 0, none⟩) L.length cap) := fun p => (HE.out.1.f.next (HC1.out p)).blk.cell 0
      have lR : ∀ p : In C, R < p.w.heap.size := fun p => (HE.out.1.f.next (HC1.out p)).blk.lt
      have lg : ∀ p : In C, g < p.w.heap.size := fun p => (hcl p).1
      have q0 : ∀ p : In C, p.w.cell? ⟨g, k * 9, none⟩ = some (.int .i64 yo) := fun p => (hcl p).2 0 _ rfl
      have q1 : ∀ p : In C, p.w.cell? ⟨g, k * 9 + 1, none⟩ = some (.int .i64 yc) := fun p => (hcl p).2 1 _ rfl
      have q2 : ∀ p : In C, p.w.cell? ⟨g, k * 9 + 2, none⟩ = some (.int .i64 yst) := fun p => (hcl p).2 2 _ rfl
      have q3 : ∀ p : In C, p.w.cell? ⟨g, k * 9 + 3, none⟩ = some (.int .i64 ylv) := fun p => (hcl p).2 3 _ rfl
      have q4 : ∀ p : In C, p.w.cell? ⟨g, k * 9 + 4, none⟩ = some (.int .i64 ynet) := fun p => (hcl p).2 4 _ rfl
      have q5 : ∀ p : In C, p.w.cell? ⟨g, k * 9 + 5, none⟩ = some (.int .i64 ytax) := fun p => (hcl p).2 5 _ rfl
      have q6 : ∀ p : In C, p.w.cell? ⟨g, k * 9 + 6, none⟩ = some (.int .i64 yap) := fun p => (hcl p).2 6 _ rfl
      have q7 : ∀ p : In C, p.w.cell? ⟨g, k * 9 + 7, none⟩ = some (.int .i64 ywr) := fun p => (hcl p).2 7 _ rfl
      have q8 : ∀ p : In C, p.w.cell? ⟨g, k * 9 + 8, none⟩ = some (.int .i64 ydep) := fun p => (hcl p).2 8 _ rfl
      have g0 : ∀ p : In C, p.w.cell? ⟨G, 0, none⟩ = some (.int .i64 yo) := fun p => (hGB.next ((hCd _).1 p.h)).cell 0
      have g1 : ∀ p : In C, p.w.cell? ⟨G, 1, none⟩ = some (.int .i64 yc) := fun p => (hGB.next ((hCd _).1 p.h)).cell 1
      have g2 : ∀ p : In C, p.w.cell? ⟨G, 2, none⟩ = some (.int .i64 yst) := fun p => (hGB.next ((hCd _).1 p.h)).cell 2
      have g3 : ∀ p : In C, p.w.cell? ⟨G, 3, none⟩ = some (.int .i64 ylv) := fun p => (hGB.next ((hCd _).1 p.h)).cell 3
      have g4 : ∀ p : In C, p.w.cell? ⟨G, 4, none⟩ = some (.int .i64 ynet) := fun p => (hGB.next ((hCd _).1 p.h)).cell 4
      have g5 : ∀ p : In C, p.w.cell? ⟨G, 5, none⟩ = some (.int .i64 ytax) := fun p => (hGB.next ((hCd _).1 p.h)).cell 5
      have g6 : ∀ p : In C, p.w.cell? ⟨G, 6, none⟩ = some (.int .i64 yap) := fun p => (hGB.next ((hCd _).1 p.h)).cell 6
      have g7 : ∀ p : In C, p.w.cell? ⟨G, 7, none⟩ = some (.int .i64 ywr) := fun p => (hGB.next ((hCd _).1 p.h)).cell 7
      have g8 : ∀ p : In C, p.w.cell? ⟨G, 8, none⟩ = some (.int .i64 ydep) := fun p => (hGB.next ((hCd _).1 p.h)).cell 8
      have m0 : ∀ p : In C, p.w.cell? ⟨H, 0, none⟩ = some (.int .i64 yo) := fun p => (hHB.next ((hCd _).1 p.h)).cell 0
      have m1 : ∀ p : In C, p.w.cell? ⟨H, 1, none⟩ = some (.int .i64 yc) := fun p => (hHB.next ((hCd _).1 p.h)).cell 1
      have m2 : ∀ p : In C, p.w.cell? ⟨H, 2, none⟩ = some (.int .i64 yst) := fun p => (hHB.next ((hCd _).1 p.h)).cell 2
      have m3 : ∀ p : In C, p.w.cell? ⟨H, 3, none⟩ = some (.int .i64 ylv) := fun p => (hHB.next ((hCd _).1 p.h)).cell 3
      have m4 : ∀ p : In C, p.w.cell? ⟨H, 4, none⟩ = some (.int .i64 ynet) := fun p => (hHB.next ((hCd _).1 p.h)).cell 4
      have m5 : ∀ p : In C, p.w.cell? ⟨H, 5, none⟩ = some (.int .i64 ytax) := fun p => (hHB.next ((hCd _).1 p.h)).cell 5
      have m6 : ∀ p : In C, p.w.cell? ⟨H, 6, none⟩ = some (.int .i64 yap) := fun p => (hHB.next ((hCd _).1 p.h)).cell 6
      have m7 : ∀ p : In C, p.w.cell? ⟨H, 7, none⟩ = some (.int .i64 ywr) := fun p => (hHB.next ((hCd _).1 p.h)).cell 7
      have m8 : ∀ p : In C, p.w.cell? ⟨H, 8, none⟩ = some (.int .i64 ydep) := fun p => (hHB.next ((hCd _).1 p.h)).cell 8
      have O1 : Hid (∀ p : In C, Calls Tryz.prog 16 #[.agg #[.int .i64 yo, .int .i64 yc, .int .i64 yst, .int .i64 ylv, .int .i64 ynet, .int .i64 ytax, .int .i64 yap, .int .i64 ywr, .int .i64 ydep]] p.w fun e w' => e = .returned (.agg #[.int .i64 yo, .int .i64 yc, .int .i64 yst, .int .i64 ylv, .int .i64 ynet, .int .i64 ytax, .int .i64 yap, .int .i64 ywr, .int .i64 ydep]) ∧ C w') := hid (fun p => (ref_any _ _ _ _ _ _ _ _ _ p.w).mono fun _ _ ⟨e1, e2⟩ => ⟨e1, (hCd _).2 (bthen ((hCd _).1 p.h) e2)⟩)
      have O2 : Hid (∀ p : In C, Calls Tryz.prog 12 #[.pointer (some ⟨X, 0, none⟩), .int .i64 yo] p.w fun e w' => e = .returned (.int .i64 op) ∧ C w') := hid (fun p => (KO.out _ (HC1.out p)).mono fun _ _ ⟨e1, e2⟩ => ⟨e1, (hCd _).2 (bthen ((hCd _).1 p.h) e2)⟩)
      have O3 : Hid (∀ p : In C, Calls Tryz.prog 49 #[.agg #[.int .i64 yo, .int .i64 yc, .int .i64 yst, .int .i64 ylv, .int .i64 ynet, .int .i64 ytax, .int .i64 yap, .int .i64 ywr, .int .i64 ydep]] p.w fun e w' => e = .returned (.int .i64 op) ∧ C w') := hid (fun p => (KP.out p.w).mono fun _ _ ⟨e1, e2⟩ => ⟨e1, (hCd _).2 (bthen ((hCd _).1 p.h) e2)⟩)
      have t1 : (op != op) = false := by simp
      have s1 := same_ca yo yc yst ylv ynet ytax yap ywr ydep
      have s2 := guard_ca
      have s3 := same_rca yo yc yst ylv ynet ytax yap ywr ydep
      have s4 := guard_rca
      have HGB := hid hGB
      have HBZ := hid hbz
      have HCd := hid hCd
      have HY := hid hy
      clear hcl hGB hHB hbz hCd KO KP KR HC1 hy
      refine wp_region_in C (by kernel_rfl) (by kernel_rfl) hC ?_
      intro hne
      clear hC
      repeat (first | go_big_quiet_step ((first | (go_at_call 16; exact Calls.in_of (O1.out _)) | (go_at_call 12; exact Calls.in_of (O2.out _)) | (go_at_call 49; exact Calls.in_of (O3.out _)))) | quiet_step ((first | (go_at_call 16; exact Calls.in_of (O1.out _)) | (go_at_call 12; exact Calls.in_of (O2.out _)) | (go_at_call 49; exact Calls.in_of (O3.out _)))))
      refine wpQuiet_nil ?_
      intro wq hq
      have hbq := (HCd.out _).1 hq
      have HG := hid (And.intro (HGB.out.next hbq) (bthen HBZ.out hbq))
      clear c0 lR lg q0 g0 m0 q1 g1 m1 q2 g2 m2 q3 g3 m3 q4 g4 m4 q5 g5 m5 q6 g6 m6 q7 g7 m7 q8 g8 m8 O1 O2 O3 t1 s1 s2 s3 s4 HGB HBZ HCd hne hq hbq
      go_wp2_with fail
      go_loopw [79] (fun i wr => ∃ m : Nat, m ≤ 6 ∧ i = .int .i64 m ∧ Below wq.heap.size wq wr) (fun i _ => 6 - nOf i)
      case atStart => exact ⟨0, Nat.zero_le _, rfl, Below.refl _ _⟩
      case round =>
        obtain ⟨m, hm, rfl, hb⟩ := hrel
        by_cases hm6 : m < 6
        · have tm : (m : Int) < 6 := by omega
          go_upto_region 13 with fail
          clear tm
          obtain ⟨n, hn⟩ := (HE.out.1.next (bthen HG.out.2 hb)).bal HSS.out (by omega) yc (m)
          obtain ⟨C, hCd⟩ : ∃ C : World → Prop, ∀ w', C w' ↔ Below wr.heap.size wr w' := ⟨_, fun _ => Iff.rfl⟩
          have hC : C wr.drew := (hCd _).2 (Below.refl _ _).drew
          have g1 : ∀ p : In C, p.w.cell? ⟨G, 1, none⟩ = some (.int .i64 yc) := fun p => (HG.out.1.next (bthen hb ((hCd _).1 p.h))).cell 1
          have O1 : Hid (∀ p : In C, Calls Tryz.prog 14 #[.pointer (some ⟨X, 0, none⟩), .int .i64 yc, .int .i64 (m)] p.w fun e w' => e = .returned (.int .i64 n) ∧ C w') := hid (fun p => (hn _ ((hCd _).1 p.h)).1.mono fun _ _ ⟨e1, e2⟩ => ⟨e1, (hCd _).2 (bthen ((hCd _).1 p.h) e2)⟩)
          have O2 : Hid (∀ p : In C, Calls Tryz.prog 50 #[.pointer (some ⟨R, 0, none⟩), .int .i64 yc, .int .i64 (m)] p.w fun e w' => e = .returned (.int .i64 n) ∧ C w') := hid (fun p => (hn _ ((hCd _).1 p.h)).2.mono fun _ _ ⟨e1, e2⟩ => ⟨e1, (hCd _).2 (bthen ((hCd _).1 p.h) e2)⟩)
          have tn : (n != n) = false := by simp
          have HCd := hid hCd
          clear hCd hn
          refine wp_region_in C (by kernel_rfl) (by kernel_rfl) hC ?_
          intro hne
          clear hC
          repeat (first | go_big_quiet_step ((first | (go_at_call 14; exact Calls.in_of (O1.out _)) | (go_at_call 50; exact Calls.in_of (O2.out _)))) | quiet_step ((first | (go_at_call 14; exact Calls.in_of (O1.out _)) | (go_at_call 50; exact Calls.in_of (O2.out _)))))
          refine wpQuiet_nil ?_
          intro wp hq
          have hbq := bthen hb ((HCd.out _).1 hq)
          clear g1 O1 O2 tn HCd hne hq hb
          go_wp2_with fail
          go_roundw
          case rel => exact ⟨m + 1, by omega, by go_num, hbq⟩
          case measure => simp [nOf]; omega
        · have tm : ¬ (m : Int) < 6 := by omega
          go_wp2_with fail
          go_roundw
          case rel => exact ⟨k + 1, by omega, by go_num, bthen HG.out.2 hb⟩
          case measure => simp [nOf]; omega
    · clear hk
      go_wp2_with fail
      go_loopw [11] (fun i wr => ∃ m : Nat, m ≤ 8 ∧ i = .int .i64 ((m : Int) - 1) ∧ Below w1.heap.size w1 wr) (fun i _ => nO7 i)
      case atStart => exact ⟨0, Nat.zero_le _, rfl, hb⟩
      case round =>
        clear hb
        obtain ⟨m, hm, rfl, hb⟩ := hrel
        by_cases hm8 : m < 8
        · have tm : decide ((m : Int) - 1 ≤ 6) = true := decide_eq_true (by omega)
          obtain ⟨n, hn⟩ := (HE.out.1.next hb).bal HSS.out (by omega) 0 ((m : Int) - 1)
          have HN := hid hn
          have tn : (n != n) = false := by simp
          clear hn
          go_wp2_with fail
          refine ((HN.out _ (Below.refl _ _)).1).mono ?_
          rintro e w2 ⟨rfl, hb2⟩
          have HB2 := hid hb2
          clear hb2
          go_wp2_with fail
          refine ((HN.out _ HB2.out).2).mono ?_
          rintro e w3 ⟨rfl, hb3⟩
          have hbq := bthen hb (bthen HB2.out hb3)
          clear HN HB2 hb3 hb
          go_wp2_with fail
          go_roundw
          case rel => exact ⟨m + 1, by omega, by first | rfl | (congr 1; omega), hbq⟩
          case measure => simp only [nO7]; omega
        · have tm : decide ((m : Int) - 1 ≤ 6) = false := decide_eq_false (by omega)
          go_wp2_with fail
          go_ret
          exact ⟨rfl, bthen HE.out.2 hb⟩
end

end Go.Proofs.YthdmbbfppgenlaaGreat
