/-
  Money of orders: the laws' words ref and state; the document's list beside the book.
-/
import Derived.Test.YthdmbbfppgenlaaChR8
import Derived.Test.YthdmbbfppgenlaaAggSame
import Derived.Test.YthdmbbfppgenlaaIn
namespace Go.Proofs.Ythdmbbfppgenlaa
open Go.RowKit Go.WideShapes Go.ChangeShapes Go.ChangeAt Go.Deep
set_option linter.unusedVariables false

/-! ### The list and the book -/
theorem sum_perm {l l' : List Int} (h : l.Perm l') : l.sum = l'.sum := by
  induction h with
  | nil => rfl
  | cons x _ ih => simp [ih]
  | swap x y l => simp; omega
  | trans _ _ h1 h2 => exact h1.trans h2
theorem accs_mem {ac : List (Int × CP)} (hd : (ac.map (·.1)).Nodup) (hg : ∀ q ∈ ac, q.2.a.o = q.1) (a : Ca) : a ∈ accs ac ↔ cfind ac a.o = some a := by
  unfold accs
  rw [List.mem_map]
  constructor
  · rintro ⟨q, hq, rfl⟩
    have h1 := mget_of_mem hd hq
    rw [← hg q hq] at h1
    unfold cfind
    rw [h1]
    rfl
  · intro h
    obtain ⟨g, hm⟩ := cfind_some.1 h
    exact ⟨(a.o, ⟨g, a⟩), mget_mem hm, rfl⟩
theorem accs_nodup {ac : List (Int × CP)} (hd : (ac.map (·.1)).Nodup) (hg : ∀ q ∈ ac, q.2.a.o = q.1) : (accs ac).Nodup := by
  have h1 : ((accs ac).map Ca.o).Nodup := by
    unfold accs
    have e : (ac.map (fun q => q.2.a)).map Ca.o = ac.map (·.1) := by
      rw [List.map_map]
      exact List.map_congr_left (fun q hq => hg q hq)
    rw [e]
    exact hd
  exact (List.pairwise_map.1 h1).imp (fun h e => h (by rw [e]))
theorem RelC.perm {ac : List (Int × CP)} {d : Int} {L : List Ca} (h : RelC (cfind ac) L) (hg : GoodC ac d) (hd : (ac.map (·.1)).Nodup) : L.Perm (accs ac) := by
  have hk := fun q hq => (hg.fit q hq).2
  have hL : L.Nodup := (List.pairwise_map.1 (h.sorted.nodup linI)).imp (fun h e => h (by rw [e]))
  refine (List.perm_ext_iff_of_nodup hL (accs_nodup hd hk)).2 (fun a => ?_)
  rw [accs_mem hd hk, h.mem]
  simp
theorem RelC.told {ac : List (Int × CP)} {d : Int} {L l : List Ca} (h : RelC (cfind ac) L) (hg : GoodC ac d) (hd : (ac.map (·.1)).Nodup) (hp : l.Perm (accs ac)) (hs : l.Pairwise (fun a b => ltC b a = false)) : l = L := by
  have hk := fun q hq => (hg.fit q hq).2
  have hpl : l.Perm L := hp.trans (h.perm hg hd).symm
  have hno : (l.map Ca.o).Nodup := (hpl.map Ca.o).nodup_iff.2 (h.sorted.nodup linI)
  refine SortedK.perm_eq linI (key := Ca.o) ?_ h.sorted hpl
  have h2 := List.pairwise_map.1 hno
  refine List.Pairwise.imp₂ (fun a b h1 h2 => ?_) hs h2
  have h3 := ltC_no h1
  simp only [ltI, decide_eq_true_eq]
  omega
theorem balR_all {ac : List (Int × CP)} {L : List Ca} (hp : L.Perm (accs ac)) (k : Int) : balR L 0 k = sumM (fun a => con a k) ac := by
  unfold balR sumM
  rw [sum_perm (hp.map _)]
  unfold accs
  rw [List.map_map]
  congr 1
theorem balR_of {ac : List (Int × CP)} {L : List Ca} (hp : L.Perm (accs ac)) {c : Int} (hc : c ≠ 0) (k : Int) : balR L c k = ledC ac (c, k) := by
  unfold balR ledC sumM
  rw [sum_perm (hp.map _)]
  unfold accs
  rw [List.map_map]
  congr 1
  refine List.map_congr_left fun q _ => ?_
  simp [hc]
theorem wtR_all {ac : List (Int × CP)} {L : List Ca} (hp : L.Perm (accs ac)) : wtR L = wts ac := by
  unfold wtR wts sumM
  rw [sum_perm (hp.map _)]
  unfold accs
  rw [List.map_map]
  rfl
theorem RelC.fit {ac : List (Int × CP)} {d : Int} {L : List Ca} (h : RelC (cfind ac) L) (hg : GoodC ac d) {a : Ca} (ha : a ∈ L) : FitC a := by
  exact (hg.of a.o 0 ((h.mem a.o a).2 ⟨ha, rfl⟩)).1
theorem RelC.len {ac : List (Int × CP)} {d : Int} {L : List Ca} (h : RelC (cfind ac) L) (hg : GoodC ac d) (hd : (ac.map (·.1)).Nodup) : L.length = ac.length := by
  have := (h.perm hg hd).length_eq
  simpa [accs] using this

/-! ### Equal accounts -/
theorem isAgg_i64 : ∀ w, (isAgg 2).run Try.prog w = .ok false w := fun w => by kernel_rfl
theorem isAgg_st : ∀ w, (isAgg 31).run Try.prog w = .ok false w := fun w => by kernel_rfl
theorem same_ca (xo xc xst xlv xnet xtax xap xwr xdep : Int) (w : World) : (Op.equalIn 10000 33 (.agg #[.int .i64 xo, .int .i64 xc, .int .i64 xst, .int .i64 xlv, .int .i64 xnet, .int .i64 xtax, .int .i64 xap, .int .i64 xwr, .int .i64 xdep]) (.agg #[.int .i64 xo, .int .i64 xc, .int .i64 xst, .int .i64 xlv, .int .i64 xnet, .int .i64 xtax, .int .i64 xap, .int .i64 xwr, .int .i64 xdep])).run Try.prog w = .ok true w := by
  refine agg_same (L := [(3, 0), (3, 1), (31, 2), (3, 3), (2, 4), (2, 5), (2, 6), (2, 7), (2, 8)]) (by kernel_rfl) (by kernel_rfl) (by kernel_rfl) ?_ w
  intro q hq
  simp only [List.mem_cons, List.not_mem_nil, or_false] at hq
  rcases hq with rfl | rfl | rfl | rfl | rfl | rfl | rfl | rfl | rfl
  · exact sameAt_int Try.underlying3 isAgg_int rfl
  · exact sameAt_int Try.underlying3 isAgg_int rfl
  · exact sameAt_int Try.underlying31 isAgg_st rfl
  · exact sameAt_int Try.underlying3 isAgg_int rfl
  all_goals exact sameAt_int Try.underlying2 isAgg_i64 rfl
theorem guard_ca : Try.prog.eqGuardType Try.prog.depth 33 = false := by kernel_rfl
theorem same_rca (xo xc xst xlv xnet xtax xap xwr xdep : Int) (w : World) : (Op.equalIn 10000 109 (.agg #[.int .i64 xo, .int .i64 xc, .int .i64 xst, .int .i64 xlv, .int .i64 xnet, .int .i64 xtax, .int .i64 xap, .int .i64 xwr, .int .i64 xdep]) (.agg #[.int .i64 xo, .int .i64 xc, .int .i64 xst, .int .i64 xlv, .int .i64 xnet, .int .i64 xtax, .int .i64 xap, .int .i64 xwr, .int .i64 xdep])).run Try.prog w = .ok true w := by
  refine agg_same (L := [(3, 0), (3, 1), (3, 2), (3, 3), (2, 4), (2, 5), (2, 6), (2, 7), (2, 8)]) (by kernel_rfl) (by kernel_rfl) (by kernel_rfl) ?_ w
  intro q hq
  simp only [List.mem_cons, List.not_mem_nil, or_false] at hq
  rcases hq with rfl | rfl | rfl | rfl | rfl | rfl | rfl | rfl | rfl
  · exact sameAt_int Try.underlying3 isAgg_int rfl
  · exact sameAt_int Try.underlying3 isAgg_int rfl
  · exact sameAt_int Try.underlying3 isAgg_int rfl
  · exact sameAt_int Try.underlying3 isAgg_int rfl
  all_goals exact sameAt_int Try.underlying2 isAgg_i64 rfl
theorem guard_rca : Try.prog.eqGuardType Try.prog.depth 109 = false := by kernel_rfl

section
variable {n0 base R cap : Nat} {A : Option Addr} {L : List Ca} {d : Int} {w w' w4 wr : World} {X XL BL BA : Nat} {ac : List (Int × CP)}
set_option maxRecDepth 100000 in
set_option maxHeartbeats 8000000 in
theorem ref_any (xo xc xst xlv xnet xtax xap xwr xdep : Int) (w : World) : Calls Try.prog 58 #[.agg #[.int .i64 xo, .int .i64 xc, .int .i64 xst, .int .i64 xlv, .int .i64 xnet, .int .i64 xtax, .int .i64 xap, .int .i64 xwr, .int .i64 xdep]] w fun e w' => e = .returned (.agg #[.int .i64 xo, .int .i64 xc, .int .i64 xst, .int .i64 xlv, .int .i64 xnet, .int .i64 xtax, .int .i64 xap, .int .i64 xwr, .int .i64 xdep]) ∧ Below w.heap.size w w' := by
  have hA := Blk.new w 33 #[.int .i64 xo, .int .i64 xc, .int .i64 xst, .int .i64 xlv, .int .i64 xnet, .int .i64 xtax, .int .i64 xap, .int .i64 xwr, .int .i64 xdep]
  have hwa : Below w.heap.size w (w.alloc (.cells #[.int .i64 xo, .int .i64 xc, .int .i64 xst, .int .i64 xlv, .int .i64 xnet, .int .i64 xtax, .int .i64 xap, .int .i64 xwr, .int .i64 xdep] 33)) := (Below.refl _ _).alloc (Nat.le_refl _) _
  have hZ := Blk.new (w.alloc (.cells #[.int .i64 xo, .int .i64 xc, .int .i64 xst, .int .i64 xlv, .int .i64 xnet, .int .i64 xtax, .int .i64 xap, .int .i64 xwr, .int .i64 xdep] 33)) 109 #[.int .i64 0, .int .i64 0, .int .i64 0, .int .i64 0, .int .i64 0, .int .i64 0, .int .i64 0, .int .i64 0, .int .i64 0]
  rw [World.size_alloc] at hZ
  have hA2 := hA.alloc (.cells #[.int .i64 0, .int .i64 0, .int .i64 0, .int .i64 0, .int .i64 0, .int .i64 0, .int .i64 0, .int .i64 0, .int .i64 0] 109)
  have hwb := hwa.alloc hwa.size (.cells #[.int .i64 0, .int .i64 0, .int .i64 0, .int .i64 0, .int .i64 0, .int .i64 0, .int .i64 0, .int .i64 0, .int .i64 0] 109)
  obtain ⟨wz, hwz⟩ : ∃ wz, wz = (w.alloc (.cells #[.int .i64 xo, .int .i64 xc, .int .i64 xst, .int .i64 xlv, .int .i64 xnet, .int .i64 xtax, .int .i64 xap, .int .i64 xwr, .int .i64 xdep] 33)).alloc (.cells #[.int .i64 0, .int .i64 0, .int .i64 0, .int .i64 0, .int .i64 0, .int .i64 0, .int .i64 0, .int .i64 0, .int .i64 0] 109) := ⟨_, rfl⟩
  obtain ⟨G, hG⟩ : ∃ G, G = w.heap.size := ⟨_, rfl⟩
  rw [← hwz] at hZ hA2 hwb
  rw [← hG] at hZ hA2
  have HW := hid hwz
  have HG := hid hG
  have HH := hid (And.intro hZ (And.intro hA2 hwb))
  clear hA hwa hZ hA2 hwb hwz hG
  go_enter Try.func58, Try.ntmps58
  go_upto_region 1 with fail
  rw [← HW.out, ← HG.out]
  obtain ⟨hZ, hA2, hwb⟩ := HH.out
  have g0 : wz.cell? ⟨G, 0, none⟩ = some (.int .i64 xo) := hA2.cell 0
  have g1 : wz.cell? ⟨G, 1, none⟩ = some (.int .i64 xc) := hA2.cell 1
  have g2 : wz.cell? ⟨G, 2, none⟩ = some (.int .i64 xst) := hA2.cell 2
  have g3 : wz.cell? ⟨G, 3, none⟩ = some (.int .i64 xlv) := hA2.cell 3
  have g4 : wz.cell? ⟨G, 4, none⟩ = some (.int .i64 xnet) := hA2.cell 4
  have g5 : wz.cell? ⟨G, 5, none⟩ = some (.int .i64 xtax) := hA2.cell 5
  have g6 : wz.cell? ⟨G, 6, none⟩ = some (.int .i64 xap) := hA2.cell 6
  have g7 : wz.cell? ⟨G, 7, none⟩ = some (.int .i64 xwr) := hA2.cell 7
  have g8 : wz.cell? ⟨G, 8, none⟩ = some (.int .i64 xdep) := hA2.cell 8
  have lG := hA2.lt
  clear hZ hA2 hwb
  go_wp2_with (first | (refine wpList_store_row rfl 109 _ _ rfl (G + 1) #[.int .i64 xo, .int .i64 xc, .int .i64 xst, .int .i64 xlv, .int .i64 xnet, .int .i64 xtax, .int .i64 xap, .int .i64 xwr, .int .i64 xdep] rfl rfl 109 _ HH.out.1 (by kernel_rfl) (by rfl) (by simp [Value.oneCell']) ?_))
  clear g0 g1 g2 g3 g4 g5 g6 g7 g8 lG
  have hB2 := HH.out.1.setRow #[.int .i64 xo, .int .i64 xc, .int .i64 xst, .int .i64 xlv, .int .i64 xnet, .int .i64 xtax, .int .i64 xap, .int .i64 xwr, .int .i64 xdep]
  have hT2 := Touch.setRow wz (G + 1) #[.int .i64 xo, .int .i64 xc, .int .i64 xst, .int .i64 xlv, .int .i64 xnet, .int .i64 xtax, .int .i64 xap, .int .i64 xwr, .int .i64 xdep]
  have HD := hid (HH.out.2.2.trans (hT2.below HH.out.2.2.size (fun k hk => by rw [hk, HG.out]; omega)))
  generalize wz.setRow (G + 1) #[.int .i64 xo, .int .i64 xc, .int .i64 xst, .int .i64 xlv, .int .i64 xnet, .int .i64 xtax, .int .i64 xap, .int .i64 xwr, .int .i64 xdep] = wf at hB2 HD ⊢
  have e0 : wf.cell? ⟨G + 1, 0, none⟩ = some (.int .i64 xo) := hB2.cell 0
  have e1 : wf.cell? ⟨G + 1, 1, none⟩ = some (.int .i64 xc) := hB2.cell 1
  have e2 : wf.cell? ⟨G + 1, 2, none⟩ = some (.int .i64 xst) := hB2.cell 2
  have e3 : wf.cell? ⟨G + 1, 3, none⟩ = some (.int .i64 xlv) := hB2.cell 3
  have e4 : wf.cell? ⟨G + 1, 4, none⟩ = some (.int .i64 xnet) := hB2.cell 4
  have e5 : wf.cell? ⟨G + 1, 5, none⟩ = some (.int .i64 xtax) := hB2.cell 5
  have e6 : wf.cell? ⟨G + 1, 6, none⟩ = some (.int .i64 xap) := hB2.cell 6
  have e7 : wf.cell? ⟨G + 1, 7, none⟩ = some (.int .i64 xwr) := hB2.cell 7
  have e8 : wf.cell? ⟨G + 1, 8, none⟩ = some (.int .i64 xdep) := hB2.cell 8
  refine bodyPost_ret (v := .agg #[.int .i64 xo, .int .i64 xc, .int .i64 xst, .int .i64 xlv, .int .i64 xnet, .int .i64 xtax, .int .i64 xap, .int .i64 xwr, .int .i64 xdep]) (by simp [results, Try.results58, go_sem, e0, e1, e2, e3, e4, e5, e6, e7, e8]) rfl ⟨rfl, HD.out⟩

/-- The book and the document's, side by side. -/
structure St (w0 : World) (n0 base X XL BL BA R : Nat) (A : Option Addr) (cap : Nat) (ac : List (Int × CP)) (L : List Ca) (d : Int) (w : World) : Prop where
  c : IsC n0 w X XL BL BA ac d
  f : IsRf base w R A cap L d
  rel : RelC (cfind ac) L
  bel : Below w0.heap.size w0 w
  bw : base ≤ w.heap.size
  low : w0.heap.size ≤ n0 ∧ w0.heap.size ≤ R ∧ n0 ≤ base
theorem St.next {w0 : World} (h : St w0 n0 base X XL BL BA R A cap ac L d w) (hb : Below w.heap.size w w') : St w0 n0 base X XL BL BA R A cap ac L d w' :=
  ⟨h.c.next hb, h.f.next hb, h.rel, bthen h.bel hb, Nat.le_trans h.bw hb.size, h.low⟩
/-- Both books tell the same on an account. -/
theorem St.bal {w0 : World} (h : St w0 n0 base X XL BL BA R A cap ac L d w) (hS : SortsL) (hl : L.length ≤ 140737488355328) (c k : Int) : ∃ n : Int, ∀ w', Below w.heap.size w w' →
    Calls Try.prog 18 #[.pointer (some ⟨X, 0, none⟩), .int .i64 c, .int .i64 k] w' (fun e w2 => e = .returned (.int .i64 n) ∧ Below w'.heap.size w' w2) ∧
    Calls Try.prog 60 #[.pointer (some ⟨R, 0, none⟩), .int .i64 c, .int .i64 k] w' (fun e w2 => e = .returned (.int .i64 n) ∧ Below w'.heap.size w' w2) := by
  have hp := h.rel.perm h.c.gd h.c.bk.acs.nodup
  refine ⟨balR L c k, fun w' hb => ⟨?_, rbal_any (h.f.next hb) (fun a ha => h.rel.fit h.c.gd ha) (by rw [wtR_all hp]; exact Int.le_trans h.c.gd.tot h.c.gd.d1) hl c k⟩⟩
  by_cases hc : c = 0
  · subst hc
    rw [balR_all hp, ← h.c.bal]
    exact cbal_all hS (h.c.next hb) k
  · rw [balR_of hp hc]
    exact cbal_of (h.c.next hb) c k hc
end
end Go.Proofs.Ythdmbbfppgenlaa
