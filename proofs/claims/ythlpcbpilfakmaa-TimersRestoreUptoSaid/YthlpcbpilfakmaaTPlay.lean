/-
  The walk of play and of TimersPlay.
-/
import Derived.Test.YthlpcbpilfakmaaTRef2
import Derived.Test.YthlpcbpilfakmaaTOnce
import Derived.Test.YthlpcbpilfakmaaTFire
namespace Go.Proofs.Ythlpcbpilfakmaa
open Go.RowKit Go.WideShapes Go.ChangeShapes Go.ChangeAt Go.Deep
set_option linter.unusedVariables false

theorem mset_perm {κ ν : Type} [DecidableEq κ] {m : List (κ × ν)} (hd : (m.map (·.1)).Nodup) (a : κ) (b : ν) : (mset m a b).Perm ((a, b) :: mdel m a) := by
  induction m with
  | nil => simp [mset, mdel]
  | cons p m ih =>
    simp only [List.map_cons, List.nodup_cons] at hd
    have ih' := ih hd.2
    by_cases hp : p.1 = a
    · have hn : a ∉ m.map (·.1) := by rw [← hp]; exact hd.1
      have e1 : mset (p :: m) a b = (a, b) :: m := by
        unfold mset
        rw [if_pos (by simp [hp])]
        simp only [List.map_cons, hp, if_true]
        congr 1
        conv => rhs; rw [← List.map_id m]
        refine List.map_congr_left fun q hq => ?_
        have : q.1 ≠ a := fun e => hn (by rw [← e]; exact List.mem_map_of_mem hq)
        simp [this]
      have e2 : mdel (p :: m) a = m := by
        have := mdel_none hn
        unfold mdel at this ⊢
        rw [List.filter_cons_of_neg (by simp [hp]), this]
      rw [e1, e2]
    · have e1 : mset (p :: m) a b = p :: mset m a b := by
        unfold mset
        by_cases hin : a ∈ m.map (·.1)
        · rw [if_pos (by simp only [List.map_cons, List.mem_cons]; exact .inr hin), if_pos hin]
          simp [hp]
        · rw [if_neg (by simp only [List.map_cons, List.mem_cons, not_or]; exact ⟨fun e => hp e.symm, hin⟩), if_neg hin]
          rfl
      have e2 : mdel (p :: m) a = p :: mdel m a := by
        unfold mdel
        rw [List.filter_cons_of_pos (by simpa using hp)]
      rw [e1, e2]
      exact (ih'.cons p).trans (List.Perm.swap _ _ _)

theorem TRel.nil : TRel [] [] := ⟨by simp, List.Pairwise.nil, List.Perm.refl _⟩
theorem TRel.del {m : TMap} {l : List Tm} (h : TRel m l) (p : Int × Int) : TRel (mdel m p) (dropT l p) := by
  refine ⟨mdel_nodup h.nd _, h.sorted.sublist List.filter_sublist, ?_⟩
  refine (h.perm.filter _).trans (List.Perm.of_eq ?_)
  unfold mdel
  rw [List.filter_map]
  congr 1
theorem TRel.set_ {m : TMap} {l : List Tm} (h : TRel m l) (o s d : Int) : TRel (mset m (o, s) d) (insK id ltT (dropT l (o, s)) ⟨d, o, s⟩) := by
  have hdl := h.del (o, s)
  refine ⟨mset_nodup h.nd _ _, insK_sorted linT hdl.sorted (fun hx => ?_), ?_⟩
  · rw [List.map_id] at hx
    have := (List.mem_filter.1 hx).2
    simp [keyT] at this
  · refine (insK_perm _ _).trans ?_
    refine (hdl.perm.cons _).trans ?_
    exact ((mset_perm h.nd (o, s) d).map toT).symm
/-- What Find tells of a step. -/
theorem TRel.find {m : TMap} {l : List Tm} (h : TRel m l) (p : Int × Int) :
    (∃ (k : Nat) (x : Tm), findT l p = k ∧ l[k]? = some x ∧ mget m p = some x.d) ∨ (findT l p = -1 ∧ mget m p = none) := by
  rcases findT_cases l p with ⟨k, x, h1, h2, h3⟩ | ⟨h1, h2⟩
  · left
    refine ⟨k, x, h1, h2, ?_⟩
    have := h.at_ (List.mem_of_getElem? h2)
    rw [← h3]; exact this
  · right
    refine ⟨h1, ?_⟩
    cases hg : mget m p with
    | none => rfl
    | some d =>
      have := h.perm.mem_iff.2 (List.mem_map.2 ⟨_, mget_mem hg, rfl⟩)
      exact absurd rfl (h2 _ this)

/-- Timers, the document's list, a request's block. -/
structure Tp (w0 : World) (X B G : Nat) (A : Option Addr) (x : Quad) (m : TMap) (r : List Tm) (w : World) : Prop where
  tim : IsTim w X B m
  rd : Rd w A (r.flatMap en3)
  blk : Blk w G 38 (en4 x).toArray
  bel : Below w0.heap.size w0 w
section
variable {w0 w w' : World} {X B G : Nat} {A : Option Addr} {x : Quad} {m : TMap} {r : List Tm}
theorem Tp.next (h : Tp w0 X B G A x m r w) (hb : Below w.heap.size w w') : Tp w0 X B G A x m r w' := ⟨h.tim.next hb, h.rd.below hb, h.blk.next hb, bthen h.bel hb⟩
theorem rd_store {B : Nat} {es : List MapEntry} {κ ν : Type} {kE : κ → Value} {vE : ν → Value} {mm : List (κ × ν)} {xs : List Value} (h : Rd w A xs) (hM : IsMap w B kE vE mm) (hg : w.grownBy w' (some B)) : Rd w' A xs := by
  rcases h with h0 | ⟨b, off, hA, hlt, hc⟩
  · exact .inl h0
  · rcases xs with _ | ⟨u, xs⟩
    · exact .inl rfl
    · have hne : b ≠ B := fun e => by
        have := hc 0 u rfl
        obtain ⟨es, cl, hbm, _⟩ := hM
        rw [e] at this
        simp [World.cell?, hbm] at this
      exact .inr ⟨b, off, hA, Nat.lt_of_lt_of_le hlt hg.size, fun j v hv => (World.cell?_of_block (a := ⟨b, off + j, none⟩) (hg.block b hlt (fun e => hne (by injection e)))).trans (hc j v hv)⟩
theorem Tp.kept {m' : TMap} (h : Tp w0 X B G A x m r w) (ht : IsTim w' X B m') (hg : w.grownBy w' (some B)) (hB : w0.heap.size ≤ B) : Tp w0 X B G A x m' r w' :=
  ⟨ht, rd_store (es := []) h.rd h.tim.map hg, (Touch.of_grown hg).blk h.blk (fun e => h.tim.map.notBlk h.blk e.symm), h.bel.trans (grown_below hg h.bel.size hB)⟩
theorem Tp.row {A' : Option Addr} {r' : List Tm} {base n cap : Nat} (h : Tp w0 X B G A x m r w) (hb : Below w.heap.size w w') (ho : w'.ownsRow base 56 3 (.slice A' n cap) n (r'.flatMap en3)) : Tp w0 X B G A' x m r' w' := by
  obtain ⟨A1, c1, e, hr⟩ := own_slice ho
  injection e with e1 _ _
  subst e1
  exact ⟨h.tim.next hb, hr, h.blk.next hb, bthen h.bel hb⟩
end

theorem Tp.cells {w0 w : World} {X B G : Nat} {A : Option Addr} {x : Quad} {m : TMap} {r : List Tm} (h : Tp w0 X B G A x m r w) : w.cell? ⟨G, 0, none⟩ = some (.int .i64 x.a) ∧ w.cell? ⟨G, 1, none⟩ = some (.int .i64 x.b) ∧ w.cell? ⟨G, 2, none⟩ = some (.int .i64 x.c) ∧ w.cell? ⟨G, 3, none⟩ = some (.int .i64 x.d) :=
  ⟨by rw [h.blk.cell]; rfl, by rw [h.blk.cell]; rfl, by rw [h.blk.cell]; rfl, by rw [h.blk.cell]; rfl⟩
theorem own_rd {w : World} {base n cap m : Nat} {e : TypeId} {size : Nat} {A : Option Addr} {xs : List Value} (h : w.ownsRow base e size (.slice A n cap) m xs) : Rd w A xs := by
  obtain ⟨A1, c1, e, hr⟩ := own_slice h
  injection e with e1 _ _
  rw [e1]; exact hr
theorem own_take {w : World} {base n cap : Nat} {e : TypeId} {A : Option Addr} {l : List Tm} (h : w.ownsRow base e 3 (.slice A n cap) l.length (l.flatMap en3)) (k : Nat) : Rd w A ((l.take k).flatMap en3) := by
  rcases own_rd h with h0 | ⟨b, off, hA, hlt, hc⟩
  · left
    cases l with
    | nil => simp
    | cons x l => simp [en3] at h0
  · right
    refine ⟨b, off, hA, hlt, fun j u hu => hc j u ?_⟩
    have e1 : l.flatMap en3 = (l.take k).flatMap en3 ++ (l.drop k).flatMap en3 := by rw [← List.flatMap_append, List.take_append_drop]
    rw [e1, List.getElem?_append_left (List.getElem?_eq_some_iff.1 hu).1]
    exact hu

set_option maxRecDepth 100000 in
set_option maxHeartbeats 32000000 in
theorem tplay_any (hS : SortsT) (w0 : World) (l : List Quad) (A0 : Option Addr) (cp : Nat) (hR0 : Rd w0 A0 (l.flatMap en4)) {X B cap0 : Nat} {A1 : Option Addr} {m : TMap} {r : List Tm} (w : World)
    (h : IsTim w X B m) (hr : Rd w A1 (r.flatMap en3)) (hT : TRel m r) (hb : Below w0.heap.size w0 w) (h0B : w0.heap.size ≤ B) (hlen : (r.length + l.length) * 24 + 24 ≤ 140737488351232) :
    Calls Try.prog 10 #[.pointer (some ⟨X, 0, none⟩), .slice A1 r.length cap0, .slice A0 l.length cp] w fun e w' => e = .returned (.bool true) ∧ Below w0.heap.size w0 w' := by
  have HI := hid (And.intro h (And.intro hr (And.intro hT hb)))
  clear h hr hT hb
  obtain ⟨n0, hn0⟩ : ∃ n0, n0 = r.length := ⟨_, rfl⟩
  have hlen2 : (n0 + l.length) * 24 + 24 ≤ 140737488351232 := by rw [hn0]; exact hlen
  have HN := hid hn0
  clear hn0 hlen
  go_enter Try.func10, Try.ntmps10
  go_wp2_with fail
  go_loopw [15, 1] (fun i v wr => ∃ (k cap : Nat) (A : Option Addr) (m : TMap) (r : List Tm), k ≤ l.length ∧ i = .int .i64 k ∧ v = .slice A r.length cap ∧ r.length ≤ n0 + k ∧ Hid (TRel m r) ∧ IsTim wr X B m ∧ Rd wr A (r.flatMap en3) ∧ Below w0.heap.size w0 wr) (fun i _ _ => l.length - (intOf i).toNat)
  case atStart => exact ⟨0, cap0, A1, m, r, Nat.zero_le _, rfl, rfl, by rw [HN.out]; exact Nat.le_refl _, hid HI.out.2.2.1, HI.out.1, HI.out.2.1, HI.out.2.2.2⟩
  case round =>
    clear HI HN
    obtain ⟨k, cap, A, m, r, hk, rfl, rfl, hrl, hT, hX, hF, hb⟩ := hrel
    by_cases hlt : k < l.length
    · obtain ⟨x, hx⟩ : ∃ x, l[k]? = some x := ⟨l[k], List.getElem?_eq_getElem hlt⟩
      have hR1 := hR0.below hb
      obtain ⟨b, off, e0, hbs, hcc⟩ := hR1.at_ 4 en4_len (by omega) hx
      obtain ⟨xk, xo, xs, xn⟩ := x
      have q0 : wr.cell? ⟨b, off + k * 4, none⟩ = some (.int .i64 xk) := hcc 0 _ rfl
      have q1 : wr.cell? ⟨b, off + k * 4 + 1, none⟩ = some (.int .i64 xo) := hcc 1 _ rfl
      have q2 : wr.cell? ⟨b, off + k * 4 + 2, none⟩ = some (.int .i64 xs) := hcc 2 _ rfl
      have q3 : wr.cell? ⟨b, off + k * 4 + 3, none⟩ = some (.int .i64 xn) := hcc 3 _ rfl
      clear hcc hx hR1
      have hl1 : r.length * 24 + 24 ≤ 140737488355328 := by omega
      have hml : m.length * 24 ≤ 140737488351232 := by rw [← hT.out.len]; omega
      have hW : Tp w0 X B wr.heap.size A ⟨xk, xo, xs, xn⟩ m r (wr.alloc (.cells #[.int .i64 xk, .int .i64 xo, .int .i64 xs, .int .i64 xn] 38)) :=
        ⟨hX.alloc _, hF.below ((Below.refl _ _).alloc (Nat.le_refl _) _), Blk.new _ _ _, hb.alloc hb.size _⟩
      clear hX hF hb
      subst e0
      have HF1 := hid (tfind_any r A cap xo xs _ hW.rd (by omega))
      have hfd := hid (hT.out.find (xo, xs))
      obtain ⟨at0, hat0⟩ : ∃ at0, at0 = findT r (xo, xs) := ⟨_, rfl⟩
      have HAT := hid hat0
      rw [← hat0] at HF1 hfd
      clear hat0
      obtain ⟨G, hGG⟩ : ∃ G, G = wr.heap.size := ⟨_, rfl⟩
      rw [← hGG] at hW
      have HG := hid hGG
      clear hGG
      have hcs : xk = 1 ∨ xk = 2 ∨ xk = 3 ∨ xk = 4 ∨ (xk ≠ 1 ∧ xk ≠ 2 ∧ xk ≠ 3 ∧ xk ≠ 4) := by omega
      rcases hcs with rfl | rfl | rfl | rfl | ⟨k1, k2, k3, k4⟩
      · have b1 : True := trivial
        go_wp2_with fail
        refine HF1.out.mono ?_
        rintro e w5 ⟨rfl, rfl⟩
        clear HF1 q0 q1 q2 q3
        rw [← HG.out]
        have d0 : World.cell? _ ⟨G, 0, none⟩ = some (.int .i64 1) := hW.blk.cell 0
        have d1 : World.cell? _ ⟨G, 1, none⟩ = some (.int .i64 xo) := hW.blk.cell 1
        have d2 : World.cell? _ ⟨G, 2, none⟩ = some (.int .i64 xs) := hW.blk.cell 2
        have d3 : World.cell? _ ⟨G, 3, none⟩ = some (.int .i64 xn) := hW.blk.cell 3
        have K1 := hid (set_any xo xs xn _ hW.tim)
        go_wp2_with fail
        refine K1.out.mono ?_
        rintro e w6 ⟨rfl, h6, hg6⟩
        replace hW := hW.kept h6 hg6 h0B
        clear K1 h6 hg6 d0 d1 d2 d3
        have S1 := hid (fun cq => tset_ref r A cq xo xs xn _ hW.rd hl1 hT.out.sorted)
        have hT2 := hid (hT.out.set_ xo xs xn)
        have hl2 : (insK id ltT (dropT r (xo, xs)) (⟨xn, xo, xs⟩ : Tm)).length ≤ r.length + 1 := by rw [insK_length]; have := dropT_le r (xo, xs); omega
        have d0 : World.cell? _ ⟨G, 0, none⟩ = some (.int .i64 1) := hW.blk.cell 0
        have d1 : World.cell? _ ⟨G, 1, none⟩ = some (.int .i64 xo) := hW.blk.cell 1
        have d2 : World.cell? _ ⟨G, 2, none⟩ = some (.int .i64 xs) := hW.blk.cell 2
        have d3 : World.cell? _ ⟨G, 3, none⟩ = some (.int .i64 xn) := hW.blk.cell 3
        generalize insK id ltT (dropT r (xo, xs)) (⟨xn, xo, xs⟩ : Tm) = r2 at *
        generalize mset m (xo, xs) xn = m2 at *
        go_wp2_with fail
        refine (S1.out _).mono ?_
        rintro e w6b ⟨A6, c6, rfl, hO6, hb6⟩
        replace hW := hW.row hb6 hO6
        clear S1 hO6 hb6 d0 d1 d2 d3
        have LL := hid (tlist_any hS _ hW.tim (by rw [← hT2.out.len]; omega))
        go_wp2_with fail
        refine LL.out.mono ?_
        rintro e w7 ⟨A7, c7, L7, rfl, hT7, hO7, hb7⟩
        obtain rfl := hT7.unique hT2.out
        replace hW := hW.next hb7
        obtain ⟨A7', c7', e7', hR7⟩ := own_slice hO7
        injection e7' with e71 _ e73
        subst e71 e73
        have SM := hid (fun cq => tsame_any L7 A7 _ c7 cq _ hR7 hW.rd (by omega))
        clear LL hT7 hO7 hb7 hR7
        go_wp2_with fail
        refine (SM.out _).mono ?_
        rintro e w8 ⟨rfl, hb8⟩
        replace hW := hW.next hb8
        clear SM hb8
        go_wp2_with fail
        go_roundw
        case rel => exact ⟨k + 1, _, _, _, L7, by omega, by go_num, rfl, by omega, hT2, hW.tim, hW.rd, hW.bel⟩
        case measure => simp [intOf]; omega
      · have b1 : True := trivial
        have hge : decide (0 ≤ at0) = (mget m (xo, xs)).isSome := by
          rcases hfd.out with ⟨kk, x, h1, h2, h3⟩ | ⟨h1, h3⟩
          · rw [h3, h1]; exact decide_eq_true (by omega)
          · rw [h3, h1]; rfl
        go_wp2_with fail
        refine HF1.out.mono ?_
        rintro e w5 ⟨rfl, rfl⟩
        clear HF1 q0 q1 q2 q3
        rw [← HG.out]
        have d0 : World.cell? _ ⟨G, 0, none⟩ = some (.int .i64 2) := hW.blk.cell 0
        have d1 : World.cell? _ ⟨G, 1, none⟩ = some (.int .i64 xo) := hW.blk.cell 1
        have d2 : World.cell? _ ⟨G, 2, none⟩ = some (.int .i64 xs) := hW.blk.cell 2
        have d3 : World.cell? _ ⟨G, 3, none⟩ = some (.int .i64 xn) := hW.blk.cell 3
        have K1 := fun w h => cancel_any (X := X) (B := B) (m := m) xo xs w h
        rw [← hge] at K1
        have hse : ∀ q : Bool, (q != q) = false := fun q => by simp
        have hse1 := hse (decide (0 ≤ at0))
        replace K1 := hid K1
        have HGE := hid hge
        clear hge hse
        go_wp2_with fail
        refine (K1.out _ hW.tim).mono ?_
        rintro e w6 ⟨rfl, h6, hg6⟩
        replace hW := hW.kept h6 hg6 h0B
        clear K1 h6 hg6 d0 d1 d2 d3
        have S1 := hid (fun cq => tcancel_ref r A cq xo xs _ hW.rd (by omega))
        have hT2 := hid (hT.out.del (xo, xs))
        have hl2 : (dropT r (xo, xs)).length ≤ r.length := dropT_le r (xo, xs)
        have d0 : World.cell? _ ⟨G, 0, none⟩ = some (.int .i64 2) := hW.blk.cell 0
        have d1 : World.cell? _ ⟨G, 1, none⟩ = some (.int .i64 xo) := hW.blk.cell 1
        have d2 : World.cell? _ ⟨G, 2, none⟩ = some (.int .i64 xs) := hW.blk.cell 2
        have d3 : World.cell? _ ⟨G, 3, none⟩ = some (.int .i64 xn) := hW.blk.cell 3
        generalize dropT r (xo, xs) = r2 at *
        generalize mdel m (xo, xs) = m2 at *
        go_wp2_with fail
        refine (S1.out _).mono ?_
        rintro e w6b ⟨A6, c6, rfl, hO6, hb6⟩
        replace hW := hW.row hb6 hO6
        clear S1 hO6 hb6 d0 d1 d2 d3 hse1
        have LL := hid (tlist_any hS _ hW.tim (by rw [← hT2.out.len]; omega))
        go_wp2_with fail
        refine LL.out.mono ?_
        rintro e w7 ⟨A7, c7, L7, rfl, hT7, hO7, hb7⟩
        obtain rfl := hT7.unique hT2.out
        replace hW := hW.next hb7
        obtain ⟨A7', c7', e7', hR7⟩ := own_slice hO7
        injection e7' with e71 _ e73
        subst e71 e73
        have SM := hid (fun cq => tsame_any L7 A7 _ c7 cq _ hR7 hW.rd (by omega))
        clear LL hT7 hO7 hb7 hR7
        go_wp2_with fail
        refine (SM.out _).mono ?_
        rintro e w8 ⟨rfl, hb8⟩
        replace hW := hW.next hb8
        clear SM hb8
        go_wp2_with fail
        go_roundw
        case rel => exact ⟨k + 1, _, _, _, L7, by omega, by go_num, rfl, by omega, hT2, hW.tim, hW.rd, hW.bel⟩
        case measure => simp [intOf]; omega
      · have D1 := fun w h => due_any (X := X) (B := B) (m := m) xo xs w h
        rcases hfd.out with ⟨kk, x, h1, h2, h3⟩ | ⟨h1, h3⟩
        · rw [h3] at D1
          simp only [Option.getD_some, Option.isSome_some] at D1
          replace D1 := hid D1
          have hkl := (List.getElem?_eq_some_iff.1 h2).1
          have H2 := hid h2
          rw [h1] at HF1
          clear h1 h2 h3 HAT
          go_wp2_with fail
          refine HF1.out.mono ?_
          rintro e w5 ⟨rfl, rfl⟩
          clear HF1 q0 q1 q2 q3
          rw [← HG.out]
          have d0 : World.cell? _ ⟨G, 0, none⟩ = some (.int .i64 3) := hW.blk.cell 0
          have d1 : World.cell? _ ⟨G, 1, none⟩ = some (.int .i64 xo) := hW.blk.cell 1
          have d2 : World.cell? _ ⟨G, 2, none⟩ = some (.int .i64 xs) := hW.blk.cell 2
          have d3 : World.cell? _ ⟨G, 3, none⟩ = some (.int .i64 xn) := hW.blk.cell 3
          go_wp2_with fail
          refine (D1.out _ hW.tim).mono ?_
          rintro e w6 ⟨rfl, rfl⟩
          obtain ⟨g9, off9, rfl, hg9, hc9⟩ := hW.rd.at_ 3 en3_len (by omega) H2.out
          have c9 : World.cell? _ ⟨g9, off9 + kk * 3, none⟩ = some (.int .i64 x.d) := hc9 0 _ rfl
          have s1 : (x.d != x.d) = false := by simp
          clear D1 hc9
          have LL := hid (tlist_any hS _ hW.tim hml)
          go_wp2_with fail
          clear c9 s1 d0 d1 d2 d3
          refine LL.out.mono ?_
          rintro e w7 ⟨A7, c7, L7, rfl, hT7, hO7, hb7⟩
          obtain rfl := hT7.unique hT.out
          replace hW := hW.next hb7
          obtain ⟨A7', c7', e7', hR7⟩ := own_slice hO7
          injection e7' with e71 _ e73
          subst e71 e73
          have SM := hid (fun cq => tsame_any L7 A7 _ c7 cq _ hR7 hW.rd (by omega))
          clear LL hT7 hO7 hb7 hR7
          go_wp2_with fail
          refine (SM.out _).mono ?_
          rintro e w8 ⟨rfl, hb8⟩
          replace hW := hW.next hb8
          clear SM hb8
          go_wp2_with fail
          go_roundw
          case rel => exact ⟨k + 1, _, _, _, L7, by omega, by go_num, rfl, by omega, hT, hW.tim, hW.rd, hW.bel⟩
          case measure => simp [intOf]; omega
        · rw [h3] at D1
          simp only [Option.getD_none, Option.isSome_none] at D1
          replace D1 := hid D1
          rw [h1] at HF1
          clear h1 h3 HAT
          go_wp2_with fail
          refine HF1.out.mono ?_
          rintro e w5 ⟨rfl, rfl⟩
          clear HF1 q0 q1 q2 q3
          rw [← HG.out]
          have d0 : World.cell? _ ⟨G, 0, none⟩ = some (.int .i64 3) := hW.blk.cell 0
          have d1 : World.cell? _ ⟨G, 1, none⟩ = some (.int .i64 xo) := hW.blk.cell 1
          have d2 : World.cell? _ ⟨G, 2, none⟩ = some (.int .i64 xs) := hW.blk.cell 2
          have d3 : World.cell? _ ⟨G, 3, none⟩ = some (.int .i64 xn) := hW.blk.cell 3
          go_wp2_with fail
          refine (D1.out _ hW.tim).mono ?_
          rintro e w6 ⟨rfl, rfl⟩
          clear D1
          have LL := hid (tlist_any hS _ hW.tim hml)
          go_wp2_with fail
          clear d0 d1 d2 d3
          refine LL.out.mono ?_
          rintro e w7 ⟨A7, c7, L7, rfl, hT7, hO7, hb7⟩
          obtain rfl := hT7.unique hT.out
          replace hW := hW.next hb7
          obtain ⟨A7', c7', e7', hR7⟩ := own_slice hO7
          injection e7' with e71 _ e73
          subst e71 e73
          have SM := hid (fun cq => tsame_any L7 A7 _ c7 cq _ hR7 hW.rd (by omega))
          clear LL hT7 hO7 hb7 hR7
          go_wp2_with fail
          refine (SM.out _).mono ?_
          rintro e w8 ⟨rfl, hb8⟩
          replace hW := hW.next hb8
          clear SM hb8
          go_wp2_with fail
          go_roundw
          case rel => exact ⟨k + 1, _, _, _, L7, by omega, by go_num, rfl, by omega, hT, hW.tim, hW.rd, hW.bel⟩
          case measure => simp [intOf]; omega
      · have b1 : True := trivial
        go_wp2_with fail
        refine HF1.out.mono ?_
        rintro e w5 ⟨rfl, rfl⟩
        clear HF1 q0 q1 q2 q3
        rw [← HG.out]
        have d0 : World.cell? _ ⟨G, 0, none⟩ = some (.int .i64 4) := hW.blk.cell 0
        have d1 : World.cell? _ ⟨G, 1, none⟩ = some (.int .i64 xo) := hW.blk.cell 1
        have d2 : World.cell? _ ⟨G, 2, none⟩ = some (.int .i64 xs) := hW.blk.cell 2
        have d3 : World.cell? _ ⟨G, 3, none⟩ = some (.int .i64 xn) := hW.blk.cell 3
        go_wp2_with fail
        have hWd : Tp w0 X B G A ⟨4, xo, xs, xn⟩ m r (World.drew _) := hW.next (below_drewN (Below.refl _ _) 1)
        have hlt9 : (r.take (rdyN r xn xs)).length = rdyN r xn xs := List.length_take_of_le (rdyN_le r xn xs)
        have HLT := hid hlt9
        have RF := hid (fun A' cq w6 h => tready_ref r A' cq xn xs w6 h (by omega) hT.out.sorted)
        have RD := hid (fun w6 h => ready_any hS (X := X) (B := B) (m := m) xn xs w6 h hml)
        have SM := hid (fun A6 A7 c6 c7 w7 hA hB => tsame_any (r.take (rdyN r xn xs)) A6 A7 c6 c7 w7 hA hB (by rw [HLT.out]; have := rdyN_le r xn xs; omega))
        unfold NewRow at RF
        rw [hlt9] at RF SM
        clear hlt9 hW d0 d1 d2 d3
        go_region_held3 (fun w' => w'.cell? ⟨G, 0, none⟩ = some (.int .i64 4) ∧ w'.cell? ⟨G, 1, none⟩ = some (.int .i64 xo) ∧ w'.cell? ⟨G, 2, none⟩ = some (.int .i64 xs) ∧ w'.cell? ⟨G, 3, none⟩ = some (.int .i64 xn))
          (exact Tp.cells (by assumption))
          (first
            | (go_at_call 14; refine (RD.out _ hWd.tim).mono ?_; rintro e w6 ⟨A6, c6, L6, rfl, hT6, hO6, hb6⟩; have hL6 := hT6.unique hT.out; subst hL6; have hW6 := hWd.next hb6; have hR6 := own_take hO6 (rdyN L6 xn xs); clear hT6 hO6 hb6 hWd RD)
            | (go_at_call 24; refine (RF.out _ _ _ hW6.rd).mono ?_; rintro e w7 ⟨A7, c7, rfl, hO7, hb7⟩; have hW7 := hW6.next hb7; have hR67 := hR6.below hb7; have hR7 := own_rd hO7; clear hO7 hb7 hW6 RF hR6)
            | (go_at_call 20; refine (SM.out _ _ _ _ _ hR67 hR7).mono ?_; rintro e w8 ⟨rfl, hb8⟩; have hW8 := hW7.next hb8; clear hb8 hW7 hR67 hR7 SM))
        all_goals
          have hW := hW8
          clear hW8
          have LL := hid (tlist_any hS _ hW.tim hml)
          go_wp2_with fail
          refine LL.out.mono ?_
          rintro e w7 ⟨A7, c7, L7, rfl, hT7, hO7, hb7⟩
          obtain rfl := hT7.unique hT.out
          replace hW := hW.next hb7
          obtain ⟨A7', c7', e7', hR7⟩ := own_slice hO7
          injection e7' with e71 _ e73
          subst e71 e73
          have SM := hid (fun cq => tsame_any L7 A7 _ c7 cq _ hR7 hW.rd (by omega))
          clear LL hT7 hO7 hb7 hR7
          go_wp2_with fail
          refine (SM.out _).mono ?_
          rintro e w8 ⟨rfl, hb8⟩
          replace hW := hW.next hb8
          clear SM hb8
          go_wp2_with fail
          go_roundw
          case rel => exact ⟨k + 1, _, _, _, L7, by omega, by go_num, rfl, by omega, hT, hW.tim, hW.rd, hW.bel⟩
          case measure => simp [intOf]; omega
      · have b1 : (xk == 1) = false := by simpa using k1
        have b2 : (xk == 2) = false := by simpa using k2
        have b3 : (xk == 3) = false := by simpa using k3
        have b4 : (xk == 4) = false := by simpa using k4
        clear k1 k2 k3 k4
        go_wp2_with fail
        refine HF1.out.mono ?_
        rintro e w5 ⟨rfl, rfl⟩
        clear HF1 q0 q1 q2 q3
        rw [← HG.out]
        have d0 : World.cell? _ ⟨G, 0, none⟩ = some (.int .i64 xk) := hW.blk.cell 0
        have d1 : World.cell? _ ⟨G, 1, none⟩ = some (.int .i64 xo) := hW.blk.cell 1
        have d2 : World.cell? _ ⟨G, 2, none⟩ = some (.int .i64 xs) := hW.blk.cell 2
        have d3 : World.cell? _ ⟨G, 3, none⟩ = some (.int .i64 xn) := hW.blk.cell 3
        have LL := hid (tlist_any hS _ hW.tim hml)
        go_wp2_with fail
        clear d0 d1 d2 d3 b1 b2 b3 b4
        refine LL.out.mono ?_
        rintro e w7 ⟨A7, c7, L7, rfl, hT7, hO7, hb7⟩
        obtain rfl := hT7.unique hT.out
        replace hW := hW.next hb7
        obtain ⟨A7', c7', e7', hR7⟩ := own_slice hO7
        injection e7' with e71 _ e73
        subst e71 e73
        have SM := hid (fun cq => tsame_any L7 A7 _ c7 cq _ hR7 hW.rd (by omega))
        clear LL hT7 hO7 hb7 hR7
        go_wp2_with fail
        refine (SM.out _).mono ?_
        rintro e w8 ⟨rfl, hb8⟩
        replace hW := hW.next hb8
        clear SM hb8
        go_wp2_with fail
        go_roundw
        case rel => exact ⟨k + 1, _, _, _, L7, by omega, by go_num, rfl, by omega, hT, hW.tim, hW.rd, hW.bel⟩
        case measure => simp [intOf]; omega
    · clear hk
      go_wp2_with fail
      go_ret
      exact ⟨rfl, hb⟩

set_option maxRecDepth 100000 in
set_option maxHeartbeats 8000000 in
theorem timersPlay_walk (hS : SortsT) (l : List Quad) (A : Option Addr) (cp : Nat) (w : World) (hR : Rd w A (l.flatMap en4)) (hl : l.length * 32 ≤ 140737488351232) :
    Calls Try.prog 3 #[.slice A l.length cp] w (Law w) := by
  go_enter Try.func3, Try.ntmps3
  go_wp2_with fail
  refine (wakes_any hS _).mono ?_
  rintro e w1 ⟨rfl, hb⟩
  go_wp2_with fail
  refine (tnew_some _).mono ?_
  rintro e w2 ⟨X, B, rfl, hB, hX, h, hb1⟩
  have hPl := hid (tplay_any hS w l A cp hR (cap0 := 0) (A1 := none) (m := []) (r := []) w2 h (.inl rfl) TRel.nil (bthen hb hb1) (Nat.le_trans hb.size hB) (by simp; omega))
  clear h hb hb1 hB hX hR hl
  go_wp2_with fail
  refine hPl.out.mono ?_
  rintro e w3 ⟨rfl, hb3⟩
  clear hPl
  go_wp2_with fail
  go_ret
  exact ⟨by simp, hb3⟩

end Go.Proofs.Ythlpcbpilfakmaa
