/-
  The ledger: Post.
-/
import Derived.Test.YthdmbbfppgenlaaGreatLed
import Derived.Test.YthdmbbfppgenlaaGreatInEntry
namespace Go.Proofs.YthdmbbfppgenlaaGreat
open Go.RowKit Go.WideShapes Go.ChangeShapes Go.ChangeAt Go.Deep
set_option linter.unusedVariables false

def enE (x : En) : List Value := [.int .i64 x.a, .int .i64 x.n]
theorem enE_len (x : En) : (enE x).length = 2 := rfl

def nextF (f : Fn) (d c : Int) (es : List En) : Fn := if postC d c es = 0 then addF f c es else f
def nextD (d c : Int) (es : List En) : Int := if postC d c es = 0 then d + debs es else d
theorem Rd.grown' {w w' : World} {A : Option Addr} {xs : List Value} {B : Nat} (h : Rd w A xs) (hg : w.grownBy w' (some B)) (hS : ∀ b, A.map (·.block) = some b → b ≠ B) : Rd w' A xs := (Touch.of_grown hg).rd h hS
def XB (X B : Nat) : Nat → Prop := fun k => k = X ∨ k = B

/-- What Post leaves. -/
def PostL (w : World) (X B : Nat) (f : Fn) (d c : Int) (es : List En) (e : Ending) (w' : World) : Prop :=
  e = .returned (.int .i64 (postC d c es)) ∧ IsLed w' X B (nextF f d c es) (nextD d c es) ∧ Touch (XB X B) w w'
theorem PostL.no {w w' : World} {X B : Nat} {f : Fn} {d c r : Int} {es : List En} (h : IsLed w' X B f d) (ht : Touch (XB X B) w w') (hr : postC d c es = r) (h0 : r ≠ 0) : PostL w X B f d c es (.returned (.int .i64 r)) w' := by
  subst hr
  refine ⟨rfl, ?_, ht⟩
  unfold nextF nextD
  rw [if_neg h0, if_neg h0]
  exact h

theorem sumE_snoc (es : List En) (x : En) : sumE (es ++ [x]) = sumE es + x.n := by unfold sumE; rw [List.map_append, List.sum_append]; simp
theorem debs_snoc (es : List En) (x : En) : debs (es ++ [x]) = debs es + pos x.n := by unfold debs; rw [List.map_append, List.sum_append]; simp

theorem sumE_bd2 (es : List En) (P : En → Prop) [DecidablePred P] (h : ∀ x ∈ es, okE x = true) : -(1125899906842624 * (es.length : Int)) ≤ (es.map fun x => if P x then x.n else 0).sum ∧ (es.map fun x => if P x then x.n else 0).sum ≤ 1125899906842624 * (es.length : Int) := by
  induction es with
  | nil => simp
  | cons x es ih =>
    have h0 := (okE_iff x).1 (h x (by simp))
    have := ih (fun y hy => h y (by simp [hy]))
    simp only [List.map_cons, List.sum_cons, List.length_cons]
    split <;> omega

set_option maxRecDepth 100000 in
set_option maxHeartbeats 16000000 in
theorem lpost_any {X B : Nat} {f : Fn} {d : Int} (c : Int) (es : List En) (A : Option Addr) (cap : Nat) (w : World) (h : IsLed w X B f d) (hR : Rd w A (es.flatMap enE)) (hl : es.length ≤ 140737488355328) (hA0 : es ≠ [] → ∀ b, A.map (·.block) = some b → ¬ XB X B b) :
    Calls Tryz.prog 52 #[.pointer (some ⟨X, 0, none⟩), .int .i64 c, .slice A es.length cap] w (PostL w X B f d c es) := by
  have hT0 := Touch.refl (XB X B) w
  by_cases hc : 1 ≤ c ∧ c ≤ 64
  · have FY := hid (fun w => lfit_yes c 0 w ⟨hc.1, hc.2, by omega, by omega⟩)
    by_cases hn : es = []
    · have hP := hid (PostL.no h hT0 (c := c) (es := es) (r := 2) (by unfold postC; rw [if_neg (fun e => e.2.2.1 hn)]) (by omega))
      subst hn
      clear h hR hT0 hA0
      go_enter Tryz.func52, Tryz.ntmps52
      go_wp2_with fail
      refine (FY.out _).mono ?_
      rintro e w1 ⟨rfl, rfl⟩
      go_wp2_with fail
      go_ret
      exact hP.out
    · have hpos : 0 < es.length := List.length_pos_iff.2 hn
      have hA := hA0 hn
      clear hA0
      by_cases h8 : es.length ≤ 8
      · have hg0 : Hid (IsLed w X B f d) := hid h
        have b1 : ((es.length : Int) == 0) = false := by simp; omega
        have b2 : (es.length : Int) ≤ 8 := by omega
        have hd1 := h.inv.d1
        have hd0 := h.inv.d0
        clear h
        go_enter Tryz.func52, Tryz.ntmps52
        go_wp2_with fail
        refine (FY.out _).mono ?_
        rintro e w1 ⟨rfl, rfl⟩
        go_wp2_with fail
        go_loopw [7, 8, 31] (fun s t i wr => ∃ k : Nat, k ≤ es.length ∧ i = .int .i64 k ∧ s = .int .i64 (sumE (es.take k)) ∧ t = .int .i64 (debs (es.take k)) ∧ Hid (∀ x ∈ es.take k, okE x = true) ∧ Below w.heap.size w wr) (fun _ _ i _ => es.length - (intOf i).toNat)
        case atStart => exact ⟨0, Nat.zero_le _, rfl, rfl, rfl, hid (by simp), Below.refl _ _⟩
        case round =>
          obtain ⟨k, hk, rfl, rfl, rfl, hok, hb⟩ := hrel
          have hbd := sumE_bd hok.out
          have hnn := debs_nonneg (es.take k)
          rw [List.length_take, Nat.min_eq_left hk] at hbd
          by_cases hlt : k < es.length
          · obtain ⟨x, hx⟩ : ∃ x, es[k]? = some x := ⟨es[k], List.getElem?_eq_getElem hlt⟩
            have hR1 := hR.below hb
            obtain ⟨b, off, rfl, hbs, hcc⟩ := hR1.at_ 2 enE_len (by omega) hx
            have HS : Hid (es.take (k + 1) = es.take k ++ [x]) := hid (by rw [List.take_add_one, hx]; rfl)
            have HM := hid (List.mem_of_getElem? hx)
            obtain ⟨xa, xn⟩ := x
            have q0 : wr.cell? ⟨b, off + k * 2, none⟩ = some (.int .i64 xa) := hcc 0 _ rfl
            have q1 : wr.cell? ⟨b, off + k * 2 + 1, none⟩ = some (.int .i64 xn) := hcc 1 _ rfl
            clear hcc hx hR1
            by_cases hox : okE ⟨xa, xn⟩ = true
            · have ho := (okE_iff _).1 hox
              obtain ⟨o1, o2, o3, o4, o5⟩ := ho
              simp only at o1 o2 o3 o4 o5
              have HSum := hid (show sumE (es.take (k + 1)) = sumE (es.take k) + xn from by rw [HS.out, sumE_snoc])
              have HDeb := hid (show debs (es.take (k + 1)) = debs (es.take k) + pos xn from by rw [HS.out, debs_snoc])
              have HOk : Hid (∀ x ∈ es.take (k + 1), okE x = true) := hid (by
                intro y hy
                rw [HS.out] at hy
                rcases List.mem_append.1 hy with hy | hy
                · exact hok.out y hy
                · simp at hy; subst hy; exact hox)
              have F1 := hid (fun w => lfit_yes c xa w ⟨hc.1, hc.2, o1, o2⟩)
              have b3 : (xn == 0) = false := by simpa using o3
              generalize sumE (es.take k) = S at *
              generalize debs (es.take k) = D at *
              clear hox o3 HS HM
              by_cases hpx : 0 < xn
              · have HPx : Hid (pos xn = xn) := hid (if_pos hpx)
                go_wp2_with fail
                refine (F1.out _).mono ?_
                rintro e w2 ⟨rfl, rfl⟩
                go_wp2_with fail
                go_roundw
                case rel => exact ⟨k + 1, by omega, by go_num, by rw [HSum.out], by rw [HDeb.out, HPx.out], HOk, hb.alloc hb.size _⟩
                case measure => simp [intOf]; omega
              · have HPx : Hid (pos xn = 0) := hid (if_neg hpx)
                go_wp2_with fail
                refine (F1.out _).mono ?_
                rintro e w2 ⟨rfl, rfl⟩
                go_wp2_with fail
                go_roundw
                case rel => exact ⟨k + 1, by omega, by go_num, by rw [HSum.out], by rw [HDeb.out, HPx.out]; go_num, HOk, hb.alloc hb.size _⟩
                case measure => simp [intOf]; omega
            · have hP := hid (fun w' (hb' : Below w.heap.size w w') => PostL.no (w := w) (hg0.out.next hb') (Touch.of_below hb') (c := c) (es := es) (r := 2) (by unfold postC; rw [if_neg (fun e => hox (List.all_eq_true.1 e.2.2.2.2 _ HM.out))]) (by omega))
              have hcs : (fitB c xa = false) ∨ (fitB c xa = true ∧ xn = 0) ∨ (fitB c xa = true ∧ xn ≠ 0 ∧ 1125899906842624 < xn) ∨ (fitB c xa = true ∧ xn ≠ 0 ∧ xn < -1125899906842624) := by
                cases hf : fitB c xa with
                | false => exact .inl rfl
                | true =>
                  right
                  have hf' := (fitB_iff _ _).1 hf
                  by_cases h0 : xn = 0
                  · exact .inl ⟨rfl, h0⟩
                  · right
                    by_cases h1 : 1125899906842624 < xn
                    · exact .inl ⟨rfl, h0, h1⟩
                    · right
                      refine ⟨rfl, h0, ?_⟩
                      refine Classical.byContradiction fun h2 => hox ((okE_iff _).2 ⟨hf'.2.2.1, hf'.2.2.2, h0, ?_, ?_⟩)
                      · show xn ≤ 1125899906842624
                        omega
                      · show -1125899906842624 ≤ xn
                        omega
              have F1 := fun w => lfit_any c xa w
              have hb' := hid (hb.alloc hb.size (.cells #[.int .i64 xa, .int .i64 xn] 84))
              clear hox HM HS hok
              generalize sumE (es.take k) = S at *
              generalize debs (es.take k) = D at *
              rcases hcs with h1 | ⟨h1, h2⟩ | ⟨h1, h2, h3⟩ | ⟨h1, h2, h3⟩
              all_goals
                rw [h1] at F1
                replace F1 := hid F1
                clear h1
              · go_wp2_with fail
                refine (F1.out _).mono ?_
                rintro e w2 ⟨rfl, rfl⟩
                go_wp2_with fail
                go_ret
                exact hP.out _ hb'.out
              · subst h2
                go_wp2_with fail
                refine (F1.out _).mono ?_
                rintro e w2 ⟨rfl, rfl⟩
                go_wp2_with fail
                go_ret
                exact hP.out _ hb'.out
              · have b3 : (xn == 0) = false := by simpa using h2
                clear h2
                go_wp2_with fail
                refine (F1.out _).mono ?_
                rintro e w2 ⟨rfl, rfl⟩
                go_wp2_with fail
                go_ret
                exact hP.out _ hb'.out
              · have b3 : (xn == 0) = false := by simpa using h2
                have b4 : decide (1125899906842624 < xn) = false := by simp; omega
                clear h2
                go_wp2_with fail
                refine (F1.out _).mono ?_
                rintro e w2 ⟨rfl, rfl⟩
                go_wp2_with fail
                go_ret
                exact hP.out _ hb'.out
          · have hk' : k = es.length := by omega
            subst hk'
            rw [List.take_length] at *
            have hall : es.all okE = true := List.all_eq_true.2 hok.out
            have hok1 : 1 ≤ c ∧ c ≤ 64 ∧ es ≠ [] ∧ es.length ≤ 8 ∧ es.all okE = true := ⟨hc.1, hc.2, hn, h8, hall⟩
            by_cases hs : sumE es = 0
            · by_cases hm : d ≤ 1152921504606846976 - debs es
              · have hp0 : postC d c es = 0 := by
                  unfold postC
                  rw [if_pos hok1, if_neg (fun e => e hs), if_neg (by omega)]
                have hP := hid (fun w' (hb' : IsLed w' X B (addF f c es) (d + debs es)) (ht : Touch (XB X B) w w') => show PostL w X B f d c es (.returned (.int .i64 0)) w' from ⟨by rw [hp0], by unfold nextF nextD; rw [if_pos hp0, if_pos hp0]; exact hb', ht⟩)
                have hI2 := hid (hg0.out.inv.post hp0)
                have c1 : wr.cell? ⟨X, 1, none⟩ = some (.int .i64 d) := (hg0.out.next hb).blk.cell 1
                have b3 : (sumE es != 0) = false := by simpa using hs
                obtain ⟨m0, hM0, hL0⟩ := (hg0.out.next hb).map
                have hB0 := (hg0.out.next hb).blk
                have hXB := hg0.out.ne
                have hall := hid hok.out
                have HI := hid hg0.out.inv
                have h8' : es.length ≤ 8 := h8
                generalize sumE es = S at *
                generalize hD : debs es = D at *
                have HD := hid hD
                have hT1 : Touch (XB X B) w wr := Touch.of_below hb
                have hR1 := hR.below hb
                clear hs hok1 hok hp0 hg0 FY hn hD hb hR hT0 b1
                go_wp2_with fail
                go_loopw [78] (fun i wr => ∃ (k : Nat) (m : LMap), k ≤ es.length ∧ i = .int .i64 k ∧ IsMap wr B kP vI m ∧ Hid (Led m (addF f c (es.take k))) ∧ Touch (XB X B) w wr ∧ Rd wr A (es.flatMap enE) ∧ Blk wr X 113 #[.map (some B), .int .i64 d, .int .i64 d]) (fun i _ => es.length - (intOf i).toNat)
                case atStart => exact ⟨0, m0, Nat.zero_le _, rfl, hM0, hid hL0, hT1, hR1, hB0⟩
                case round =>
                  clear hM0 hL0 hT1 hR1 hB0 c1
                  obtain ⟨k, m, hk, rfl, hM, hL, hT, hF, hX⟩ := hrel
                  by_cases hlt : k < es.length
                  · obtain ⟨x, hx⟩ : ∃ x, es[k]? = some x := ⟨es[k], List.getElem?_eq_getElem hlt⟩
                    obtain ⟨b, off, rfl, hbs, hcc⟩ := hF.at_ 2 enE_len (by omega) hx
                    have HS : Hid (es.take (k + 1) = es.take k ++ [x]) := hid (by rw [List.take_add_one, hx]; rfl)
                    have hox := (okE_iff x).1 (hall.out x (List.mem_of_getElem? hx))
                    obtain ⟨xa, xn⟩ := x
                    have q0 : wr.cell? ⟨b, off + k * 2, none⟩ = some (.int .i64 xa) := hcc 0 _ rfl
                    have q1 : wr.cell? ⟨b, off + k * 2 + 1, none⟩ = some (.int .i64 xn) := hcc 1 _ rfl
                    clear hcc hx
                    have hpl := (hL.out.getD (c, xa))
                    have hbd2 := HI.out.one (c, xa)
                    have HS2 := hid (show addF f c (es.take (k + 1)) = updF (addF f c (es.take k)) (c, xa) xn from by rw [HS.out]; exact addF_snoc f c _ _)
                    have hv1 : -1161928703861587968 ≤ addF f c (es.take k) (c, xa) ∧ addF f c (es.take k) (c, xa) ≤ 1161928703861587968 := by
                      rw [addF_apply]
                      have := sumE_bd2 (es.take k) (fun y => (c, xa) = (c, y.a)) (fun x hx => hall.out x (List.mem_of_mem_take hx))
                      rw [List.length_take, Nat.min_eq_left hk] at this
                      omega
                    simp only at hox
                    have hF2 := hF
                    obtain ⟨v0, hv0⟩ : ∃ v0, v0 = addF f c (es.take k) (c, xa) := ⟨_, rfl⟩
                    rw [← hv0] at hpl hv1
                    have HV0 := hid hv0
                    have hWb : Below wr.heap.size wr (((wr.alloc (.cells #[.int .i64 xa, .int .i64 xn] 84)).alloc (.cells #[.int .i64 c, .int .i64 xa] 115)).drew) := ((((Below.refl _ _).alloc (Nat.le_refl _) _).alloc (by simp) _)).trans (below_drewN (Below.refl _ _) 1)
                    have g0 : Blk (((wr.alloc (.cells #[.int .i64 xa, .int .i64 xn] 84)).alloc (.cells #[.int .i64 c, .int .i64 xa] 115)).drew) wr.heap.size 84 #[.int .i64 xa, .int .i64 xn] := (Blk.new wr _ _).alloc _
                    have g1 : Blk (((wr.alloc (.cells #[.int .i64 xa, .int .i64 xn] 84)).alloc (.cells #[.int .i64 c, .int .i64 xa] 115)).drew) (wr.heap.size + 1) 115 #[.int .i64 c, .int .i64 xa] := by
                      have := Blk.new (wr.alloc (.cells #[.int .i64 xa, .int .i64 xn] 84)) 115 #[.int .i64 c, .int .i64 xa]
                      rw [World.size_alloc] at this
                      exact this
                    have HG0 := hid g0
                    have HG1 := hid g1
                    have HWb := hid hWb
                    clear g0 g1 hWb hv0 hbd2
                    go_wp2_with fail
                    obtain ⟨W, hW⟩ : ∃ W, W = (wr.alloc (.cells #[.int .i64 xa, .int .i64 xn] 84)).alloc (.cells #[.int .i64 c, .int .i64 xa] 115) := ⟨_, rfl⟩
                    obtain ⟨G, hG⟩ : ∃ G, G = wr.heap.size := ⟨_, rfl⟩
                    have hGB : B < G := by rw [hG]; exact hM.lt
                    have hGX : X < G := by rw [hG]; exact hX.lt
                    rw [← hW, ← hG] at HG0 HG1
                    rw [← hW] at HWb
                    have hMW := hM.next HWb.out
                    have hXW := hX.next HWb.out
                    have hFW := hF.below HWb.out
                    have hTW := hT.then (Touch.of_below HWb.out)
                    rw [← hW, ← hG]
                    clear hW hG HWb hM hX hF hT q0 q1 hbs hF2
                    obtain ⟨st, w1, he1, he2, he3, he4, he5⟩ := hMW.entry keyLd Tryz.underlying111 0 zero64 (c, xa)
                    have hl0 := hMW.look keyLd Tryz.underlying111 (zero64 _) (c, xa)
                    have hl1 := he2.look keyLd Tryz.underlying111 (zero64 _) (c, xa)
                    rw [show (Value.int .i64 0) = vI 0 from rfl, looked_vI] at hl0 hl1
                    rw [mget_mset, if_pos rfl] at hl1
                    simp only [Option.getD_some] at hl1
                    rw [hpl] at hl0 hl1 he1
                    simp only [kP, vI] at hl0 hl1 he1
                    have z1 : W.drew.cell? ⟨X, 0, none⟩ = some (.map (some B)) := hXW.cell 0
                    have z2 : W.drew.cell? ⟨G + 1, 0, none⟩ = some (.int .i64 c) := HG1.out.cell 0
                    have z3 : W.drew.cell? ⟨G + 1, 1, none⟩ = some (.int .i64 xa) := HG1.out.cell 1
                    have z4 : W.drew.cell? ⟨G, 1, none⟩ = some (.int .i64 xn) := HG0.out.cell 1
                    have hneX : some X ≠ some B := fun e => hXB (by injection e)
                    have y1 : w1.cell? ⟨X, 0, none⟩ = some (.map (some B)) := (hXW.grown he3 hneX).cell 0
                    have y2 : w1.cell? ⟨G + 1, 0, none⟩ = some (.int .i64 c) := (HG1.out.grown he3 (fun e => by injection e; omega)).cell 0
                    have y3 : w1.cell? ⟨G + 1, 1, none⟩ = some (.int .i64 xa) := (HG1.out.grown he3 (fun e => by injection e; omega)).cell 1
                    have y4 : w1.cell? ⟨G, 1, none⟩ = some (.int .i64 xn) := (HG0.out.grown he3 (fun e => by injection e; omega)).cell 1
                    obtain ⟨s, hs⟩ : ∃ s, s = v0 + xn := ⟨_, rfl⟩
                    have HSV := hid hs
                    clear hs
                    refine wp_region_entry 9 11 w1 (by omega) (by kernel_rfl) (by kernel_rfl) ?_
                    simp only [List.take_succ_cons, List.take_zero, List.drop_succ_cons, List.drop_zero]
                    refine wpE_read rfl rfl (.pointer (some ⟨X, 0, none⟩)) (fun b => by cases b <;> (simp only [wAt]; go_simp)) ?_
                    refine wpE_read rfl rfl (.pointer (some ⟨X, 0, none⟩)) (fun b => by cases b <;> (simp only [wAt]; go_simp)) ?_
                    refine wpE_read rfl rfl (.pointer (some ⟨X, 0, none⟩)) (fun b => by cases b <;> (simp only [wAt]; go_simp)) ?_
                    refine wpE_read rfl rfl (.map (some B)) (fun b => by cases b <;> (simp only [wAt]; go_simp)) ?_
                    refine wpE_read rfl rfl (.agg #[.int .i64 c, .int .i64 xa]) (fun b => by cases b <;> (simp only [wAt]; go_simp)) ?_
                    refine wpE_read rfl rfl (.int .i64 v0) (fun b => by cases b <;> (simp only [wAt]; go_simp)) ?_
                    refine wpE_read rfl rfl (.pointer (some ⟨G, 1, none⟩)) (fun b => by cases b <;> (simp only [wAt]; go_simp)) ?_
                    refine wpE_read rfl rfl (.int .i64 xn) (fun b => by cases b <;> (simp only [wAt]; go_simp)) ?_
                    refine wpE_read rfl rfl (.int .i64 s) (fun b => by cases b <;> (simp only [wAt]; go_simp; rw [HSV.out]; exact IntWalk.i64_in _ (by omega))) ?_
                    refine wpE_turn rfl (.tuple #[.int .i64 v0, goInt st]) (by go_simp) ?_
                    refine wpE_read rfl rfl (goInt st) (fun b => by cases b <;> (simp only [wAt]; go_simp)) ?_
                    refine wpE_nil fun K hK => ?_
                    go_simp
                    refine hK _ ?_
                    clear hK K
                    refine wpList_entryStore (kE := kP) (vE := vI) w1 w1 rfl (Operand.tmp 89) (Operand.tmp 96) (Operand.tmp 94) 111 rfl B st m (c, xa) s rfl rfl rfl rfl (hid he5) ?_
                    intro w3 hM3 hg3 hs3
                    have hX3 := (hXW.grown he3 hneX).grown hg3 hneX
                    have hG3 := (HG1.out.grown he3 (fun e => by injection e; omega)).grown hg3 (fun e => by injection e; omega)
                    have hT3 := hTW.then (((Touch.of_grown he3).mono (fun k (hk : k = B) => (.inr hk : XB X B k))).then ((Touch.of_grown hg3).mono (fun k (hk : k = B) => (.inr hk : XB X B k))))
                    have hF3 : Rd w3 (some ⟨b, off, none⟩) (es.flatMap enE) := ((Touch.of_grown he3).rd hFW (fun b' hb' => fun e => hA b' hb' (.inr e))).grown' hg3 (fun b' hb' e => hA b' hb' (.inr e))
                    clear he1 he2 he3 he4 he5 hg3 hs3 hl0 hl1 z1 z2 z3 z4 y1 y2 y3 y4 hXW HG0 HG1 hTW hFW hMW hneX
                    have hl3 : ∀ n, (Instr.lookup 111 (.map (some B)) (.agg #[.int .i64 c, .int .i64 xa]) false).run Tryz.prog (w3.drewN n) = .ok (.int .i64 s) (w3.drewN n) := fun n => by
                      have := (hM3.keep (w' := w3.drewN n) rfl).look keyLd Tryz.underlying111 (zero64 _) (c, xa)
                      rw [show (Value.int .i64 0) = vI 0 from rfl, looked_vI, mget_mset, if_pos rfl] at this
                      exact this
                    have z1 : w3.cell? ⟨X, 0, none⟩ = some (.map (some B)) := hX3.cell 0
                    have z2 : w3.cell? ⟨G + 1, 0, none⟩ = some (.int .i64 c) := hG3.cell 0
                    have z3 : w3.cell? ⟨G + 1, 1, none⟩ = some (.int .i64 xa) := hG3.cell 1
                    by_cases hsz : s = 0
                    · have HL2 := hid (hL.out.cut (c, xa) xn s (by rw [← HV0.out, ← HSV.out]; exact hsz))
                      subst hsz
                      go_wp2_with fail
                      go_quiet (fail)
                      clear hl3
                      go_wp2_with fail
                      refine wp_tail 5 (by kernel_rfl) (by kernel_rfl) ?_
                      simp only [List.take_succ_cons, List.take_zero, List.drop_succ_cons, List.drop_zero]
                      repeat still_step
                      refine wpStill_nil ?_
                      go_wp2_with (first
                        | (at_delete; refine wpList_drop _ rfl _ _ 111 2 115 rfl keyLd Tryz.underlying111 B (mset m (c, xa) 0) rfl (hM3.keep rfl) (c, xa) rfl ?_; intro w5 hM5 hg5 hs5))
                      have hT5 := (hT3.drewN (nq + 1)).then ((Touch.of_grown hg5).mono (fun k (hk : k = B) => (.inr hk : XB X B k)))
                      have hX5 := (hX3.next (below_drewN (Below.refl _ _) (nq + 1))).grown hg5 (fun e => hXB (by injection e))
                      have hF5 := (hF3.below (below_drewN (Below.refl _ _) (nq + 1))).grown' hg5 (fun b' hb' e => hA b' hb' (.inr e))
                      have HL3 : Hid (Led (mdel (mset m (c, xa) 0) (c, xa)) (addF f c (es.take (k + 1)))) := hid (by rw [HS2.out]; exact HL2.out)
                      go_roundw
                      case rel => exact ⟨k + 1, _, by omega, by go_num, hM5, HL3, hT5, hF5, hX5⟩
                      case measure => simp [intOf]; omega
                    · have HL2 := hid (hL.out.put (c, xa) xn (by rw [← HV0.out, ← HSV.out]; exact hsz))
                      rw [← HV0.out, ← HSV.out] at HL2
                      have b4 : (s == 0) = false := by simpa using hsz
                      have HL3 : Hid (Led (mset m (c, xa) s) (addF f c (es.take (k + 1)))) := hid (by rw [HS2.out]; exact HL2.out)
                      clear hsz HL2
                      go_wp2_with fail
                      go_quiet (fail)
                      go_wp2_with fail
                      go_roundw
                      case rel => exact ⟨k + 1, _, by omega, by go_num, hM3, HL3, hT3.drewN _, hF3.below (below_drewN (Below.refl _ _) _), hX3⟩
                      case measure => simp [intOf]; omega
                  · have hk' : k = es.length := by omega
                    subst hk'
                    have hL2 := hL.out
                    rw [List.take_length] at hL2
                    have HLL := hid hL2
                    have z1 : wr.cell? ⟨X, 1, none⟩ = some (.int .i64 d) := hX.cell 1
                    have z2 : wr.cell? ⟨X, 2, none⟩ = some (.int .i64 d) := hX.cell 2
                    have z3 : wr.frozen? ⟨X, 1, none⟩ = false := hX.free 1
                    have z4 : wr.frozen? ⟨X, 2, none⟩ = false := hX.free 2
                    clear hlt hk hL hL2 hF
                    have HE := hid (show IsLed ((wr.setCell ⟨X, 1, none⟩ (.int .i64 (d + D))).setCell ⟨X, 2, none⟩ (.int .i64 (d + D))) X B (addF f c es) (d + D) from
                      ⟨(hX.set_ 1 _).set_ 2 _, ⟨m, (hM.setCell _ _).setCell _ _, HLL.out⟩, hI2.out⟩)
                    have HT := hid ((hT.then ((Touch.setCell wr X 1 (.int .i64 (d + D))).mono (fun k (hk : k = X) => (.inl hk : XB X B k)))).then ((Touch.setCell (wr.setCell ⟨X, 1, none⟩ (.int .i64 (d + D))) X 2 (.int .i64 (d + D))).mono (fun k (hk : k = X) => (.inl hk : XB X B k))))
                    clear hX hM hT HLL
                    go_wp2_with fail
                    go_ret
                    exact hP.out _ HE.out HT.out
              · have hP := hid (fun w' (hb' : Below w.heap.size w w') => PostL.no (w := w) (hg0.out.next hb') (Touch.of_below hb') (c := c) (es := es) (r := 72) (by unfold postC; rw [if_pos hok1, if_neg (fun e => e hs), if_pos (by omega)]) (by omega))
                have c1 : wr.cell? ⟨X, 1, none⟩ = some (.int .i64 d) := (hg0.out.next hb).blk.cell 1
                have b3 : (sumE es != 0) = false := by simpa using hs
                generalize sumE es = S at *
                generalize debs es = D at *
                clear hs hall hok1 hok
                go_wp2_with fail
                go_ret
                exact hP.out _ hb
            · have hP := hid (fun w' (hb' : Below w.heap.size w w') => PostL.no (w := w) (hg0.out.next hb') (Touch.of_below hb') (c := c) (es := es) (r := 160) (by unfold postC; rw [if_pos hok1, if_pos hs]) (by omega))
              have b3 : (sumE es != 0) = true := by simpa using hs
              generalize sumE es = S at *
              generalize debs es = D at *
              clear hs hall hok1 hok
              go_wp2_with fail
              go_ret
              exact hP.out _ hb
      · have hP := hid (PostL.no h hT0 (c := c) (es := es) (r := 2) (by unfold postC; rw [if_neg (fun e => h8 e.2.2.2.1)]) (by omega))
        have b1 : ((es.length : Int) == 0) = false := by simp; omega
        have b2 : (8 : Int) < (es.length : Int) := by omega
        clear h hR hT0 hn h8 hpos hA
        go_enter Tryz.func52, Tryz.ntmps52
        go_wp2_with fail
        refine (FY.out _).mono ?_
        rintro e w1 ⟨rfl, rfl⟩
        go_wp2_with fail
        go_ret
        exact hP.out
  · have FN := hid (fun w => lfit_no c 0 w (fun e => hc ⟨e.1, e.2.1⟩))
    have hP := hid (PostL.no h hT0 (c := c) (es := es) (r := 2) (by unfold postC; rw [if_neg (fun e => hc ⟨e.1, e.2.1⟩)]) (by omega))
    clear h hR hT0 hc hA0
    go_enter Tryz.func52, Tryz.ntmps52
    go_wp2_with fail
    refine (FN.out _).mono ?_
    rintro e w1 ⟨rfl, rfl⟩
    go_wp2_with fail
    go_ret
    exact hP.out
end Go.Proofs.YthdmbbfppgenlaaGreat
