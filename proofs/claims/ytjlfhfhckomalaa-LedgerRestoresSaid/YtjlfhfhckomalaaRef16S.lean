/-
  The document's ledger: Restore.
-/
import Derived.Test.YtjlfhfhckomalaaLedRest
import Derived.Test.YtjlfhfhckomalaaRef16Q
namespace Go.Proofs.Ytjlfhfhckomalaa
open Go.RowKit Go.WideShapes Go.ChangeShapes Go.ChangeAt Go.Deep
set_option linter.unusedVariables false

theorem build_turn (t : Int) (w : World) : (Instr.build 42 #[(1, .int .i64 t)]).run Try.prog w = .ok (.agg (cellsR f0 t)) w := by kernel_rfl
theorem wpList_build1 {P : Program} {ops : Array Oper} {rest : List Oper} {o : Oper} {a : Act} {Q : Exit → Act → World → Prop} (w : World) (hg : o.guard = none) (t : TypeId) (i : Nat) (x : Operand) (hop : o.op = .build t #[(i, x)]) (u : Value) (hx : a.eval x = u) (v : Value)
    (h : (Instr.build t #[(i, u)]).run P w = .ok v w) (hK : wpList P ops Q rest (a.put o.dst v) w) : wpList P ops Q (o :: rest) a w := by
  refine wpList_plain hg fun K' hK' => ?_
  unfold Oper.wp
  have : (execOp a.eval o).run P w = .ok (.value v) w := by simp [execOp, hop, hx, h, Result.andThen]
  rw [this]
  exact hK' _ _ hK

/-- What the document's Restore leaves. -/
def RestR (t : Int) (l : List Sm) (w : World) (e : Ending) (w' : World) : Prop :=
  (RestOk t l → ∃ R, e = .returned (.tuple #[.pointer (some ⟨R, 0, none⟩), .int .i64 0]) ∧ w.heap.size ≤ R ∧ IsRef w' R (fromL l) t) ∧ (¬ RestOk t l → e = .returned (.tuple #[.pointer none, .int .i64 2]))
theorem RestR.no {t : Int} {l : List Sm} {w w' : World} (h : ¬ RestOk t l) : RestR t l w (.returned (.tuple #[.pointer none, .int .i64 2])) w' := ⟨fun h' => absurd h' h, fun _ => rfl⟩

set_option maxRecDepth 100000 in
set_option maxHeartbeats 16000000 in
theorem rrestore_any (t : Int) (l : List Sm) (A : Option Addr) (cp : Nat) (w : World) (hR : Rd w A (l.flatMap enS)) (hl : l.length ≤ 140737488355328) :
    Calls Try.prog 19 #[.int .i64 t, .slice A l.length cp] w fun e w' => RestR t l w e w' ∧ Below w.heap.size w w' := by
  by_cases ht0 : 0 ≤ t
  · by_cases ht1 : t ≤ 1152921504606846976
    · have hR0 : IsRef (w.alloc (.cells (cellsR f0 t) 42)) w.heap.size f0 t := Blk.new _ _ _
      have hb0 : Below w.heap.size w (w.alloc (.cells (cellsR f0 t) 42)) := (Below.refl _ _).alloc (Nat.le_refl _) _
      have HQ := hid (And.intro hR0 hb0)
      clear hR0 hb0
      go_enter Try.func19, Try.ntmps19
      go_wp2_with (first
        | (refine wpList_build1 _ rfl 42 1 _ rfl (.int .i64 t) rfl _ (build_turn t _) ?_))
      obtain ⟨R, hRe⟩ : ∃ R, R = w.heap.size := ⟨_, rfl⟩
      have hRw : w.heap.size ≤ R := by omega
      obtain ⟨hR0, hb0⟩ := HQ.out
      rw [← hRe] at hR0 ⊢
      clear hRe
      go_loopw [7, 8] (fun dv iv wr => ∃ k : Nat, k ≤ l.length ∧ iv = .int .i64 k ∧ dv = .int .i64 (debS (l.take k)) ∧ debS (l.take k) ≤ t ∧ Hid (GoodTo t l k) ∧ IsRef wr R (fromL (l.take k)) t ∧ Below w.heap.size w wr) (fun _ iv _ => l.length - (intOf iv).toNat)
      case atStart => exact ⟨0, Nat.zero_le _, rfl, rfl, ht0, hid (GoodTo.zero t l), hR0, hb0⟩
      case round =>
        clear hR0 hb0 HQ
        obtain ⟨k, hk, rfl, rfl, hdt, hG, h, hb⟩ := hrel
        have hdn := debS_nonneg (l.take k)
        by_cases hlt : k < l.length
        · obtain ⟨x, hx⟩ : ∃ x, l[k]? = some x := ⟨l[k], List.getElem?_eq_getElem hlt⟩
          have hR1 := hR.below hb
          obtain ⟨b, off, rfl, hbs, hcc⟩ := hR1.at_ 3 enS_len (by omega) hx
          have HS : Hid (l.take (k + 1) = l.take k ++ [x]) := hid (by rw [List.take_add_one, hx]; rfl)
          have HX := hid hx
          obtain ⟨xc, xa, xn⟩ := x
          have q0 : wr.cell? ⟨b, off + k * 3, none⟩ = some (.int .i64 xc) := hcc 0 _ rfl
          have q1 : wr.cell? ⟨b, off + k * 3 + 1, none⟩ = some (.int .i64 xa) := hcc 1 _ rfl
          have q2 : wr.cell? ⟨b, off + k * 3 + 2, none⟩ = some (.int .i64 xn) := hcc 2 _ rfl
          obtain ⟨G, hGe⟩ : ∃ G, G = wr.heap.size := ⟨_, rfl⟩
          have hBG : Blk (wr.alloc (.cells #[.int .i64 xc, .int .i64 xa, .int .i64 xn] 72)) wr.heap.size 72 #[.int .i64 xc, .int .i64 xa, .int .i64 xn] := Blk.new _ _ _
          have hGR : G ≠ R := by have := Blk.lt h; omega
          rw [← hGe] at hBG
          have hwb : Below wr.heap.size wr (wr.alloc (.cells #[.int .i64 xc, .int .i64 xa, .int .i64 xn] 72)) := (Below.refl _ _).alloc (Nat.le_refl _) _
          have hHh := hid (And.intro hBG (And.intro (h.next hwb) (And.intro (bthen hb hwb) (hR.below (bthen hb hwb)))))
          clear hcc hx hR1 hwb hBG h hb
          go_upto_region 9 with fail
          rw [← hGe]
          go_cut [68] (fun v wx => v = .bool (!okS t ⟨xc, xa, xn⟩) ∧ wx = wr.alloc (.cells #[.int .i64 xc, .int .i64 xa, .int .i64 xn] 72))
          case first =>
            clear q0 q1 q2 HS HX hG hdt hdn hGe
            have z0 : World.cell? _ ⟨G, 0, none⟩ = some (.int .i64 xc) := hHh.out.1.cell 0
            have z1 : World.cell? _ ⟨G, 1, none⟩ = some (.int .i64 xa) := hHh.out.1.cell 1
            have z2 : World.cell? _ ⟨G, 2, none⟩ = some (.int .i64 xn) := hHh.out.1.cell 2
            by_cases o1 : 1 ≤ xc
            · have e1 : decide (xc < 1) = false := by simp; omega
              by_cases o2 : xc ≤ 64
              · have e2 : decide (64 < xc) = false := by simp; omega
                by_cases o3 : 0 ≤ xa
                · have e3 : decide (xa < 0) = false := by simp; omega
                  by_cases o4 : xa < 6
                  · have e4 : decide (6 ≤ xa) = false := by simp; omega
                    by_cases o5 : xn = 0
                    · have e5 : (xn == 0) = true := by simpa using o5
                      have HV : Hid ((!okS t ⟨xc, xa, xn⟩) = true) := hid (by unfold okS; simp [o5])
                      clear o5
                      go_wp2_with fail
                      go_meet
                      exact ⟨by rw [HV.out], rfl⟩
                    · have e5 : (xn == 0) = false := by simpa using o5
                      by_cases o6 : xn ≤ t
                      · have e6 : decide (t < xn) = false := by simp; omega
                        by_cases o7 : -t ≤ xn
                        · have e7 : decide (xn < -t) = false := by simp; omega
                          have HV : Hid ((!okS t ⟨xc, xa, xn⟩) = false) := hid (by rw [(okS_iff t _).2 ⟨o1, o2, o3, o4, o5, o6, o7⟩]; rfl)
                          clear o5
                          go_wp2_with fail
                          go_meet
                          exact ⟨by rw [HV.out], rfl⟩
                        · have e7 : decide (xn < -t) = true := by simp; omega
                          have HV : Hid ((!okS t ⟨xc, xa, xn⟩) = true) := hid (by unfold okS; simp [o7])
                          clear o5 o7
                          go_wp2_with fail
                          go_meet
                          exact ⟨by rw [HV.out], rfl⟩
                      · have e6 : decide (t < xn) = true := by simp; omega
                        have HV : Hid ((!okS t ⟨xc, xa, xn⟩) = true) := hid (by unfold okS; simp [o6])
                        clear o5 o6
                        go_wp2_with fail
                        go_meet
                        exact ⟨by rw [HV.out], rfl⟩
                  · have e4 : decide (6 ≤ xa) = true := by simp; omega
                    have HV : Hid ((!okS t ⟨xc, xa, xn⟩) = true) := hid (by unfold okS; simp [o4])
                    clear o4
                    go_wp2_with fail
                    go_meet
                    exact ⟨by rw [HV.out], rfl⟩
                · have e3 : decide (xa < 0) = true := by simp; omega
                  have HV : Hid ((!okS t ⟨xc, xa, xn⟩) = true) := hid (by unfold okS; simp [o3])
                  clear o3
                  go_wp2_with fail
                  go_meet
                  exact ⟨by rw [HV.out], rfl⟩
              · have e2 : decide (64 < xc) = true := by simp; omega
                have HV : Hid ((!okS t ⟨xc, xa, xn⟩) = true) := hid (by unfold okS; simp [o2])
                clear o2
                go_wp2_with fail
                go_meet
                exact ⟨by rw [HV.out], rfl⟩
            · have e1 : decide (xc < 1) = true := by simp; omega
              have HV : Hid ((!okS t ⟨xc, xa, xn⟩) = true) := hid (by unfold okS; simp [o1])
              clear o1
              go_wp2_with fail
              go_meet
              exact ⟨by rw [HV.out], rfl⟩
          case rest =>
            obtain ⟨rfl, rfl⟩ := hcut
            obtain ⟨hBG, h, hb, hRl⟩ := hHh.out
            have hnb : Hid (GoodAt t l k ⟨xc, xa, xn⟩ ∨ ¬ RestOk t l) := hid (by
              by_cases hg : GoodAt t l k ⟨xc, xa, xn⟩
              · exact .inl hg
              · exact .inr (fun h => hg (h.good k _ hlt HX.out)))
            clear hHh q0 q1 q2 hGe
            generalize hWe : wr.alloc (.cells #[.int .i64 xc, .int .i64 xa, .int .i64 xn] 72) = W at *
            clear hWe hbs
            cases hok : okS t ⟨xc, xa, xn⟩ with
            | false =>
              have hn : ¬ RestOk t l := hnb.out.resolve_left (fun h => by have := h.ok; rw [hok] at this; cases this)
              have HN := hid (fun w' => RestR.no (w := w) (w' := w') hn)
              clear hok hn h hBG
              go_wp2_with fail
              go_ret2
              exact ⟨HN.out _, hb⟩
            | true =>
              have HOK := hid hok
              have ho := (okS_iff t _).1 hok
              simp only at ho
              obtain ⟨o1, o2, o3, o4, o5, o6, o7⟩ := ho
              clear hok
              have z0 : W.cell? ⟨G, 0, none⟩ = some (.int .i64 xc) := hBG.cell 0
              have z1 : W.cell? ⟨G, 1, none⟩ = some (.int .i64 xa) := hBG.cell 1
              go_upto_if 70 with fail
              go_cut [7] (fun dv wx => dv = .int .i64 (debS (l.take k)) ∧ Hid (∀ y, 0 < k → l[k - 1]? = some y → ltS (keyS y) (keyS ⟨xc, xa, xn⟩) = true) ∧ Below W.heap.size W wx)
              case first =>
                have hbG := hid hBG
                have hGlt : G < W.heap.size := hBG.lt
                clear hG HS HX hdt hdn h hBG o1 o2 o3 o4 o5 o6 o7 HOK
                by_cases hk0 : k = 0
                · have b0 : decide ((0 : Int) < (k : Int)) = false := by simp; omega
                  have b0n : ¬ (0 < k) := by omega
                  have b0d : decide (0 < k) = false := by simp; omega
                  have HO := hid (show ∀ y, 0 < k → l[k - 1]? = some y → ltS (keyS y) (keyS ⟨xc, xa, xn⟩) = true from fun y h0 => by omega)
                  clear hnb hb hRl hk0
                  go_wp2_with fail
                  go_meet
                  exact ⟨rfl, HO, Below.refl _ _⟩
                · have b0 : (0 : Int) < (k : Int) := by omega
                  have b0n : 0 < k := by omega
                  have hkw : IntKind.i64.wrap ((k : Int) - 1) = ((k - 1 : Nat) : Int) := by rw [IntWalk.i64_in _ ⟨by omega, by omega⟩]; omega
                  have hkl : k - 1 < l.length := by omega
                  obtain ⟨y, hy⟩ : ∃ y, l[k - 1]? = some y := ⟨l[k - 1], List.getElem?_eq_getElem hkl⟩
                  obtain ⟨b', off', he, hbs, hcc⟩ := hRl.at_ 3 enS_len (by omega) hy
                  injection he with he
                  simp only [Addr.mk.injEq, and_true] at he
                  obtain ⟨rfl, rfl⟩ := he
                  have HY := hid hy
                  obtain ⟨yc, ya, yn⟩ := y
                  have p0 : W.cell? ⟨b, off + (k - 1) * 3, none⟩ = some (.int .i64 yc) := hcc 0 _ rfl
                  have p1 : W.cell? ⟨b, off + (k - 1) * 3 + 1, none⟩ = some (.int .i64 ya) := hcc 1 _ rfl
                  have p2 : W.cell? ⟨b, off + (k - 1) * 3 + 2, none⟩ = some (.int .i64 yn) := hcc 2 _ rfl
                  have hwb := hid (show Below W.heap.size W (W.alloc (.cells #[.int .i64 yc, .int .i64 ya, .int .i64 yn] 72)) from (Below.refl _ _).alloc (Nat.le_refl _) _)
                  have hbw := hid (bthen hb hwb.out)
                  have hBad : Hid (ltS (yc, ya) (xc, xa) = false → ¬ RestOk t l) := hid (fun hf => hnb.out.resolve_left (fun h => by have := h.lt _ b0n HY.out; simp only [keyS] at this; rw [hf] at this; cases this))
                  have hGood : Hid (ltS (yc, ya) (xc, xa) = true → ∀ y, 0 < k → l[k - 1]? = some y → ltS (keyS y) (keyS ⟨xc, xa, xn⟩) = true) := hid (fun hf y _ hy => by rw [HY.out] at hy; injection hy with hy; subst hy; exact hf)
                  clear hcc hy HY hnb hb hRl hk0 hbs
                  rcases (show xc < yc ∨ yc < xc ∨ xc = yc from by omega) with c | c | c
                  · have HN := hid (fun w' => RestR.no (w := w) (w' := w') (hBad.out (by unfold ltS; simp; omega)))
                    clear hBad hGood
                    go_wp2_with fail
                    go_ret2
                    exact ⟨HN.out _, hbw.out⟩
                  · have HO := hid (hGood.out ((ltS_iff _ _).2 (.inl c)))
                    have e1 : decide (xc < yc) = false := by simp; omega
                    have e2 : (xc == yc) = false := by simp; omega
                    clear hBad hGood
                    go_wp2_with fail
                    go_meet
                    exact ⟨rfl, HO, hwb.out⟩
                  · subst c
                    have e1 : decide (xc < xc) = false := by simp
                    have e2 : (xc == xc) = true := by simp
                    by_cases c2 : xa ≤ ya
                    · have HN := hid (fun w' => RestR.no (w := w) (w' := w') (hBad.out (by unfold ltS; simp; omega)))
                      clear hBad hGood
                      go_wp2_with fail
                      go_ret2
                      exact ⟨HN.out _, hbw.out⟩
                    · have HO := hid (hGood.out ((ltS_iff _ _).2 (.inr ⟨rfl, by simp only; omega⟩)))
                      have e3 : decide (xa ≤ ya) = false := by simp; omega
                      clear hBad hGood
                      go_wp2_with fail
                      go_meet
                      exact ⟨rfl, HO, hwb.out⟩
              case rest =>
                obtain ⟨rfl, hord, hbx⟩ := hcut
                have hnew := hG.out.new HX.out hord.out
                obtain ⟨cn, rfl⟩ : ∃ cn : Nat, xc = (cn : Int) := ⟨xc.toNat, by omega⟩
                obtain ⟨an, rfl⟩ : ∃ an : Nat, xa = (an : Int) := ⟨xa.toNat, by omega⟩
                have hcn : cn ≤ 64 := by omega
                have hcn2 : (cn : Int) < 65 := by omega
                have han : an < 6 := by omega
                have hFn := hid (show fromL (l.take (k + 1)) = putF (fromL (l.take k)) ((cn : Int), (an : Int)) xn from by rw [HS.out, fromL_snoc]; rfl)
                have hDn := hid (show debS (l.take (k + 1)) = debS (l.take k) + pos xn from by rw [HS.out, debS_snoc])
                have hGd := hid (fun (hd : debS (l.take (k + 1)) ≤ t) => hG.out.succ (fun x' hx' => by rw [HX.out] at hx'; injection hx' with hx'; subst hx'; exact ⟨HOK.out, hord.out, hd⟩))
                have hBad := hid (fun (hd : ¬ debS (l.take (k + 1)) ≤ t) (h : RestOk t l) => hd (h.good k _ hlt HX.out).deb)
                replace h := h.next hbx
                replace hBG := hBG.next hbx
                replace hb := bthen hb hbx
                have hX := h.at_ hcn han
                have hXf := Blk.free h (cn * 6 + an)
                have h2 := h.put hcn han xn
                rw [← hFn.out] at h2
                generalize fromL (l.take k) = f at *
                generalize debS (l.take k) = D at *
                have q0 : World.cell? _ ⟨G, 0, none⟩ = some (.int .i64 (cn : Int)) := hBG.cell 0
                have q1 : World.cell? _ ⟨G, 1, none⟩ = some (.int .i64 (an : Int)) := hBG.cell 1
                have q2 : World.cell? _ ⟨G, 2, none⟩ = some (.int .i64 xn) := hBG.cell 2
                have hXG := hid (Blk.far hBG hGR (p := ⟨R, cn * 6 + an, none⟩) (.int .i64 xn))
                have hb4 := hid ((hb.trans ((Touch.setCell _ R (cn * 6 + an) (.int .i64 xn)).below hb.size (fun k hk => by rw [hk]; exact hRw))).drew)
                have h4 := hid h2
                clear hnew hbx hG HS HX hnb HOK hord h hBG h2 hb o5 z0 z1 hRl
                go_wp2_with fail
                refine wp_tail 11 (by kernel_rfl) (by kernel_rfl) ?_
                simp only [List.take_succ_cons, List.take_zero, List.drop_succ_cons, List.drop_zero]
                repeat still_step
                refine wpStill_nil ?_
                clear q0 q1
                have r4 := hXG.out.cell 2
                by_cases hpx : 0 < xn
                · have HP := hid (show pos xn = xn from if_pos hpx)
                  by_cases hd : D + xn ≤ t
                  · have hd2 : decide (t < D + xn) = false := by simp; omega
                    have HG2 := hid (hGd.out (by rw [hDn.out, HP.out]; omega))
                    clear hGd hBad
                    go_wp2_with fail
                    go_roundw
                    case rel => exact ⟨k + 1, by omega, by go_num, by rw [hDn.out, HP.out], by rw [hDn.out, HP.out]; omega, HG2, h4.out, hb4.out⟩
                    case measure => simp [intOf]; omega
                  · have hd2 : decide (t < D + xn) = true := by simp; omega
                    have hn := hBad.out (by rw [hDn.out, HP.out]; omega)
                    have HN := hid (fun w' => RestR.no (w := w) (w' := w') hn)
                    clear hGd hBad hn h4
                    go_wp2_with fail
                    go_ret2
                    exact ⟨HN.out _, hb4.out⟩
                · have HP := hid (show pos xn = 0 from if_neg hpx)
                  have hd2 : decide (t < D) = false := by simp; omega
                  have HG2 := hid (hGd.out (by rw [hDn.out, HP.out]; omega))
                  clear hGd hBad
                  go_wp2_with fail
                  go_roundw
                  case rel => exact ⟨k + 1, by omega, by go_num, by rw [hDn.out, HP.out]; go_num, by rw [hDn.out, HP.out]; omega, HG2, h4.out, hb4.out⟩
                  case measure => simp [intOf]; omega
        · have hk' : k = l.length := by omega
          subst hk'
          rw [List.take_length] at *
          have hFb := hid (fun p => hG.out.bd (Nat.le_refl _) ht0 p)
          rw [List.take_length] at hFb
          clear hlt hk
          go_wp2_with fail
          go_loop [11] (fun c => ∃ k : Nat, k ≤ 64 ∧ c = .int .i64 ((k + 1 : Nat) : Int) ∧ Hid (∀ c : Nat, 1 ≤ c → c ≤ k → rowF (fromL l) c = 0)) (fun c => 65 - (intOf c).toNat)
          case atStart => exact ⟨0, by omega, rfl, hid (fun c h1 h2 => by omega)⟩
          case round =>
            obtain ⟨k, hk, rfl, hz⟩ := hrel
            by_cases hlt : k < 64
            · have b1 : ((k + 1 : Nat) : Int) ≤ 64 := by omega
              have b2 : ((k + 1 : Nat) : Int) < 65 := by omega
              go_wp2_with fail
              go_loop [12, 13] (fun n a => ∃ j : Nat, j ≤ 6 ∧ a = .int .i64 j ∧ n = .int .i64 (((List.range j).map fun a : Nat => fromL l ((k : Int) + 1, (a : Int))).sum)) (fun _ a => 6 - (intOf a).toNat)
              case atStart => exact ⟨0, by omega, rfl, rfl⟩
              case round =>
                obtain ⟨j, hj, rfl, rfl⟩ := hrel
                have hbs : ∀ n : Nat, -(t * n) ≤ ((List.range n).map fun a : Nat => fromL l ((k : Int) + 1, (a : Int))).sum ∧ ((List.range n).map fun a : Nat => fromL l ((k : Int) + 1, (a : Int))).sum ≤ t * n := by
                  intro n
                  induction n with
                  | zero => simp
                  | succ n ih =>
                    rw [List.range_succ, List.map_append, List.sum_append]
                    have := hFb.out ((k : Int) + 1, (n : Int))
                    have e : t * ((n + 1 : Nat) : Int) = t * (n : Int) + t := by rw [Int.natCast_succ, Int.mul_add, Int.mul_one]
                    rw [e]
                    simp only [List.map_cons, List.map_nil, List.sum_cons, List.sum_nil]
                    omega
                have hbj := hbs j
                clear hbs
                by_cases hlj : j < 6
                · have hj2 : (j : Int) < 6 := by omega
                  have q0 := h.at_ (c := k + 1) (a := j) (by omega) hlj
                  rw [show ((k + 1 : Nat) : Int) = (k : Int) + 1 from by omega] at q0
                  have hf1 := hFb.out ((k : Int) + 1, (j : Int))
                  have HS := hid (show ((List.range (j + 1)).map fun a : Nat => fromL l ((k : Int) + 1, (a : Int))).sum = ((List.range j).map fun a : Nat => fromL l ((k : Int) + 1, (a : Int))).sum + fromL l ((k : Int) + 1, (j : Int)) from by
                    rw [List.range_succ, List.map_append, List.sum_append]; simp)
                  have htj : t * (j : Int) ≤ 1152921504606846976 * 6 := Int.mul_le_mul ht1 (by omega) (by omega) (by omega)
                  generalize ((List.range j).map fun a : Nat => fromL l ((k : Int) + 1, (a : Int))).sum = s1 at *
                  generalize fromL l ((k : Int) + 1, (j : Int)) = v at *
                  have hs1 : -6917529027641081856 ≤ s1 ∧ s1 ≤ 6917529027641081856 := by omega
                  clear hbj htj
                  go_wp2_with fail
                  go_round
                  case rel => exact ⟨j + 1, by omega, by go_num, by rw [HS.out]⟩
                  case measure => simp [intOf]; omega
                · have hj6 : j = 6 := by omega
                  subst hj6
                  have hrr : ((List.range 6).map fun a : Nat => fromL l ((k : Int) + 1, (a : Int))).sum = rowF (fromL l) ((k + 1 : Nat) : Int) := by
                    unfold rowF
                    rw [show ((k + 1 : Nat) : Int) = (k : Int) + 1 from by omega]
                  rw [hrr] at *
                  by_cases hr0 : rowF (fromL l) ((k + 1 : Nat) : Int) = 0
                  · have HZ2 := hid (show ∀ c : Nat, 1 ≤ c → c ≤ k + 1 → rowF (fromL l) c = 0 from fun c h1 h2 => by
                      rcases Nat.lt_or_eq_of_le h2 with h3 | h3
                      · exact hz.out c h1 (by omega)
                      · subst h3; exact hr0)
                    rw [hr0]
                    clear hbj hrr hr0
                    go_wp2_with fail
                    go_round
                    case rel => exact ⟨k + 1, by omega, by go_num, HZ2⟩
                    case measure => simp [intOf]; omega
                  · have hn : ¬ RestOk t l := fun h => hr0 (h.zero (k + 1) (by omega) (by omega))
                    have HN := hid (fun w' => RestR.no (w := w) (w' := w') hn)
                    have e1 : (rowF (fromL l) ((k + 1 : Nat) : Int) != 0) = true := by simpa using hr0
                    generalize rowF (fromL l) ((k + 1 : Nat) : Int) = rv at *
                    clear hbj hrr hr0 hn
                    go_wp2_with fail
                    go_ret2
                    exact ⟨HN.out _, hb⟩
            · have hk' : k = 64 := by omega
              subst hk'
              have hro : RestOk t l := ⟨ht0, ht1, hG.out, fun c h1 h2 => hz.out c h1 h2⟩
              have HE := hid (show RestR t l w (.returned (.tuple #[.pointer (some ⟨R, 0, none⟩), .int .i64 0])) wr from ⟨fun _ => ⟨R, rfl, hRw, h⟩, fun hn => absurd hro hn⟩)
              clear hro hz h
              go_wp2_with fail
              go_ret2
              exact ⟨HE.out, hb⟩
    · have hn : ¬ RestOk t l := fun h => ht1 h.d1
      have HN := hid (RestR.no (w := w) (w' := w) hn)
      clear hn hR
      go_enter Try.func19, Try.ntmps19
      go_wp2_with fail
      go_ret2
      exact ⟨HN.out, Below.refl _ _⟩
  · have hn : ¬ RestOk t l := fun h => ht0 h.d0
    have HN := hid (RestR.no (w := w) (w' := w) hn)
    clear hn hR
    go_enter Try.func19, Try.ntmps19
    go_wp2_with fail
    go_ret2
    exact ⟨HN.out, Below.refl _ _⟩

end Go.Proofs.Ytjlfhfhckomalaa
