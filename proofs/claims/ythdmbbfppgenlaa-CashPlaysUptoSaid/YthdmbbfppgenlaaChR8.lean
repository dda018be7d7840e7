/-
  The document's book of money: Balance.
-/
import Derived.Test.YthdmbbfppgenlaaChR5
import Derived.Deep.CutBlock
namespace Go.Proofs.Ythdmbbfppgenlaa
open Go.RowKit Go.WideShapes Go.ChangeShapes Go.ChangeAt Go.Deep
set_option linter.unusedVariables false

/-- What is on an account, of a customer or (0) of all. -/
def balR (L : List Ca) (c k : Int) : Int := (L.map fun a => if c = 0 ∨ a.c = c then con a k else 0).sum
def wtR (L : List Ca) : Int := (L.map wt).sum
theorem balR_snoc (L : List Ca) (a : Ca) (c k : Int) : balR (L ++ [a]) c k = balR L c k + if c = 0 ∨ a.c = c then con a k else 0 := by unfold balR; rw [List.map_append, List.sum_append]; simp
theorem FitC.con_bd {a : Ca} (h : FitC a) (k : Int) : -(wt a) ≤ con a k ∧ con a k ≤ wt a := by
  have := h.p0; have := h.p1; have := h.w0; have := h.w1; have := h.n0; have := h.t0; have := h.d0
  unfold con wt openC
  by_cases hs : a.st = 1
  · simp only [hs, if_true]
    split <;> split <;> split <;> split <;> split <;> split <;> omega
  · simp only [hs, if_false]
    split <;> split <;> split <;> split <;> split <;> split <;> omega
theorem balR_bd {L : List Ca} (h : ∀ a ∈ L, FitC a) (c k : Int) : -(wtR L) ≤ balR L c k ∧ balR L c k ≤ wtR L := by
  induction L with
  | nil => simp [balR, wtR]
  | cons a L ih =>
    have h1 := (h a (by simp)).con_bd k
    have h2 := (h a (by simp)).wt0
    have h3 := ih (fun b hb => h b (by simp [hb]))
    unfold balR wtR at *
    simp only [List.map_cons, List.sum_cons]
    split <;> omega
theorem wtR_take {L : List Ca} (h : ∀ a ∈ L, FitC a) (k : Nat) : wtR (L.take k) ≤ wtR L := by
  have e : wtR L = wtR (L.take k) + wtR (L.drop k) := by unfold wtR; rw [← List.sum_append, ← List.map_append, List.take_append_drop]
  have : 0 ≤ wtR (L.drop k) := sum_nonneg_sub _ _ (fun a ha => (h a (List.mem_of_mem_drop ha)).wt0.1)
  omega
section
variable {base R cap : Nat} {A : Option Addr} {L : List Ca} {d d' : Int} {w w' w4 wr : World} {F : Int → Option Ca}
set_option maxRecDepth 100000 in
set_option maxHeartbeats 16000000 in
theorem rbal_any (h : IsRf base w R A cap L d) (hf : ∀ a ∈ L, FitC a) (hw : wtR L ≤ 1152921504606846976) (hl : L.length ≤ 140737488355328) (c k : Int) :
    Calls Try.prog 60 #[.pointer (some ⟨R, 0, none⟩), .int .i64 c, .int .i64 k] w fun e w' => e = .returned (.int .i64 (balR L c k)) ∧ Below w.heap.size w w' := by
  go_enter Try.func60, Try.ntmps60
  go_wp2_with fail
  go_loopw [7, 8] (fun s i wr => ∃ j : Nat, j ≤ L.length ∧ i = .int .i64 j ∧ s = .int .i64 (balR (L.take j) c k) ∧ Below w.heap.size w wr) (fun _ i _ => L.length - nOf i)
  case atStart => exact ⟨0, Nat.zero_le _, rfl, rfl, Below.refl _ _⟩
  case round =>
    obtain ⟨j, hj, rfl, rfl, hb⟩ := hrel
    have h1 := h.next hb
    have c0 : wr.cell? ⟨R, 0, none⟩ = some (.slice A L.length cap) := h1.blk.cell 0
    by_cases hlt : j < L.length
    · obtain ⟨y, hy⟩ : ∃ y, L[j]? = some y := ⟨L[j], List.getElem?_eq_getElem hlt⟩
      obtain ⟨g, hA, hbg, hpr⟩ := h1.elem hy
      subst hA
      have hfy := hf y (List.mem_of_getElem? hy)
      have HSN := hid (show balR (L.take (j + 1)) c k = balR (L.take j) c k + (if c = 0 ∨ y.c = c then con y k else 0) from by rw [takeE_snoc hy, balR_snoc])
      have hbd := balR_bd (fun a ha => hf a (List.mem_of_mem_take ha)) c k (L := L.take j)
      have hbd2 := balR_bd (fun a ha => hf a (List.mem_of_mem_take ha)) c k (L := L.take (j + 1))
      have hwt := wtR_take hf j
      have hwt2 := wtR_take hf (j + 1)
      obtain ⟨n, hn⟩ : ∃ n, n = balR (L.take j) c k := ⟨_, rfl⟩
      obtain ⟨n2, hn2⟩ : ∃ n2, n2 = balR (L.take (j + 1)) c k := ⟨_, rfl⟩
      rw [← hn, ← hn2] at HSN
      rw [← hn] at hbd ⊢
      rw [← hn2] at hbd2
      have HN2 := hid hn2
      have HBD := hid (show (-1152921504606846976 ≤ n ∧ n ≤ 1152921504606846976) ∧ -1152921504606846976 ≤ n2 ∧ n2 ≤ 1152921504606846976 from by omega)
      have HF := hid hfy
      have KO := hid (fun w => ropen_any y w hfy.small)
      obtain ⟨yo, yc, yst, ylv, ynet, ytax, yap, ywr, ydep⟩ := y
      have p0 : wr.cell? ⟨g, j * 9, none⟩ = some (.int .i64 yo) := hpr.2 0 _ rfl
      have p1 : wr.cell? ⟨g, j * 9 + 1, none⟩ = some (.int .i64 yc) := hpr.2 1 _ rfl
      have p2 : wr.cell? ⟨g, j * 9 + 2, none⟩ = some (.int .i64 yst) := hpr.2 2 _ rfl
      have p3 : wr.cell? ⟨g, j * 9 + 3, none⟩ = some (.int .i64 ylv) := hpr.2 3 _ rfl
      have p4 : wr.cell? ⟨g, j * 9 + 4, none⟩ = some (.int .i64 ynet) := hpr.2 4 _ rfl
      have p5 : wr.cell? ⟨g, j * 9 + 5, none⟩ = some (.int .i64 ytax) := hpr.2 5 _ rfl
      have p6 : wr.cell? ⟨g, j * 9 + 6, none⟩ = some (.int .i64 yap) := hpr.2 6 _ rfl
      have p7 : wr.cell? ⟨g, j * 9 + 7, none⟩ = some (.int .i64 ywr) := hpr.2 7 _ rfl
      have p8 : wr.cell? ⟨g, j * 9 + 8, none⟩ = some (.int .i64 ydep) := hpr.2 8 _ rfl
      have lR := h1.blk.lt
      have lg := hpr.1
      have HB := hid hb
      clear hfy hbd hbd2 hwt hwt2 hn hn2 hy hpr h1 hb hf hw
      simp only [celC] at KO
      obtain ⟨z, hz⟩ : ∃ z, z = openC (⟨yo, yc, yst, ylv, ynet, ytax, yap, ywr, ydep⟩ : Ca) := ⟨_, rfl⟩
      have HZ := hid hz
      have HFB := hid (show -1152921504606846976 ≤ ydep ∧ ydep ≤ 1152921504606846976 ∧ -1152921504606846976 ≤ yap ∧ yap ≤ 1152921504606846976 ∧ (-1152921504606846976 ≤ ynet ∧ ynet ≤ 1152921504606846976) ∧ (-1152921504606846976 ≤ ytax ∧ ytax ≤ 1152921504606846976) ∧ (-1152921504606846976 ≤ ywr ∧ ywr ≤ 1152921504606846976) ∧ -1152921504606846976 ≤ z ∧ z ≤ 1152921504606846976 ∧ True from by
        have h1 := HF.out.small
        have h2 := HF.out.d0
        have h3 := HF.out.d1
        have h4 := HF.out.open0
        rw [← hz] at h4
        exact ⟨by simp only at h2; omega, by simp only at h3; omega, h1.p.1, h1.p.2, h1.n, h1.t, h1.w, by omega, by omega, trivial⟩)
      rw [← hz] at KO
      have HG := hid (show Blk (wr.alloc (.cells #[.int .i64 yo, .int .i64 yc, .int .i64 yst, .int .i64 ylv, .int .i64 ynet, .int .i64 ytax, .int .i64 yap, .int .i64 ywr, .int .i64 ydep] 109)) wr.heap.size 109 #[.int .i64 yo, .int .i64 yc, .int .i64 yst, .int .i64 ylv, .int .i64 ynet, .int .i64 ytax, .int .i64 yap, .int .i64 ywr, .int .i64 ydep] ∧ Below w.heap.size w (wr.alloc (.cells #[.int .i64 yo, .int .i64 yc, .int .i64 yst, .int .i64 ylv, .int .i64 ynet, .int .i64 ytax, .int .i64 yap, .int .i64 ywr, .int .i64 ydep] 109)) from ⟨Blk.new _ _ _, HB.out.alloc HB.out.size _⟩)
      clear hz
      go_upto_region 6 with fail
      clear c0 lR lg p0 p1 p2 p3 p4 p5 p6 p7 p8
      obtain ⟨wz, hwz⟩ : ∃ wz, wz = wr.alloc (.cells #[.int .i64 yo, .int .i64 yc, .int .i64 yst, .int .i64 ylv, .int .i64 ynet, .int .i64 ytax, .int .i64 yap, .int .i64 ywr, .int .i64 ydep] 109) := ⟨_, rfl⟩
      obtain ⟨G, hG⟩ : ∃ G, G = wr.heap.size := ⟨_, rfl⟩
      obtain ⟨hGB, hbz⟩ := HG.out
      rw [← hwz] at hGB hbz ⊢
      rw [← hG] at hGB ⊢
      clear HG hwz hG HB
      have g0 : wz.cell? ⟨G, 0, none⟩ = some (.int .i64 yo) := hGB.cell 0
      have g1 : wz.cell? ⟨G, 1, none⟩ = some (.int .i64 yc) := hGB.cell 1
      have g2 : wz.cell? ⟨G, 2, none⟩ = some (.int .i64 yst) := hGB.cell 2
      have g3 : wz.cell? ⟨G, 3, none⟩ = some (.int .i64 ylv) := hGB.cell 3
      have g4 : wz.cell? ⟨G, 4, none⟩ = some (.int .i64 ynet) := hGB.cell 4
      have g5 : wz.cell? ⟨G, 5, none⟩ = some (.int .i64 ytax) := hGB.cell 5
      have g6 : wz.cell? ⟨G, 6, none⟩ = some (.int .i64 yap) := hGB.cell 6
      have g7 : wz.cell? ⟨G, 7, none⟩ = some (.int .i64 ywr) := hGB.cell 7
      have g8 : wz.cell? ⟨G, 8, none⟩ = some (.int .i64 ydep) := hGB.cell 8
      have lG := hGB.lt
      have HGZ := hid (And.intro hGB hbz)
      clear hGB hbz
      go_cut [35] (fun v wx => v = .bool (!decide (c = 0 ∨ yc = c)) ∧ wx = wz)
      case first =>
        clear HSN HN2 HBD HF HFB HZ KO HGZ g0 g2 g3 g4 g5 g6 g7 g8
        by_cases hc0 : c = 0
        · subst hc0
          go_wp2_with fail
          go_meet
          exact ⟨by simp, rfl⟩
        · have tc0 : (c != 0) = true := by simpa using hc0
          have HC0 := hid hc0
          clear hc0
          by_cases hcc : yc = c
          · have tc1 : (yc != c) = false := by simp [hcc]
            have HCC := hid hcc
            clear hcc
            go_wp2_with fail
            go_meet
            exact ⟨by simp [HCC.out], rfl⟩
          · have tc1 : (yc != c) = true := by simpa using hcc
            have HCC := hid hcc
            clear hcc
            go_wp2_with fail
            go_meet
            exact ⟨by simp [HCC.out, HC0.out], rfl⟩
      case rest =>
        obtain ⟨rfl, hwx⟩ := hcut
        rw [hwx]
        clear hwx
        by_cases hcc : c = 0 ∨ yc = c
        · have td : decide (c = 0 ∨ yc = c) = true := decide_eq_true hcc
          rw [td]
          rw [if_pos hcc] at HSN
          clear hcc td
          go_upto_if 38 with fail
          go_cut [10] (fun v wx => v = .int .i64 (if yst = 1 then 1 else 0) ∧ wx = wz)
          case first =>
            clear HSN HN2 HBD HF HFB HZ KO HGZ g0 g1 g3 g4 g5 g6 g7 g8
            by_cases hs : yst = 1
            · have ts : (yst == 1) = true := by simp [hs]
              rw [ts]
              have HS := hid hs
              clear hs
              go_wp2_with fail
              go_meet
              exact ⟨by rw [if_pos HS.out], rfl⟩
            · have ts : (yst == 1) = false := by simp [hs]
              rw [ts]
              have HS := hid hs
              clear hs
              go_wp2_with fail
              go_meet
              exact ⟨by rw [if_neg HS.out], rfl⟩
          case rest =>
            obtain ⟨rfl, hwx⟩ := hcut
            rw [hwx]
            clear hwx
            obtain ⟨on, hon⟩ : ∃ on : Int, on = if yst = 1 then 1 else 0 := ⟨_, rfl⟩
            rw [← hon]
            have HON := hid hon
            clear hon
            go_wp2_with fail
            refine (KO.out _).mono ?_
            rintro e w6 ⟨rfl, hb6⟩
            obtain ⟨hGB, hbz⟩ := HGZ.out
            replace hGB := hGB.next hb6
            replace hbz := bthen hbz hb6
            clear KO HGZ hb6 lG g0 g1 g2 g3 g4 g5 g6 g7 g8
            have g0 : w6.cell? ⟨G, 0, none⟩ = some (.int .i64 yo) := hGB.cell 0
            have g1 : w6.cell? ⟨G, 1, none⟩ = some (.int .i64 yc) := hGB.cell 1
            have g2 : w6.cell? ⟨G, 2, none⟩ = some (.int .i64 yst) := hGB.cell 2
            have g3 : w6.cell? ⟨G, 3, none⟩ = some (.int .i64 ylv) := hGB.cell 3
            have g4 : w6.cell? ⟨G, 4, none⟩ = some (.int .i64 ynet) := hGB.cell 4
            have g5 : w6.cell? ⟨G, 5, none⟩ = some (.int .i64 ytax) := hGB.cell 5
            have g6 : w6.cell? ⟨G, 6, none⟩ = some (.int .i64 yap) := hGB.cell 6
            have g7 : w6.cell? ⟨G, 7, none⟩ = some (.int .i64 ywr) := hGB.cell 7
            have g8 : w6.cell? ⟨G, 8, none⟩ = some (.int .i64 ydep) := hGB.cell 8
            have lG := hGB.lt
            have HBZ := hid hbz
            clear hGB hbz
            clear HF g0 g1 g2 g3
            by_cases hs : yst = 1
            · obtain rfl : on = 1 := by rw [HON.out, if_pos hs]
              clear HON
              by_cases hkk : k = 0
              · have hcon := HSN.out
                subst hkk
                have hv : n2 = n + (ydep + yap) := by rw [hcon]; simp [con, hs]
                clear hcon
                have HV := hid hv
                clear hv hs
                obtain ⟨⟨a1, a2⟩, a3, a4⟩ := HBD.out
                obtain ⟨d1, d2, d3, d4, ⟨d5, d6⟩, ⟨d7, d8⟩, ⟨d9, d10⟩, d11, d12, -⟩ := HFB.out
                go_wp2_with fail
                go_roundw
                case rel => exact ⟨j + 1, by omega, by go_num, by rw [← HN2.out, HV.out]; try (first | rfl | (congr 1; omega)), HBZ.out⟩
                case measure => simp [nOf]; omega
              · have hk0 : ¬ k = 0 := hkk
                clear hkk
                by_cases hkk : k = 1
                · have hcon := HSN.out
                  clear hk0
                  subst hkk
                  have hv : n2 = n + (z) := by rw [hcon]; rw [HZ.out]; simp [con]
                  clear hcon
                  have HV := hid hv
                  clear hv hs
                  obtain ⟨⟨a1, a2⟩, a3, a4⟩ := HBD.out
                  obtain ⟨d1, d2, d3, d4, ⟨d5, d6⟩, ⟨d7, d8⟩, ⟨d9, d10⟩, d11, d12, -⟩ := HFB.out
                  go_wp2_with fail
                  go_roundw
                  case rel => exact ⟨j + 1, by omega, by go_num, by rw [← HN2.out, HV.out]; try (first | rfl | (congr 1; omega)), HBZ.out⟩
                  case measure => simp [nOf]; omega
                · have hk1 : ¬ k = 1 := hkk
                  clear hkk
                  by_cases hkk : k = 2
                  · have hcon := HSN.out
                    clear hk0
                    clear hk1
                    subst hkk
                    have hv : n2 = n + (-ynet) := by rw [hcon]; simp [con, hs]
                    clear hcon
                    have HV := hid hv
                    clear hv hs
                    obtain ⟨⟨a1, a2⟩, a3, a4⟩ := HBD.out
                    obtain ⟨d1, d2, d3, d4, ⟨d5, d6⟩, ⟨d7, d8⟩, ⟨d9, d10⟩, d11, d12, -⟩ := HFB.out
                    go_wp2_with fail
                    go_roundw
                    case rel => exact ⟨j + 1, by omega, by go_num, by rw [← HN2.out, HV.out]; try (first | rfl | (congr 1; omega)), HBZ.out⟩
                    case measure => simp [nOf]; omega
                  · have hk2 : ¬ k = 2 := hkk
                    clear hkk
                    by_cases hkk : k = 3
                    · have hcon := HSN.out
                      clear hk0
                      clear hk1
                      clear hk2
                      subst hkk
                      have hv : n2 = n + (-ytax) := by rw [hcon]; simp [con, hs]
                      clear hcon
                      have HV := hid hv
                      clear hv hs
                      obtain ⟨⟨a1, a2⟩, a3, a4⟩ := HBD.out
                      obtain ⟨d1, d2, d3, d4, ⟨d5, d6⟩, ⟨d7, d8⟩, ⟨d9, d10⟩, d11, d12, -⟩ := HFB.out
                      go_wp2_with fail
                      go_roundw
                      case rel => exact ⟨j + 1, by omega, by go_num, by rw [← HN2.out, HV.out]; try (first | rfl | (congr 1; omega)), HBZ.out⟩
                      case measure => simp [nOf]; omega
                    · have hk3 : ¬ k = 3 := hkk
                      clear hkk
                      by_cases hkk : k = 4
                      · have hcon := HSN.out
                        clear hk0
                        clear hk1
                        clear hk2
                        clear hk3
                        subst hkk
                        have hv : n2 = n + (-ydep) := by rw [hcon]; simp [con]
                        clear hcon
                        have HV := hid hv
                        clear hv hs
                        obtain ⟨⟨a1, a2⟩, a3, a4⟩ := HBD.out
                        obtain ⟨d1, d2, d3, d4, ⟨d5, d6⟩, ⟨d7, d8⟩, ⟨d9, d10⟩, d11, d12, -⟩ := HFB.out
                        go_wp2_with fail
                        go_roundw
                        case rel => exact ⟨j + 1, by omega, by go_num, by rw [← HN2.out, HV.out]; try (first | rfl | (congr 1; omega)), HBZ.out⟩
                        case measure => simp [nOf]; omega
                      · have hk4 : ¬ k = 4 := hkk
                        clear hkk
                        by_cases hkk : k = 5
                        · have hcon := HSN.out
                          clear hk0
                          clear hk1
                          clear hk2
                          clear hk3
                          clear hk4
                          subst hkk
                          have hv : n2 = n + (ywr) := by rw [hcon]; simp [con, hs]
                          clear hcon
                          have HV := hid hv
                          clear hv hs
                          obtain ⟨⟨a1, a2⟩, a3, a4⟩ := HBD.out
                          obtain ⟨d1, d2, d3, d4, ⟨d5, d6⟩, ⟨d7, d8⟩, ⟨d9, d10⟩, d11, d12, -⟩ := HFB.out
                          go_wp2_with fail
                          go_roundw
                          case rel => exact ⟨j + 1, by omega, by go_num, by rw [← HN2.out, HV.out]; try (first | rfl | (congr 1; omega)), HBZ.out⟩
                          case measure => simp [nOf]; omega
                        · have hk5 : ¬ k = 5 := hkk
                          clear hkk
                          have hcon := HSN.out
                          have u0 : (k == 0) = false := by simp; omega
                          have u1 : (k == 1) = false := by simp; omega
                          have u2 : (k == 2) = false := by simp; omega
                          have u3 : (k == 3) = false := by simp; omega
                          have u4 : (k == 4) = false := by simp; omega
                          have u5 : (k == 5) = false := by simp; omega
                          have hv : n2 = n := by rw [hcon]; unfold con; simp only; (repeat rw [if_neg (by omega)]); omega
                          clear hk0 hk1 hk2 hk3 hk4 hk5
                          clear hcon
                          have HV := hid hv
                          clear hv hs
                          obtain ⟨⟨a1, a2⟩, a3, a4⟩ := HBD.out
                          obtain ⟨d1, d2, d3, d4, ⟨d5, d6⟩, ⟨d7, d8⟩, ⟨d9, d10⟩, d11, d12, -⟩ := HFB.out
                          go_wp2_with fail
                          go_roundw
                          case rel => exact ⟨j + 1, by omega, by go_num, by rw [← HN2.out, HV.out]; try (first | rfl | (congr 1; omega)), HBZ.out⟩
                          case measure => simp [nOf]; omega
            · obtain rfl : on = 0 := by rw [HON.out, if_neg hs]
              clear HON
              by_cases hkk : k = 0
              · have hcon := HSN.out
                subst hkk
                have hv : n2 = n + (ydep + 0) := by rw [hcon]; simp [con, hs]
                clear hcon
                have HV := hid hv
                clear hv hs
                obtain ⟨⟨a1, a2⟩, a3, a4⟩ := HBD.out
                obtain ⟨d1, d2, d3, d4, ⟨d5, d6⟩, ⟨d7, d8⟩, ⟨d9, d10⟩, d11, d12, -⟩ := HFB.out
                go_wp2_with fail
                go_roundw
                case rel => exact ⟨j + 1, by omega, by go_num, by rw [← HN2.out, HV.out]; try (first | rfl | (congr 1; omega)), HBZ.out⟩
                case measure => simp [nOf]; omega
              · have hk0 : ¬ k = 0 := hkk
                clear hkk
                by_cases hkk : k = 1
                · have hcon := HSN.out
                  clear hk0
                  subst hkk
                  have hv : n2 = n + (z) := by rw [hcon]; rw [HZ.out]; simp [con]
                  clear hcon
                  have HV := hid hv
                  clear hv hs
                  obtain ⟨⟨a1, a2⟩, a3, a4⟩ := HBD.out
                  obtain ⟨d1, d2, d3, d4, ⟨d5, d6⟩, ⟨d7, d8⟩, ⟨d9, d10⟩, d11, d12, -⟩ := HFB.out
                  go_wp2_with fail
                  go_roundw
                  case rel => exact ⟨j + 1, by omega, by go_num, by rw [← HN2.out, HV.out]; try (first | rfl | (congr 1; omega)), HBZ.out⟩
                  case measure => simp [nOf]; omega
                · have hk1 : ¬ k = 1 := hkk
                  clear hkk
                  by_cases hkk : k = 2
                  · have hcon := HSN.out
                    clear hk0
                    clear hk1
                    subst hkk
                    have hv : n2 = n + (0) := by rw [hcon]; simp [con, hs]
                    clear hcon
                    have HV := hid hv
                    clear hv hs
                    obtain ⟨⟨a1, a2⟩, a3, a4⟩ := HBD.out
                    obtain ⟨d1, d2, d3, d4, ⟨d5, d6⟩, ⟨d7, d8⟩, ⟨d9, d10⟩, d11, d12, -⟩ := HFB.out
                    go_wp2_with fail
                    go_roundw
                    case rel => exact ⟨j + 1, by omega, by go_num, by rw [← HN2.out, HV.out]; try (first | rfl | (congr 1; omega)), HBZ.out⟩
                    case measure => simp [nOf]; omega
                  · have hk2 : ¬ k = 2 := hkk
                    clear hkk
                    by_cases hkk : k = 3
                    · have hcon := HSN.out
                      clear hk0
                      clear hk1
                      clear hk2
                      subst hkk
                      have hv : n2 = n + (0) := by rw [hcon]; simp [con, hs]
                      clear hcon
                      have HV := hid hv
                      clear hv hs
                      obtain ⟨⟨a1, a2⟩, a3, a4⟩ := HBD.out
                      obtain ⟨d1, d2, d3, d4, ⟨d5, d6⟩, ⟨d7, d8⟩, ⟨d9, d10⟩, d11, d12, -⟩ := HFB.out
                      go_wp2_with fail
                      go_roundw
                      case rel => exact ⟨j + 1, by omega, by go_num, by rw [← HN2.out, HV.out]; try (first | rfl | (congr 1; omega)), HBZ.out⟩
                      case measure => simp [nOf]; omega
                    · have hk3 : ¬ k = 3 := hkk
                      clear hkk
                      by_cases hkk : k = 4
                      · have hcon := HSN.out
                        clear hk0
                        clear hk1
                        clear hk2
                        clear hk3
                        subst hkk
                        have hv : n2 = n + (-ydep) := by rw [hcon]; simp [con]
                        clear hcon
                        have HV := hid hv
                        clear hv hs
                        obtain ⟨⟨a1, a2⟩, a3, a4⟩ := HBD.out
                        obtain ⟨d1, d2, d3, d4, ⟨d5, d6⟩, ⟨d7, d8⟩, ⟨d9, d10⟩, d11, d12, -⟩ := HFB.out
                        go_wp2_with fail
                        go_roundw
                        case rel => exact ⟨j + 1, by omega, by go_num, by rw [← HN2.out, HV.out]; try (first | rfl | (congr 1; omega)), HBZ.out⟩
                        case measure => simp [nOf]; omega
                      · have hk4 : ¬ k = 4 := hkk
                        clear hkk
                        by_cases hkk : k = 5
                        · have hcon := HSN.out
                          clear hk0
                          clear hk1
                          clear hk2
                          clear hk3
                          clear hk4
                          subst hkk
                          have hv : n2 = n + (0) := by rw [hcon]; simp [con, hs]
                          clear hcon
                          have HV := hid hv
                          clear hv hs
                          obtain ⟨⟨a1, a2⟩, a3, a4⟩ := HBD.out
                          obtain ⟨d1, d2, d3, d4, ⟨d5, d6⟩, ⟨d7, d8⟩, ⟨d9, d10⟩, d11, d12, -⟩ := HFB.out
                          go_wp2_with fail
                          go_roundw
                          case rel => exact ⟨j + 1, by omega, by go_num, by rw [← HN2.out, HV.out]; try (first | rfl | (congr 1; omega)), HBZ.out⟩
                          case measure => simp [nOf]; omega
                        · have hk5 : ¬ k = 5 := hkk
                          clear hkk
                          have hcon := HSN.out
                          have u0 : (k == 0) = false := by simp; omega
                          have u1 : (k == 1) = false := by simp; omega
                          have u2 : (k == 2) = false := by simp; omega
                          have u3 : (k == 3) = false := by simp; omega
                          have u4 : (k == 4) = false := by simp; omega
                          have u5 : (k == 5) = false := by simp; omega
                          have hv : n2 = n := by rw [hcon]; unfold con; simp only; (repeat rw [if_neg (by omega)]); omega
                          clear hk0 hk1 hk2 hk3 hk4 hk5
                          clear hcon
                          have HV := hid hv
                          clear hv hs
                          obtain ⟨⟨a1, a2⟩, a3, a4⟩ := HBD.out
                          obtain ⟨d1, d2, d3, d4, ⟨d5, d6⟩, ⟨d7, d8⟩, ⟨d9, d10⟩, d11, d12, -⟩ := HFB.out
                          go_wp2_with fail
                          go_roundw
                          case rel => exact ⟨j + 1, by omega, by go_num, by rw [← HN2.out, HV.out]; try (first | rfl | (congr 1; omega)), HBZ.out⟩
                          case measure => simp [nOf]; omega
        · have td : decide (c = 0 ∨ yc = c) = false := decide_eq_false hcc
          rw [td]
          rw [if_neg hcc] at HSN
          have HV := hid (show n2 = n from by have := HSN.out; omega)
          clear hcc td HSN HBD HF HFB HZ KO g0 g1 g2 g3 g4 g5 g6 g7 g8 lG
          go_wp2_with fail
          go_roundw
          case rel => exact ⟨j + 1, by omega, by go_num, by rw [← HN2.out, HV.out], HGZ.out.2⟩
          case measure => simp [nOf]; omega
    · have hj' : j = L.length := by omega
      subst hj'
      rw [List.take_length]
      go_wp2_with fail
      go_ret
      exact ⟨rfl, hb⟩
end

end Go.Proofs.Ythdmbbfppgenlaa
