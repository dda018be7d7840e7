/-
  PlanTwice: the walk.
-/
import Derived.Test.YtemhoaapapeilaaAs12
import Derived.Test.YtemhoaapapeilaaWa12
namespace Go.Proofs.Ytemhoaapapeilaa
open Go.RowKit Go.WideShapes Go.ChangeShapes Go.ChangeAt Go.Deep
set_option linter.unusedVariables false

theorem AsS.blk {w0 : World} {base : Nat} {nm : ByteArray} {P : Nat} {vS vB : Value} {Ls : List Stp} {Bs : List IRow} {ask : Int} {w : World} (h : AsS w0 base nm P vS vB Ls Bs ask w) : (∃ cs, Blk w P 75 cs) ∧ base ≤ P := by
  obtain ⟨vH, Hs, dn, a, b, c⟩ := h.ex
  exact ⟨⟨_, a.p⟩, a.lo⟩
/-- Two plans of one definition. -/
theorem two_rows {l : List Stp} {ds : List Nat} {L1 L2 : List Stp} {B1 B2 : List IRow} (h1 : PlG l ds L1 B1) (h2 : PlG l ds L2 B2) {k : Nat} (hk : k < L1.length) :
    rowAt B1 (k : Int) = rowAt B2 (k : Int) ∧ ∃ s A1 c1 A2 c2, s ∈ l ∧ stepAt L1 (k : Int) = twn s A1 c1 ∧ stepAt L2 (k : Int) = twn s A2 c2 := by
  have hd : ds[k]? = some (ds[k]'(by rw [← h1.ls]; exact hk)) := List.getElem?_eq_getElem _
  obtain ⟨b1, q1, r1⟩ := h1.row _ _ hd
  obtain ⟨b2, q2, r2⟩ := h2.row _ _ hd
  obtain ⟨s1, A1, c1, u1, v1⟩ := h1.step _ _ hd
  obtain ⟨s2, A2, c2, u2, v2⟩ := h2.step _ _ hd
  rw [u1] at u2
  injection u2 with u2
  subst u2
  refine ⟨?_, s1, A1, c1, A2, c2, List.mem_of_getElem? u1, stepAt_in v1, stepAt_in v2⟩
  rw [rowAt_in q1, rowAt_in q2]
  exact rise_ext r1.1 r2.1 (fun x => by rw [r1.2, r2.2])
/-- Step, and what step makes of it. -/
theorem AsS.stepk {w0 : World} {base : Nat} {nm : ByteArray} {P : Nat} {vS vB : Value} {Ls : List Stp} {Bs : List IRow} {ask : Int} {w : World} (h : AsS w0 base nm P vS vB Ls Bs ask w) {k : Int} {s : Stp} {A1 : Option Addr} {c1 : Nat} (hs : stepAt Ls k = twn s A1 c1) (hok : s.after.length * 16 ≤ 140737488355328) :
    Calls Try.prog 12 #[.pointer (some ⟨P, 0, none⟩), .int .i64 k] w fun e w' => ∃ A cap, e = .returned (.agg (enSt (twn s A cap)).toArray) ∧ OkSt w' (twn s A cap) ∧ Below w.heap.size w w' := by
  refine (h.step k).mono ?_
  rintro e w' ⟨A, cap, rfl, hO, hb⟩
  rw [hs] at hO ⊢
  exact ⟨A, cap, rfl, ⟨own_rd hO, hok⟩, hb⟩

set_option maxRecDepth 100000 in
set_option maxHeartbeats 64000000 in
theorem planTwice_walk (nm : ByteArray) (l : List Stp) (A : Option Addr) (cp : Nat) (w : World) (hR : Rd w A (l.flatMap enSt)) (hok : ∀ s ∈ l, OkSt w s) :
    Calls Try.prog 4 #[.agg #[.string nm, .slice A l.length cp]] w (Law w) := by
  have HOK := hid hok
  have HR := hid hR
  clear hok hR
  have hB0 := Blk.new w 24 #[.string nm, .slice A l.length cp]
  have hwa : Below w.heap.size w (w.alloc (.cells #[.string nm, .slice A l.length cp] 24)) := (Below.refl _ _).alloc (Nat.le_refl _) _
  obtain ⟨W, hW⟩ : ∃ W, W = w.alloc (.cells #[.string nm, .slice A l.length cp] 24) := ⟨_, rfl⟩
  obtain ⟨G, hG⟩ : ∃ G, G = w.heap.size := ⟨_, rfl⟩
  rw [← hW] at hB0 hwa
  rw [← hG] at hB0
  have HWG := hid (And.intro hW hG)
  have HB0 := hid (And.intro hB0 hwa)
  have d0 : W.cell? ⟨G, 0, none⟩ = some (.string nm) := hB0.cell 0
  have d1 : W.cell? ⟨G, 1, none⟩ = some (.slice A l.length cp) := hB0.cell 1
  have lG := hB0.lt
  clear hB0 hwa hW hG
  go_enter Try.func4, Try.ntmps4
  go_upto_region 1 with fail
  rw [← HWG.out.1, ← HWG.out.2]
  by_cases h60 : (60 : Int) < l.length
  · go_wp2_with fail
    refine (wakes12 W).mono ?_
    rintro e w2 ⟨rfl, hb⟩
    have HF := hid (bthen HB0.out.2 hb)
    clear hb d0 d1
    go_wp2_with fail
    go_ret
    exact ⟨rfl, HF.out⟩
  have hl : l.length ≤ 60 := by omega
  have KC := hid (compile_any nm l A cp W (HR.out.below HB0.out.2) (fun s hs => (HOK.out s hs).next HB0.out.2) (by omega))
  go_wp2_with fail
  refine KC.out.mono ?_
  rintro e w1 ⟨hb1, ⟨hc, rfl⟩ | ⟨hc, P, vS, vB, Ls, Bs, rfl, hp, hg⟩⟩
  · have HF := hid (bthen HB0.out.2 hb1)
    have HC := hid hc
    have KC2 := hid (compile_any nm l A cp w1 (HR.out.below HF.out) (fun s hs => (HOK.out s hs).next HF.out) (by omega))
    have e0 : w1.cell? ⟨G, 0, none⟩ = some (.string nm) := (HB0.out.1.next hb1).cell 0
    have e1 : w1.cell? ⟨G, 1, none⟩ = some (.slice A l.length cp) := (HB0.out.1.next hb1).cell 1
    have lG1 := (HB0.out.1.next hb1).lt
    clear hc hb1 d0 d1 lG KC
    go_wp2_with fail
    refine KC2.out.mono ?_
    rintro e w2 ⟨hb2, ⟨hc, rfl⟩ | ⟨hc, _⟩⟩
    · have HF := hid (bthen HF.out hb2)
      clear hc hb2 e0 e1 lG1 KC2
      generalize checkN l = c at HC ⊢
      have tc : (c != c) = false := by simp
      go_wp2_with fail
      refine (wakes12 w2).mono ?_
      rintro e w3 ⟨rfl, hb3⟩
      have HF := hid (bthen HF.out hb3)
      clear hb3
      go_wp2_with fail
      refine (len_nil w3).mono ?_
      rintro e w4 ⟨rfl, rfl⟩
      go_wp2_with fail
      go_loopw [39] (fun i wr => i = .int .i64 0 ∧ wr = w4) (fun i _ => 0)
      case atStart => exact ⟨rfl, rfl⟩
      case round =>
        obtain ⟨rfl, rfl⟩ := hrel
        go_wp2_with fail
        refine (len_nil wr).mono ?_
        rintro e w5 ⟨rfl, rfl⟩
        go_wp2_with fail
        refine (len_nil w5).mono ?_
        rintro e w6 ⟨rfl, rfl⟩
        go_wp2_with fail
        refine (asked_nil w6).mono ?_
        rintro e w7 ⟨rfl, rfl⟩
        go_wp2_with fail
        refine (len_nil w7).mono ?_
        rintro e w8 ⟨rfl, rfl⟩
        go_wp2_with fail
        refine (asked_nil w8).mono ?_
        rintro e w9 ⟨rfl, rfl⟩
        go_wp2_with fail
        go_ret
        exact ⟨rfl, HF.out⟩
    · exact absurd hc HC.out
  have HC := hid hc
  have HGG := hid hg
  obtain ⟨hS, hLl⟩ := made_as (w0 := w) hc hp hg (by omega) (fun s hs => (HOK.out s hs).len) (bthen HB0.out.2 hb1) HB0.out.2.size
  have HS := hid hS
  have HLl := hid hLl
  have HPL := hid hp.p.lt
  have HF := hid (bthen HB0.out.2 hb1)
  have e0 : w1.cell? ⟨G, 0, none⟩ = some (.string nm) := (HB0.out.1.next hb1).cell 0
  have e1 : w1.cell? ⟨G, 1, none⟩ = some (.slice A l.length cp) := (HB0.out.1.next hb1).cell 1
  have lG1 := (HB0.out.1.next hb1).lt
  have KC2 := hid (compile_any nm l A cp w1 (HR.out.below HF.out) (fun s hs => (HOK.out s hs).next HF.out) (by omega))
  clear hS hLl hp hg hb1 hc d0 d1 lG KC h60
  go_wp2_with fail
  refine KC2.out.mono ?_
  rintro e w2 ⟨hb2, ⟨hc, rfl⟩ | ⟨hc, P2, vS2, vB2, Ls2, Bs2, rfl, hp2, hg2⟩⟩
  · exact absurd HC.out hc
  obtain ⟨hS2, hLl2⟩ := made_as (w0 := w) hc hp2 hg2 (by omega) (fun s hs => (HOK.out s hs).len) (bthen HF.out hb2) HF.out.size
  have HG2 := hid hg2
  have HSS := hid (And.intro (HS.out.next hb2) hS2)
  have HPP := hid (show P2 ≠ P from by have := HPL.out; have := hp2.lo; omega)
  have HLl2 := hid hLl2
  clear hS2 hLl2 hp2 hg2 hb2 hc e0 e1 lG1 KC2 HS HF
  go_wp2_with fail
  refine (wakes12 w2).mono ?_
  rintro e w3 ⟨rfl, hb3⟩
  have HSS := hid (And.intro (HSS.out.1.next hb3) (HSS.out.2.next hb3))
  have KL := hid HSS.out.1.len
  clear hb3
  go_wp2_with fail
  refine KL.out.mono ?_
  rintro e w4 ⟨rfl, rfl⟩
  clear KL
  have HLT := hid (And.intro HLl.out HLl2.out)
  obtain ⟨n, hn⟩ : ∃ n, n = Ls.length := ⟨_, rfl⟩
  have HN := hid hn
  have hnb : n ≤ 60 := by rw [hn, HLl.out]; exact hl
  rw [← hn]
  clear hn HLl HLl2
  obtain ⟨b1, hbb1⟩ : ∃ b, b = W.heap.size := ⟨_, rfl⟩
  obtain ⟨b2, hbb2⟩ : ∃ b, b = w1.heap.size := ⟨_, rfl⟩
  rw [← hbb1, ← hbb2] at HSS
  clear hbb1 hbb2
  go_wp2_with fail
  go_loopw [39] (fun i wr => ∃ k : Nat, k ≤ n ∧ i = .int .i64 k ∧ Hid (AsS w b1 nm P vS vB Ls Bs (k : Int) wr ∧ AsS w b2 nm P2 vS2 vB2 Ls2 Bs2 0 wr)) (fun i _ => n - nOf i)
  case atStart => exact ⟨0, Nat.zero_le _, rfl, HSS⟩
  case round =>
    clear HSS
    obtain ⟨k, hk, rfl, HS⟩ := hrel
    by_cases hlt : k < n
    · obtain ⟨hrw, s, A1, c1, A2, c2, hsl, hs1, hs2⟩ := two_rows HGG.out HG2.out (k := k) (by rw [← HN.out]; exact hlt)
      have hlen := (HOK.out s hsl).len
      have KS1 := hid (HS.out.1.stepk hs1 hlen)
      have HS1 := hid hs1
      have HS2 := hid hs2
      have HRW := hid hrw
      have HLN := hid hlen
      clear hs1 hs2 hrw hsl hlen
      go_wp2_with fail
      refine KS1.out.mono ?_
      rintro e w5 ⟨A5, c5, rfl, hok5, hb5⟩
      have H5 := hid (And.intro hok5 hb5)
      clear hok5 hb5 KS1
      go_wp2_with fail
      refine (rstep_any _ w5 H5.out.1).mono ?_
      rintro e w6 ⟨A6, c6, rfl, hR6, hb6⟩
      have H6 := hid (And.intro hR6 (bthen H5.out.2 hb6))
      have KS2 := hid ((HS.out.2.next H6.out.2).stepk HS2.out HLN.out)
      clear hR6 hb6 H5
      go_wp2_with fail
      refine KS2.out.mono ?_
      rintro e w7 ⟨A7, c7, rfl, hok7, hb7⟩
      have H7 := hid (And.intro hok7 (And.intro (H6.out.1.below hb7) (bthen H6.out.2 hb7)))
      clear hok7 hb7 KS2 H6
      go_wp2_with fail
      refine (rstep_any _ w7 H7.out.1).mono ?_
      rintro e w8 ⟨A8, c8, rfl, hR8, hb8⟩
      have H8 := hid (And.intro hR8 (And.intro (H7.out.2.1.below hb8) (bthen H7.out.2.2 hb8)))
      clear hR8 hb8 H7
      have KE := hid (steps_same s A6 A8 c6 c8 w8 H8.out.2.1 H8.out.1 (by have := HLN.out; omega))
      go_wp2_with fail
      refine KE.out.mono ?_
      rintro e w9 ⟨rfl, hb9⟩
      have H9 := hid (bthen H8.out.2.2 hb9)
      clear hb9 H8 KE
      have KB1 := hid ((HS.out.1.next H9.out).before (k : Int))
      go_wp2_with fail
      refine KB1.out.mono ?_
      rintro e wa ⟨Aa, ca, rfl, hOa, hba⟩
      have Ha := hid (And.intro (own_rd hOa) (bthen H9.out hba))
      clear hOa hba H9 KB1
      have KB2 := hid ((HS.out.2.next Ha.out.2).before (k : Int))
      go_wp2_with fail
      refine KB2.out.mono ?_
      rintro e wb ⟨Ab, cb, rfl, hOb, hbb⟩
      have Hb := hid (And.intro (Ha.out.1.below hbb) (And.intro (own_rd hOb) (bthen Ha.out.2 hbb)))
      clear hOb hbb Ha KB2
      have KI := hid (ints12_any (rowAt Bs (k : Int)) (rowAt Bs2 (k : Int)) Aa Ab ca cb wb Hb.out.1 Hb.out.2.1 (by
        obtain ⟨vH, Hs, dn, a, b, c⟩ := HS.out.1.ex
        have hkb : k < Bs.length := by rw [HS.out.1.rows.len, ← HN.out]; exact hlt
        rw [rowAt_in (List.getElem?_eq_getElem hkb)]
        have h1 := rise_len (HS.out.1.rows.up _ (List.getElem_mem hkb)) (HS.out.1.rows.lt _ (List.getElem_mem hkb))
        have := HS.out.1.rows.n
        omega))
      rw [show decide (rowAt Bs (k : Int) = rowAt Bs2 (k : Int)) = true from decide_eq_true HRW.out] at KI
      go_wp2_with fail
      refine KI.out.mono ?_
      rintro e wd ⟨rfl, hbd⟩
      have Hd := hid (bthen Hb.out.2.2 hbd)
      clear hbd Hb KI
      have KH := hid ((HS.out.1.next Hd.out).behind (k : Int) ⟨by omega, by omega⟩)
      go_wp2_with fail
      refine KH.out.mono ?_
      rintro e wf ⟨Af, cf, rfl, _, hSf, hTf⟩
      obtain ⟨⟨cs, hbk⟩, hlo⟩ := (HS.out.1.next Hd.out).blk
      have hqf := (HS.out.2.next Hd.out).far hTf (fun e => HPP.out e.symm) hbk (Nat.le_trans HS.out.1.lo hlo)
      have HSF := hid (And.intro hSf hqf)
      clear hSf hqf hTf hbk hlo Hd KH HS
      go_wp2_with fail
      go_roundw
      case rel => exact ⟨k + 1, by omega, by go_num, hid ⟨by have := HSF.out.1; push_cast; exact this, HSF.out.2⟩⟩
      case measure => simp [nOf]; omega
    · have hk' : k = n := by omega
      subst hk'
      have KL1 := hid HS.out.1.len
      have KL2 := hid HS.out.2.len
      have KA1 := hid HS.out.1.asked
      have KA2 := hid HS.out.2.asked
      rw [← HN.out] at KL1
      rw [show Ls2.length = k from by rw [HLT.out.2, ← HLT.out.1, ← HN.out]] at KL2
      have tk : ((k : Int) == (k : Int)) = true := by simp
      go_wp2_with fail
      refine KL1.out.mono ?_
      rintro e w5 ⟨rfl, rfl⟩
      go_wp2_with fail
      refine KL2.out.mono ?_
      rintro e w6 ⟨rfl, rfl⟩
      go_wp2_with fail
      refine KA1.out.mono ?_
      rintro e w7 ⟨rfl, rfl⟩
      go_wp2_with fail
      refine KL1.out.mono ?_
      rintro e w8 ⟨rfl, rfl⟩
      go_wp2_with fail
      refine KA2.out.mono ?_
      rintro e w9 ⟨rfl, rfl⟩
      go_wp2_with fail
      go_ret
      exact ⟨rfl, HS.out.1.bel⟩

end Go.Proofs.Ytemhoaapapeilaa
