/-
  PlanNumbers: the walk.
-/
import Derived.Test.YtemhoaapapeilaaAs12
import Derived.Test.YtemhoaapapeilaaWa12
namespace Go.Proofs.Ytemhoaapapeilaa
open Go.RowKit Go.WideShapes Go.ChangeShapes Go.ChangeAt Go.Deep
set_option linter.unusedVariables false

abbrev zS : Stp := ⟨⟨#[]⟩, ⟨#[]⟩, ⟨#[]⟩, ⟨#[]⟩, false, 0, 0, 0, none, 0, []⟩
/-- step at a step without anything, and steps beside the literal. -/
theorem rzero_any (A : Option Addr) (cap : Nat) (w : World) : Calls Try.prog 16 #[.agg #[.string ⟨#[]⟩, .string ⟨#[]⟩, .string ⟨#[]⟩, .string ⟨#[]⟩, .bool false, .int .i64 0, .int .i64 0, .int .i64 0, .slice A 0 cap]] w fun e w' => ∃ A' cap', e = .returned (.agg #[.string ⟨#[]⟩, .string ⟨#[]⟩, .string ⟨#[]⟩, .string ⟨#[]⟩, .bool false, .int .i64 0, .int .i64 0, .int .i64 0, .slice A' 0 cap']) ∧ Below w.heap.size w w' := by
  refine (rstep_any (⟨⟨#[]⟩, ⟨#[]⟩, ⟨#[]⟩, ⟨#[]⟩, false, 0, 0, 0, A, cap, []⟩ : Stp) w ⟨.inl rfl, show 0 * 16 ≤ 140737488355328 by omega⟩).mono ?_
  rintro e w' ⟨A', cap', rfl, _, hb⟩
  exact ⟨A', cap', rfl, hb⟩
theorem szero_any (A B : Option Addr) (ca cb : Nat) (w : World) : Calls Try.prog 15 #[.agg #[.string ⟨#[]⟩, .string ⟨#[]⟩, .string ⟨#[]⟩, .string ⟨#[]⟩, .bool false, .int .i64 0, .int .i64 0, .int .i64 0, .slice A 0 ca], .agg #[.string ⟨#[]⟩, .string ⟨#[]⟩, .string ⟨#[]⟩, .string ⟨#[]⟩, .bool false, .int .i64 0, .int .i64 0, .int .i64 0, .slice B 0 cb]] w fun e w' => e = .returned (.bool true) ∧ Below w.heap.size w w' :=
  steps_same zS A B ca cb w (.inl rfl) (.inl rfl) (by decide)
theorem stzero_any (pv : Value) (n : Nat) (i : Int) (w : World) (KL : ∀ w2, Below w.heap.size w w2 → Calls Try.prog 11 #[pv] w2 fun e w' => e = .returned (.int .i64 (n : Int)) ∧ w' = w2) (hi : hasN n i = false) : Calls Try.prog 12 #[pv, .int .i64 i] w fun e w' => ∃ A' cap', e = .returned (.agg #[.string ⟨#[]⟩, .string ⟨#[]⟩, .string ⟨#[]⟩, .string ⟨#[]⟩, .bool false, .int .i64 0, .int .i64 0, .int .i64 0, .slice A' 0 cap']) ∧ Below w.heap.size w w' := by
  refine (step_out2 pv n i w KL hi).mono ?_
  rintro e w' ⟨A', cap', rfl, _, hb⟩
  exact ⟨A', cap', rfl, hb⟩

set_option maxRecDepth 100000 in
set_option maxHeartbeats 64000000 in
theorem planNumbers_walk (nm : ByteArray) (l : List Stp) (A : Option Addr) (cp : Nat) (ns : List Int) (nA : Option Addr) (nc : Nat) (w : World) (hR : Rd w A (l.flatMap enSt)) (hok : ∀ s ∈ l, OkSt w s) (hN : Rd w nA (ns.flatMap en1)) (hn : ns.length * 8 ≤ 140737488351232) :
    Calls Try.prog 8 #[.agg #[.string nm, .slice A l.length cp], .slice nA ns.length nc] w (Law w) := by
  have HOK := hid hok
  have HR := hid hR
  have HN := hid hN
  clear hok hR hN
  have hB0 := Blk.new w 24 #[.string nm, .slice A l.length cp]
  have hwa : Below w.heap.size w (w.alloc (.cells #[.string nm, .slice A l.length cp] 24)) := (Below.refl _ _).alloc (Nat.le_refl _) _
  obtain ⟨W, hW⟩ : ∃ W, W = w.alloc (.cells #[.string nm, .slice A l.length cp] 24) := ⟨_, rfl⟩
  obtain ⟨G, hG⟩ : ∃ G, G = w.heap.size := ⟨_, rfl⟩
  rw [← hW] at hB0 hwa
  rw [← hG] at hB0
  have HWG := hid (And.intro hW hG)
  have HB0 := hid (And.intro hB0 hwa)
  clear hB0 hwa hW hG
  have hln := @len_nil
  go_enter Try.func8, Try.ntmps8
  go_upto_region 1 with fail
  rw [← HWG.out.1, ← HWG.out.2]
  clear hln
  go_wp2_with fail
  refine (wakes12 W).mono ?_
  rintro e w1 ⟨rfl, hb1⟩
  go_wp2_with fail
  refine (len_nil w1).mono ?_
  rintro e w2 ⟨rfl, rfl⟩
  go_wp2_with fail
  refine (name_nil w2).mono ?_
  rintro e w3 ⟨rfl, rfl⟩
  go_wp2_with fail
  refine (before_out (.pointer none) 0 0 w3 (len_nil w3) rfl).mono ?_
  rintro e w4 ⟨A4, c4, rfl, _, hb4⟩
  rw [show ([] : List Int).length = 0 from rfl]
  go_wp2_with fail
  refine (behind_nil 0 w4).mono ?_
  rintro e w5 ⟨rfl, rfl⟩
  go_wp2_with fail
  refine (asked_nil w5).mono ?_
  rintro e w6 ⟨rfl, rfl⟩
  go_wp2_with fail
  refine (stzero_any (.pointer none) 0 0 w6 (fun w _ => len_nil w) rfl).mono ?_
  rintro e w7 ⟨A7, c7, rfl, hb7⟩
  go_wp2_with fail
  refine (rzero_any A7 c7 w7).mono ?_
  rintro e w8 ⟨A8, c8, rfl, hb8⟩
  go_wp2_with fail
  refine (szero_any A8 none c8 0 w8).mono ?_
  rintro e w9 ⟨rfl, hb9⟩
  have HB9 := hid (bthen (bthen (bthen (bthen (bthen HB0.out.2 hb1) hb4) hb7) hb8) hb9)
  have HD9 := hid ((((((HB0.out.1).next hb1).next hb4).next hb7).next hb8).next hb9)
  have d0 : w9.cell? ⟨G, 0, none⟩ = some (.string nm) := HD9.out.cell 0
  have d1 : w9.cell? ⟨G, 1, none⟩ = some (.slice A l.length cp) := HD9.out.cell 1
  have lG := HD9.out.lt
  clear hb1 hb4 hb7 hb8 hb9
  by_cases h60 : (60 : Int) < l.length
  · go_wp2_with fail
    go_ret
    exact ⟨rfl, HB9.out⟩
  have hl : l.length ≤ 60 := by omega
  have KC := hid (compile_any nm l A cp w9 (HR.out.below HB9.out) (fun s hs => (HOK.out s hs).next HB9.out) (by omega))
  go_wp2_with fail
  refine KC.out.mono ?_
  rintro e w1 ⟨hb1, ⟨hc, rfl⟩ | ⟨hc, P, vS, vB, Ls, Bs, rfl, hp, hg⟩⟩
  · have tc : (checkN l != 0) = true := by simpa using hc
    have HF := hid (bthen HB9.out hb1)
    clear hc hb1 d0 d1 lG KC
    generalize checkN l = c at tc ⊢
    go_wp2_with fail
    go_ret
    exact ⟨rfl, HF.out⟩
  obtain ⟨hS, hLl⟩ := made_as (w0 := w) hc hp hg (by omega) (fun s hs => (HOK.out s hs).len) (bthen HB9.out hb1) HB9.out.size
  have HS := hid hS
  have HLl := hid hLl
  obtain ⟨base, hbase⟩ : ∃ base, base = w9.heap.size := ⟨_, rfl⟩
  rw [← hbase] at HS
  clear hS hLl hp hg hb1 hc d0 d1 lG KC h60 hbase HB9 HD9
  go_wp2_with fail
  go_loopw [62] (fun i wr => ∃ k : Nat, k ≤ ns.length ∧ i = .int .i64 k ∧ Hid (AsS w base nm P vS vB Ls Bs (k : Int) wr)) (fun i _ => ns.length - nOf i)
  case atStart => exact ⟨0, Nat.zero_le _, rfl, HS⟩
  case round =>
    clear HS
    obtain ⟨k, hk, rfl, HS⟩ := hrel
    by_cases hlt : k < ns.length
    · obtain ⟨i, hi⟩ : ∃ i, ns[k]? = some i := ⟨ns[k], List.getElem?_eq_getElem hlt⟩
      obtain ⟨b, o, hAA, _, hcc⟩ := (HN.out.below HS.out.bel).at_ 1 (fun _ => rfl) (by omega) hi
      subst hAA
      have q0 : wr.cell? ⟨b, o + k * 1, none⟩ = some (.int .i64 i) := hcc 0 _ rfl
      rw [Nat.mul_one] at q0
      have KL := hid HS.out.len
      clear hcc hi
      go_upto_region 12 with fail
      go_cut [10] (fun v wx => v = .bool (hasN Ls.length i) ∧ wx = wr)
      case first =>
        by_cases h0 : 0 ≤ i
        · have HV := hid (show hasN Ls.length i = decide (i < (Ls.length : Int)) from by simp [hasN, h0])
          clear q0
          go_wp2_with fail
          refine KL.out.mono ?_
          rintro e w2 ⟨rfl, rfl⟩
          go_wp2_with fail
          go_meet
          exact ⟨by rw [HV.out], rfl⟩
        · have HV := hid (show hasN Ls.length i = false from by simp [hasN, h0])
          clear q0
          go_wp2_with fail
          go_meet
          exact ⟨by rw [HV.out], rfl⟩
      case rest =>
        obtain ⟨rfl, rfl⟩ := hcut
        have hkb : (k : Int) ≤ 17592186043904 := by omega
        have KB := hid (fun w' (hb : Below wc.heap.size wc w') => (HS.out.next hb).behind i ⟨by omega, by omega⟩)
        cases hB : hasN Ls.length i with
        | true =>
          clear q0 KL
          go_wp2_with fail
          refine (KB.out wc (Below.refl _ _)).mono ?_
          rintro e w2 ⟨A2, c2, rfl, _, hS2, _⟩
          have HS2 := hid hS2
          have KA := hid hS2.asked
          have te : ((k : Int) + 1 != (k : Int) + 1) = false := by simp
          clear hS2 KB HS
          go_wp2_with fail
          refine KA.out.mono ?_
          rintro e w3 ⟨rfl, rfl⟩
          go_wp2_with fail
          go_roundw
          case rel => exact ⟨k + 1, by omega, by go_num, hid (by have := HS2.out; push_cast; exact this)⟩
          case measure => simp [nOf]; omega
        | false =>
          have hE : behL Bs Ls.length i = [] := by simp [behL, hB]
          rw [hE] at KB
          have KF := hid (before_out (.pointer (some ⟨P, 0, none⟩)) Ls.length i wc KL.out hB)
          have KZ := hid (fun w' (hb : Below wc.heap.size wc w') => stzero_any (.pointer (some ⟨P, 0, none⟩)) Ls.length i w' (fun w2 hb2 => (HS.out.next (bthen hb hb2)).len) hB)
          clear q0 KL hE hB
          go_wp2_with fail
          refine KF.out.mono ?_
          rintro e w2 ⟨A2, c2, rfl, _, hb2⟩
          rw [show ([] : List Int).length = 0 from rfl]
          have H2 := hid hb2
          clear hb2 KF
          go_wp2_with fail
          refine (KZ.out _ H2.out).mono ?_
          rintro e w3 ⟨A3, c3, rfl, hb3⟩
          have H3 := hid (bthen H2.out hb3)
          clear hb3 KZ H2
          go_wp2_with fail
          refine (rzero_any A3 c3 w3).mono ?_
          rintro e w4 ⟨A4', c4', rfl, hb4⟩
          have H4 := hid (bthen H3.out hb4)
          clear hb4 H3
          go_wp2_with fail
          refine (szero_any A4' none c4' 0 w4).mono ?_
          rintro e w5 ⟨rfl, hb5⟩
          have H5 := hid (bthen H4.out hb5)
          clear hb5 H4
          go_wp2_with fail
          refine (KB.out _ H5.out).mono ?_
          rintro e w6 ⟨A6, c6, rfl, _, hS6, _⟩
          rw [show ([] : List Int).length = 0 from rfl]
          have HS6 := hid hS6
          have KA := hid hS6.asked
          have te : ((k : Int) + 1 != (k : Int) + 1) = false := by simp
          clear hS6 KB HS H5
          go_wp2_with fail
          refine KA.out.mono ?_
          rintro e w7 ⟨rfl, rfl⟩
          go_wp2_with fail
          go_roundw
          case rel => exact ⟨k + 1, by omega, by go_num, hid (by have := HS6.out; push_cast; exact this)⟩
          case measure => simp [nOf]; omega
    · go_wp2_with fail
      go_ret
      exact ⟨rfl, HS.out.bel⟩

end Go.Proofs.Ytemhoaapapeilaa
