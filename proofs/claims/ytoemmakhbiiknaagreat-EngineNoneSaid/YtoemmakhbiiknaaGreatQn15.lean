/-
  The statement EngineNone: for every input the law returns true. No condition.
  (*Engine).Put: its refusals.
  (*Engine).Put of a good instance.
  The engine's calls, where nothing is found, or the engine or the plan is nil.
  EngineNone: what is held in a round.
  The statement EngineNone: the walk.
  Layer 13: definitions as an argument.
-/
import Derived.Test.YtoemmakhbiiknaaGreatQn14
namespace Go.Proofs.YtoemmakhbiiknaaGreat
open Go.RowKit Go.WideShapes Go.ChangeShapes Go.ChangeAt Go.Deep
set_option linter.unusedVariables false

def oddB (y : Int) : Bool := decide (y < 0) || decide (5 < y)
def belB (y : Int) : Bool := decide (y < 0) || decide (1099511627776 < y)
theorem odd_any (y : Int) (w : World) : Calls Tryz.prog 50 #[.int .i64 y] w fun e w' => e = .returned (.bool (oddB y)) ∧ Below w.heap.size w w' := by
  have HV := hid (show oddB y = (decide (y < 0) || decide (5 < y)) from rfl)
  by_cases h0 : y < 0
  · rw [HV.out, decide_eq_true h0]
    go_enter Tryz.func50, Tryz.ntmps50
    go_wp2_with fail
    go_ret
    exact ⟨rfl, Below.refl _ _⟩
  · rw [HV.out, decide_eq_false h0]
    by_cases h1 : 5 < y
    · rw [decide_eq_true h1]
      go_enter Tryz.func50, Tryz.ntmps50
      go_wp2_with fail
      go_ret
      exact ⟨rfl, Below.refl _ _⟩
    · rw [decide_eq_false h1]
      go_enter Tryz.func50, Tryz.ntmps50
      go_wp2_with fail
      go_ret
      exact ⟨rfl, Below.refl _ _⟩
theorem below_any13 (y : Int) (w : World) : Calls Tryz.prog 51 #[.int .i64 y] w fun e w' => e = .returned (.bool (belB y)) ∧ Below w.heap.size w w' := by
  have HV := hid (show belB y = (decide (y < 0) || decide (1099511627776 < y)) from rfl)
  by_cases h0 : y < 0
  · rw [HV.out, decide_eq_true h0]
    go_enter Tryz.func51, Tryz.ntmps51
    go_wp2_with fail
    go_ret
    exact ⟨rfl, Below.refl _ _⟩
  · rw [HV.out, decide_eq_false h0]
    by_cases h1 : 1099511627776 < y
    · rw [decide_eq_true h1]
      go_enter Tryz.func51, Tryz.ntmps51
      go_wp2_with fail
      go_ret
      exact ⟨rfl, Below.refl _ _⟩
    · rw [decide_eq_false h1]
      go_enter Tryz.func51, Tryz.ntmps51
      go_wp2_with fail
      go_ret
      exact ⟨rfl, Below.refl _ _⟩
section
variable {base2 P X : Nat} {nm : ByteArray} {Ls : List Stp} {Bs : List IRow} {ask : Int} {y : Pw} {w w' : World}
def putB (n : Nat) (st : Int) (ms ts : List Int) : Bool := !((ms.length : Int) != (n : Int) || ((ts.length : Int) != (n : Int) || (decide (st < 0) || (decide (3 < st) || (ms.any oddB || ts.any belB)))))
set_option maxRecDepth 100000 in
set_option maxHeartbeats 16000000 in
theorem put_err (xv pv : Value) (o st : Int) (pd : Bool) (a b : Value) (c : Int) (hc : c = 1 ∨ c = 71) (h : ∀ w' : World, Below w.heap.size w w' → Calls Tryz.prog 43 #[xv, .int .i64 o, pv] w' fun e w'' => e = .returned (.int .i64 c) ∧ w'' = w') (ha : a.oneCell' = true) (hb : b.oneCell' = true) :
    Calls Tryz.prog 21 #[xv, .agg #[.int .i64 o, .int .i64 st, .bool pd, a, b], pv] w fun e w' => e = .returned (.int .i64 c) ∧ Below w.heap.size w w' := by
  have HB := hid ((Below.refl w.heap.size w).alloc (Nat.le_refl _) (.cells #[.int .i64 o, .int .i64 st, .bool pd, a, b] 40))
  have K := hid (h _ HB.out)
  clear h
  rcases hc with rfl | rfl
  all_goals
    go_enter Tryz.func21, Tryz.ntmps21
    go_wp2_with fail
    refine K.out.mono ?_
    rintro e w2 ⟨rfl, rfl⟩
    go_wp2_with fail
    go_ret
    exact ⟨rfl, HB.out⟩
set_option maxRecDepth 100000 in
set_option maxHeartbeats 32000000 in
theorem put_bad (h : PlY base2 nm P Ls Bs ask y w) (xv : Value) (o st : Int) (pd : Bool) (ms : List Int) (MA : Option Addr) (mc : Nat) (ts : List Int) (TA : Option Addr) (tc : Nat) (hm : Rd w MA (ms.flatMap en1)) (ht : Rd w TA (ts.flatMap en1)) (hml : ms.length ≤ 140737488355328) (htl : ts.length ≤ 140737488355328)
    (hr : ∀ w' : World, Below w.heap.size w w' → Calls Tryz.prog 43 #[xv, .int .i64 o, .pointer (some ⟨P, 0, none⟩)] w' fun e w'' => e = .returned (.int .i64 0) ∧ w'' = w') (hbad : putB Ls.length st ms ts = false) :
    Calls Tryz.prog 21 #[xv, .agg #[.int .i64 o, .int .i64 st, .bool pd, .slice MA ms.length mc, .slice TA ts.length tc], .pointer (some ⟨P, 0, none⟩)] w fun e w' => e = .returned (.int .i64 2) ∧ Below w.heap.size w w' := by
  have hwa : Below w.heap.size w (w.alloc (.cells #[.int .i64 o, .int .i64 st, .bool pd, .slice MA ms.length mc, .slice TA ts.length tc] 40)) := (Below.refl _ _).alloc (Nat.le_refl _) _
  have hB := Blk.new w 40 #[.int .i64 o, .int .i64 st, .bool pd, .slice MA ms.length mc, .slice TA ts.length tc]
  obtain ⟨W, hW⟩ : ∃ W, W = w.alloc (.cells #[.int .i64 o, .int .i64 st, .bool pd, .slice MA ms.length mc, .slice TA ts.length tc] 40) := ⟨_, rfl⟩
  obtain ⟨G, hG⟩ : ∃ G, G = w.heap.size := ⟨_, rfl⟩
  rw [← hW] at hwa hB
  rw [← hG] at hB
  have KR := hid (hr W hwa)
  have HWA := hid hwa
  have HWG := hid (And.intro hW hG)
  obtain ⟨n, hn⟩ : ∃ n, n = Ls.length := ⟨_, rfl⟩
  rw [← hn] at hbad
  have HLn := hid (show n ≤ 1000 from by rw [hn]; exact h.rows.n)
  obtain ⟨C, hCd⟩ : ∃ C : World → Prop, ∀ w', C w' ↔ Below W.heap.size W w' := ⟨_, fun _ => Iff.rfl⟩
  have hC : C W.drew := (hCd _).2 (Below.refl _ _).drew
  have hBp : ∀ p : In C, Blk p.w G 40 #[.int .i64 o, .int .i64 st, .bool pd, .slice MA ms.length mc, .slice TA ts.length tc] := fun p => hB.next ((hCd _).1 p.h)
  have c1 : ∀ p : In C, p.w.cell? ⟨G, 1, none⟩ = some (.int .i64 st) := fun p => (hBp p).cell 1
  have c3 : ∀ p : In C, p.w.cell? ⟨G, 3, none⟩ = some (.slice MA ms.length mc) := fun p => (hBp p).cell 3
  have c4 : ∀ p : In C, p.w.cell? ⟨G, 4, none⟩ = some (.slice TA ts.length tc) := fun p => (hBp p).cell 4
  have lG : ∀ p : In C, G < p.w.heap.size := fun p => (hBp p).lt
  have g0 : W.cell? ⟨G, 0, none⟩ = some (.int .i64 o) := hB.cell 0
  have lG0 := hB.lt
  have OL : Hid (∀ p : In C, Calls Tryz.prog 17 #[.pointer (some ⟨P, 0, none⟩)] p.w fun e w' => e = .returned (.int .i64 (n : Int)) ∧ C w') := hid (fun p => by
    refine (len_some (h.next (bthen hwa ((hCd _).1 p.h))).p).mono ?_
    rintro e w2 ⟨rfl, rfl⟩
    exact ⟨by rw [hn], p.h⟩)
  have OM : Hid (∀ p : In C, Calls Tryz.prog 52 #[.slice MA ms.length mc, .func (.func 50) #[] #[]] p.w fun e w' => e = .returned (.bool (ms.any oddB)) ∧ C w') := hid (fun p =>
    (hasM0 ms MA mc 50 oddB p.w (hm.below (bthen hwa ((hCd _).1 p.h))) hml (fun _ _ => by go_simp) (fun x _ w2 _ => odd_any x w2)).mono fun _ _ ⟨e1, e2⟩ => ⟨e1, (hCd _).2 (bthen ((hCd _).1 p.h) e2)⟩)
  have OI : Hid (∀ p : In C, Calls Tryz.prog 53 #[.slice TA ts.length tc, .func (.func 51) #[] #[]] p.w fun e w' => e = .returned (.bool (ts.any belB)) ∧ C w') := hid (fun p =>
    (hasI0 ts TA tc 51 belB p.w (ht.below (bthen hwa ((hCd _).1 p.h))) htl (fun _ _ => by go_simp) (fun x _ w2 _ => below_any13 x w2)).mono fun _ _ ⟨e1, e2⟩ => ⟨e1, (hCd _).2 (bthen ((hCd _).1 p.h) e2)⟩)
  obtain ⟨bm, hbm⟩ : ∃ bm, bm = ms.any oddB := ⟨_, rfl⟩
  obtain ⟨bt, hbt⟩ : ∃ bt, bt = ts.any belB := ⟨_, rfl⟩
  obtain ⟨nm1, hnm⟩ : ∃ q, q = ms.length := ⟨_, rfl⟩
  obtain ⟨nt1, hnt⟩ : ∃ q, q = ts.length := ⟨_, rfl⟩
  have hbad2 : ((nm1 : Int) != (n : Int) || ((nt1 : Int) != (n : Int) || (decide (st < 0) || (decide (3 < st) || (bm || bt))))) = true := by
    unfold putB at hbad
    rw [← hbm, ← hbt, ← hnm, ← hnt] at hbad
    have h9 := congrArg (fun q : Bool => !q) hbad
    simpa only [Bool.not_not, Bool.not_false] using h9
  rw [← hbm] at OM
  rw [← hbt] at OI
  rw [← hnm] at c3 OM hml
  rw [← hnt] at c4 OI htl
  have HBD := hid hbad2
  have HCd := hid hCd
  rw [← hnm, ← hnt] at HWG ⊢
  clear hbad hbad2 hbm hbt hnm hnt hCd hBp hB hW hG hm ht h hr hn hwa
  go_enter Tryz.func21, Tryz.ntmps21
  go_upto_region 1 with fail
  rw [← HWG.out.1, ← HWG.out.2]
  go_wp2_with (first | (go_at_call 43; refine KR.out.mono ?_; rintro e w5 ⟨rfl, rfl⟩))
  cases e1 : ((nm1 : Int) != (n : Int)) with
  | true =>
    refine wp_region_in C (by kernel_rfl) (by kernel_rfl) hC ?_
    intro hne
    clear hC
    repeat (first | go_big_quiet_step ((first | (go_at_call 17; exact Calls.in_of (OL.out _)) | (go_at_call 52; exact Calls.in_of (OM.out _)) | (go_at_call 53; exact Calls.in_of (OI.out _)))) | quiet_step ((first | (go_at_call 17; exact Calls.in_of (OL.out _)) | (go_at_call 52; exact Calls.in_of (OM.out _)) | (go_at_call 53; exact Calls.in_of (OI.out _)))))
    refine wpQuiet_nil ?_
    intro wq hq
    have HQ := hid (bthen HWA.out ((HCd.out _).1 hq))
    clear c1 c3 c4 lG OL OM OI hne hq HCd g0 lG0
    go_wp2_with fail
    go_ret
    exact ⟨rfl, HQ.out⟩
  | false =>
    have H1 := hid e1
    cases e2 : ((nt1 : Int) != (n : Int)) with
    | true =>
      refine wp_region_in C (by kernel_rfl) (by kernel_rfl) hC ?_
      intro hne
      clear hC
      repeat (first | go_big_quiet_step ((first | (go_at_call 17; exact Calls.in_of (OL.out _)) | (go_at_call 52; exact Calls.in_of (OM.out _)) | (go_at_call 53; exact Calls.in_of (OI.out _)))) | quiet_step ((first | (go_at_call 17; exact Calls.in_of (OL.out _)) | (go_at_call 52; exact Calls.in_of (OM.out _)) | (go_at_call 53; exact Calls.in_of (OI.out _)))))
      refine wpQuiet_nil ?_
      intro wq hq
      have HQ := hid (bthen HWA.out ((HCd.out _).1 hq))
      clear c1 c3 c4 lG OL OM OI hne hq HCd g0 lG0
      go_wp2_with fail
      go_ret
      exact ⟨rfl, HQ.out⟩
    | false =>
      have H2 := hid e2
      by_cases h3 : st < 0
      · refine wp_region_in C (by kernel_rfl) (by kernel_rfl) hC ?_
        intro hne
        clear hC
        repeat (first | go_big_quiet_step ((first | (go_at_call 17; exact Calls.in_of (OL.out _)) | (go_at_call 52; exact Calls.in_of (OM.out _)) | (go_at_call 53; exact Calls.in_of (OI.out _)))) | quiet_step ((first | (go_at_call 17; exact Calls.in_of (OL.out _)) | (go_at_call 52; exact Calls.in_of (OM.out _)) | (go_at_call 53; exact Calls.in_of (OI.out _)))))
        refine wpQuiet_nil ?_
        intro wq hq
        have HQ := hid (bthen HWA.out ((HCd.out _).1 hq))
        clear c1 c3 c4 lG OL OM OI hne hq HCd g0 lG0
        go_wp2_with fail
        go_ret
        exact ⟨rfl, HQ.out⟩
      · by_cases h4 : 3 < st
        · refine wp_region_in C (by kernel_rfl) (by kernel_rfl) hC ?_
          intro hne
          clear hC
          repeat (first | go_big_quiet_step ((first | (go_at_call 17; exact Calls.in_of (OL.out _)) | (go_at_call 52; exact Calls.in_of (OM.out _)) | (go_at_call 53; exact Calls.in_of (OI.out _)))) | quiet_step ((first | (go_at_call 17; exact Calls.in_of (OL.out _)) | (go_at_call 52; exact Calls.in_of (OM.out _)) | (go_at_call 53; exact Calls.in_of (OI.out _)))))
          refine wpQuiet_nil ?_
          intro wq hq
          have HQ := hid (bthen HWA.out ((HCd.out _).1 hq))
          clear c1 c3 c4 lG OL OM OI hne hq HCd g0 lG0
          go_wp2_with fail
          go_ret
          exact ⟨rfl, HQ.out⟩
        · cases bm with
          | true =>
            refine wp_region_in C (by kernel_rfl) (by kernel_rfl) hC ?_
            intro hne
            clear hC
            repeat (first | go_big_quiet_step ((first | (go_at_call 17; exact Calls.in_of (OL.out _)) | (go_at_call 52; exact Calls.in_of (OM.out _)) | (go_at_call 53; exact Calls.in_of (OI.out _)))) | quiet_step ((first | (go_at_call 17; exact Calls.in_of (OL.out _)) | (go_at_call 52; exact Calls.in_of (OM.out _)) | (go_at_call 53; exact Calls.in_of (OI.out _)))))
            refine wpQuiet_nil ?_
            intro wq hq
            have HQ := hid (bthen HWA.out ((HCd.out _).1 hq))
            clear c1 c3 c4 lG OL OM OI hne hq HCd g0 lG0
            go_wp2_with fail
            go_ret
            exact ⟨rfl, HQ.out⟩
          | false =>
            cases bt with
            | true =>
              refine wp_region_in C (by kernel_rfl) (by kernel_rfl) hC ?_
              intro hne
              clear hC
              repeat (first | go_big_quiet_step ((first | (go_at_call 17; exact Calls.in_of (OL.out _)) | (go_at_call 52; exact Calls.in_of (OM.out _)) | (go_at_call 53; exact Calls.in_of (OI.out _)))) | quiet_step ((first | (go_at_call 17; exact Calls.in_of (OL.out _)) | (go_at_call 52; exact Calls.in_of (OM.out _)) | (go_at_call 53; exact Calls.in_of (OI.out _)))))
              refine wpQuiet_nil ?_
              intro wq hq
              have HQ := hid (bthen HWA.out ((HCd.out _).1 hq))
              clear c1 c3 c4 lG OL OM OI hne hq HCd g0 lG0
              go_wp2_with fail
              go_ret
              exact ⟨rfl, HQ.out⟩
            | false =>
              exfalso
              have := HBD.out
              rw [H1.out, H2.out, decide_eq_false h3, decide_eq_false h4] at this
              cases this
end

end Go.Proofs.YtoemmakhbiiknaaGreat

namespace Go.Proofs.YtoemmakhbiiknaaGreat
open Go.RowKit Go.WideShapes Go.ChangeShapes Go.ChangeAt Go.Deep
set_option linter.unusedVariables false

section
variable {base2 P X M n0 : Nat} {es : List (Int × Nat)} {nm : ByteArray} {Ls : List Stp} {Bs : List IRow} {ask : Int} {y : Pw} {w w' : World}
/-- What Put leaves. -/
def PutR (base2 n0 P X M : Nat) (es : List (Int × Nat)) (nm : ByteArray) (Ls : List Stp) (Bs : List IRow) (ask : Int) (y : Pw) (v : Iv) (w : World) (e : Ending) (w' : World) : Prop :=
  ∃ I l', e = .returned (.int .i64 0) ∧ InP w.heap.size base2 I P nm Ls Bs ask y v l' w' ∧ IsEng n0 X M (mset es v.ord I) w' ∧ Touch (· = M) w w'
set_option maxRecDepth 100000 in
set_option maxHeartbeats 32000000 in
theorem put_good (h : PlY base2 nm P Ls Bs ask y w) (hE : IsEng n0 X M es w) (o st : Int) (hno : mget es o = none) (pd : Bool) (ms : List Int) (MA : Option Addr) (mc : Nat) (ts : List Int) (TA : Option Addr) (tc : Nat) (hm : Rd w MA (ms.flatMap en1)) (ht : Rd w TA (ts.flatMap en1)) (hml : ms.length ≤ 140737488355328) (htl : ts.length ≤ 140737488355328)
    (hgood : putB Ls.length st ms ts = true) :
    Calls Tryz.prog 21 #[.pointer (some ⟨X, 0, none⟩), .agg #[.int .i64 o, .int .i64 st, .bool pd, .slice MA ms.length mc, .slice TA ts.length tc], .pointer (some ⟨P, 0, none⟩)] w (PutR base2 n0 P X M es nm Ls Bs ask y ⟨o, st, pd, ms, ts, []⟩ w) := by
  have hwa : Below w.heap.size w (w.alloc (.cells #[.int .i64 o, .int .i64 st, .bool pd, .slice MA ms.length mc, .slice TA ts.length tc] 40)) := (Below.refl _ _).alloc (Nat.le_refl _) _
  have hB := Blk.new w 40 #[.int .i64 o, .int .i64 st, .bool pd, .slice MA ms.length mc, .slice TA ts.length tc]
  obtain ⟨W, hW⟩ : ∃ W, W = w.alloc (.cells #[.int .i64 o, .int .i64 st, .bool pd, .slice MA ms.length mc, .slice TA ts.length tc] 40) := ⟨_, rfl⟩
  obtain ⟨G, hG⟩ : ∃ G, G = w.heap.size := ⟨_, rfl⟩
  rw [← hW] at hwa hB
  rw [← hG] at hB
  have KR := hid (room_any (hE.next hwa) o P)
  rw [show roomV es o = 0 from by unfold roomV; rw [hno]] at KR
  have HE := hid (hE.next hwa)
  have HE0 := hid hE
  have HP := hid (h.next hwa)
  have HP0 := hid h
  have HMT := hid (And.intro (hm.below hwa) (ht.below hwa))
  have HWA := hid hwa
  have HWG := hid (And.intro hW hG)
  obtain ⟨n, hn⟩ : ∃ n, n = Ls.length := ⟨_, rfl⟩
  rw [← hn] at hgood
  have HLn := hid (show n ≤ 1000 from by rw [hn]; exact h.rows.n)
  obtain ⟨C, hCd⟩ : ∃ C : World → Prop, ∀ w', C w' ↔ Below W.heap.size W w' := ⟨_, fun _ => Iff.rfl⟩
  have hC : C W.drew := (hCd _).2 (Below.refl _ _).drew
  have hBp : ∀ p : In C, Blk p.w G 40 #[.int .i64 o, .int .i64 st, .bool pd, .slice MA ms.length mc, .slice TA ts.length tc] := fun p => hB.next ((hCd _).1 p.h)
  have c1 : ∀ p : In C, p.w.cell? ⟨G, 1, none⟩ = some (.int .i64 st) := fun p => (hBp p).cell 1
  have c3 : ∀ p : In C, p.w.cell? ⟨G, 3, none⟩ = some (.slice MA ms.length mc) := fun p => (hBp p).cell 3
  have c4 : ∀ p : In C, p.w.cell? ⟨G, 4, none⟩ = some (.slice TA ts.length tc) := fun p => (hBp p).cell 4
  have lG : ∀ p : In C, G < p.w.heap.size := fun p => (hBp p).lt
  have g0 : W.cell? ⟨G, 0, none⟩ = some (.int .i64 o) := hB.cell 0
  have lG0 := hB.lt
  have OL : Hid (∀ p : In C, Calls Tryz.prog 17 #[.pointer (some ⟨P, 0, none⟩)] p.w fun e w' => e = .returned (.int .i64 (n : Int)) ∧ C w') := hid (fun p => by
    refine (len_some (h.next (bthen hwa ((hCd _).1 p.h))).p).mono ?_
    rintro e w2 ⟨rfl, rfl⟩
    exact ⟨by rw [hn], p.h⟩)
  have OM : Hid (∀ p : In C, Calls Tryz.prog 52 #[.slice MA ms.length mc, .func (.func 50) #[] #[]] p.w fun e w' => e = .returned (.bool (ms.any oddB)) ∧ C w') := hid (fun p =>
    (hasM0 ms MA mc 50 oddB p.w (hm.below (bthen hwa ((hCd _).1 p.h))) hml (fun _ _ => by go_simp) (fun x _ w2 _ => odd_any x w2)).mono fun _ _ ⟨e1, e2⟩ => ⟨e1, (hCd _).2 (bthen ((hCd _).1 p.h) e2)⟩)
  have OI : Hid (∀ p : In C, Calls Tryz.prog 53 #[.slice TA ts.length tc, .func (.func 51) #[] #[]] p.w fun e w' => e = .returned (.bool (ts.any belB)) ∧ C w') := hid (fun p =>
    (hasI0 ts TA tc 51 belB p.w (ht.below (bthen hwa ((hCd _).1 p.h))) htl (fun _ _ => by go_simp) (fun x _ w2 _ => below_any13 x w2)).mono fun _ _ ⟨e1, e2⟩ => ⟨e1, (hCd _).2 (bthen ((hCd _).1 p.h) e2)⟩)
  obtain ⟨h1, h2, h3, h4, h5, h6⟩ : ((ms.length : Int) != (n : Int)) = false ∧ ((ts.length : Int) != (n : Int)) = false ∧ ¬ st < 0 ∧ ¬ 3 < st ∧ ms.any oddB = false ∧ ts.any belB = false := by
    have h9 := congrArg (fun q : Bool => !q) hgood
    unfold putB at h9
    simp only [Bool.not_not, Bool.not_true, Bool.or_eq_false_iff, decide_eq_false_iff_not] at h9
    exact ⟨h9.1, h9.2.1, h9.2.2.1, h9.2.2.2.1, h9.2.2.2.2.1, h9.2.2.2.2.2⟩
  rw [h5] at OM
  rw [h6] at OI
  have HLE := hid (show ms.length = n ∧ ts.length = n from by
    have a1 : (ms.length : Int) = n := by simpa [bne] using h1
    have a2 : (ts.length : Int) = n := by simpa [bne] using h2
    omega)
  have HN := hid hn
  have HCd := hid hCd
  have HBW := hid hB
  clear hgood h5 h6 hCd hBp hB hW hG hm ht h hn hwa hE hno
  go_enter Tryz.func21, Tryz.ntmps21
  go_upto_region 1 with fail
  rw [← HWG.out.1, ← HWG.out.2]
  go_wp2_with (first | (go_at_call 43; refine KR.out.mono ?_; rintro e w5 ⟨rfl, rfl⟩))
  refine wp_region_in C (by kernel_rfl) (by kernel_rfl) hC ?_
  intro hne
  clear hC
  repeat (first | go_big_quiet_step ((first | (go_at_call 17; exact Calls.in_of (OL.out _)) | (go_at_call 52; exact Calls.in_of (OM.out _)) | (go_at_call 53; exact Calls.in_of (OI.out _)))) | quiet_step ((first | (go_at_call 17; exact Calls.in_of (OL.out _)) | (go_at_call 52; exact Calls.in_of (OM.out _)) | (go_at_call 53; exact Calls.in_of (OI.out _)))))
  refine wpQuiet_nil ?_
  intro wq hq
  have HQ := hid ((HCd.out _).1 hq)
  clear c1 c3 c4 lG OL OM OI hne hq HCd g0 lG0
  have hBq := HBW.out.next HQ.out
  have hEq := HE.out.next HQ.out
  have b0 : wq.cell? ⟨G, 0, none⟩ = some (.int .i64 o) := hBq.cell 0
  have b1 : wq.cell? ⟨G, 1, none⟩ = some (.int .i64 st) := hBq.cell 1
  have b2 : wq.cell? ⟨G, 2, none⟩ = some (.bool pd) := hBq.cell 2
  have b3 : wq.cell? ⟨G, 3, none⟩ = some (.slice MA ms.length mc) := hBq.cell 3
  have b4 : wq.cell? ⟨G, 4, none⟩ = some (.slice TA ts.length tc) := hBq.cell 4
  have lG := hBq.lt
  have x0 : wq.cell? ⟨X, 0, none⟩ = some (.map (some M)) := hEq.blk.cell 0
  have lX := hEq.blk.lt
  have KT := hid (etwin_any (w := wq.drew) o st pd ms MA mc ts TA tc (HMT.out.1.below (bthen HQ.out (Below.refl _ _).drew)) (HMT.out.2.below (bthen HQ.out (Below.refl _ _).drew)) (by have := HLE.out; have := HLn.out; omega) (by have := HLE.out; have := HLn.out; omega))
  have HD := hid (show Below wq.heap.size wq wq.drew from (Below.refl _ _).drew)
  clear hBq hEq
  go_upto_region 8 with fail
  clear h1 h2 h3 h4
  go_region_with ((first
    | (go_at_call 29; refine KT.out.mono ?_; rintro e w7 ⟨A7, c7, A8, c8, rfl, hO7, hO8, hb7⟩
       simp only [svC]
       have HB7 := hid (bthen HQ.out (HD.out.trans (hb7.mono HD.out.size)))
       have HO7 := hid (And.intro hO7 hO8)
       have hB8 := HBW.out.next HB7.out
       have hE8 := HE.out.next HB7.out
       have b07 : w7.cell? ⟨G, 0, none⟩ = some (.int .i64 o) := hB8.cell 0
       have lG7 := hB8.lt
       have x07 : w7.cell? ⟨X, 0, none⟩ = some (.map (some M)) := hE8.blk.cell 0
       have lX7 := hE8.blk.lt
       obtain ⟨w9, hrun, hM9, hg9, hs9⟩ := (hE8.map.alloc (.cells #[.int .i64 o, .int .i64 st, .bool pd, .slice A7 ms.length c7, .slice A8 ts.length c8, .pointer (some ⟨P, 0, none⟩), .slice none 0 0] 96)).store keyE13 Tryz.underlying88 o w7.heap.size
       simp only [kE13, pB] at hrun
       have HR9 := hid (And.intro hM9 hg9)
       clear hO7 hO8 hb7 hB8 hE8 hM9 hg9 hs9)))
  all_goals
    clear b0 b1 b2 b3 b4 lG x0 lX b07 lG7 x07 lX7 KT hrun
    have hE8 := (HE.out.next HB7.out).next (w' := w7.alloc (.cells #[.int .i64 o, .int .i64 st, .bool pd, .slice A7 ms.length c7, .slice A8 ts.length c8, .pointer (some ⟨P, 0, none⟩), .slice none 0 0] 96)) ((Below.refl _ _).alloc (Nat.le_refl _) _)
    have hB8 := Blk.new w7 96 #[.int .i64 o, .int .i64 st, .bool pd, .slice A7 ms.length c7, .slice A8 ts.length c8, .pointer (some ⟨P, 0, none⟩), .slice none 0 0]
    have hba : Below w7.heap.size w7 (w7.alloc (.cells #[.int .i64 o, .int .i64 st, .bool pd, .slice A7 ms.length c7, .slice A8 ts.length c8, .pointer (some ⟨P, 0, none⟩), .slice none 0 0] 96)) := (Below.refl _ _).alloc (Nat.le_refl _) _
    have hsz : w.heap.size ≤ wq.drew.heap.size := Nat.le_trans HWA.out.size HQ.out.size
    have hsz7 : w.heap.size ≤ w7.heap.size := Nat.le_trans HWA.out.size HB7.out.size
    have hIs : IsI w.heap.size w7.heap.size (.pointer (some ⟨P, 0, none⟩)) ⟨o, st, pd, ms, ts, []⟩ ⟨A7, c7, A8, c8, none, 0⟩ (w7.alloc (.cells #[.int .i64 o, .int .i64 st, .bool pd, .slice A7 ms.length c7, .slice A8 ts.length c8, .pointer (some ⟨P, 0, none⟩), .slice none 0 0] 96)) :=
      ⟨hB8, own_next (own_base HO7.out.1 hsz) hba, own_next (own_base HO7.out.2 hsz) hba, World.ownsRow_nil _ _ _ _, hsz7, by have := HLE.out; have := HLn.out; simp only; omega, by have := HLE.out; simp only; omega⟩
    have hP8 := (HP.out.next HB7.out).next hba
    have hT9 := Touch.of_grown HR9.out.2
    have hI9 := hIs.touch hT9 (fun g hg hu => hIs.notMap hE8.map (by rw [← hg]; exact hu))
    have hP9 : PlY base2 nm P Ls Bs ask y w9 := ⟨hP8.p.touchS hT9 (fun g hg hu => hP8.notMap hE8.map (by rw [← hg]; exact hu)), hP8.ok, hP8.nil, hP8.rows, hP8.aft⟩
    have hdj : ∀ g, PlV P Ls Bs y g → ¬ IU w7.heap.size ⟨o, st, pd, ms, ts, []⟩ ⟨A7, c7, A8, c8, none, 0⟩ g := fun g hg hu => by
      have h1 := (HP0.out.p.use hg).2
      have h2 := (hIs.use hu).1
      omega
    have HIn := hid (show InP w.heap.size base2 w7.heap.size P nm Ls Bs ask y ⟨o, st, pd, ms, ts, []⟩ ⟨A7, c7, A8, c8, none, 0⟩ w9 from ⟨hI9, hP9, hdj, by have := HLE.out; have := HN.out; simp only; omega⟩)
    have HEn := hid (show IsEng n0 X M (mset es o w7.heap.size) w9 from ⟨hT9.blk hE8.blk (fun e => hE8.map.notBlk hE8.blk e.symm), HR9.out.1, hE8.low⟩)
    have HT := hid ((Touch.of_below (S := (· = M)) (bthen (bthen HWA.out HB7.out) hba)).then hT9)
    clear hE8 hB8 hba hsz hsz7 hIs hP8 hT9 hI9 hP9 hdj HR9
    go_wp2_with fail
    go_ret
    exact ⟨_, _, rfl, HIn.out, HEn.out, HT.out⟩
end

end Go.Proofs.YtoemmakhbiiknaaGreat

namespace Go.Proofs.YtoemmakhbiiknaaGreat
open Go.RowKit Go.WideShapes Go.ChangeShapes Go.ChangeAt Go.Deep
set_option linter.unusedVariables false

section
variable {w : World}
/-- A callee that reads. -/
def Same (f : FuncId) (args : Array Value) (v : Value) (w : World) : Prop := Calls Tryz.prog f args w fun e w' => e = .returned v ∧ w' = w
set_option maxRecDepth 100000 in
theorem reply_err (xv : Value) (o s tr code : Int) (un : Bool) (c : Int) (hc : c = 1 ∨ c = 70 ∨ c = 71) (h : Same 30 #[xv, .int .i64 o, .int .i64 s] (.tuple #[.pointer none, .int .i64 c]) w) : Same 10 #[xv, .int .i64 o, .int .i64 s, .int .i64 tr, .bool un, .int .i64 code] (.tuple #[.slice none 0 0, .int .i64 c]) w := by
  have K := hid h
  clear h
  unfold Same at K ⊢
  rcases hc with rfl | rfl | rfl
  all_goals
    go_enter Tryz.func10, Tryz.ntmps10
    go_wp2_with fail
    refine K.out.mono ?_
    rintro e w2 ⟨rfl, rfl⟩
    go_wp2_with fail
    go_ret2
    exact ⟨rfl, rfl⟩
set_option maxRecDepth 100000 in
theorem fire_err (xv : Value) (o s : Int) (c : Int) (hc : c = 1 ∨ c = 70 ∨ c = 71) (h : Same 30 #[xv, .int .i64 o, .int .i64 s] (.tuple #[.pointer none, .int .i64 c]) w) : Same 11 #[xv, .int .i64 o, .int .i64 s] (.tuple #[.slice none 0 0, .int .i64 c]) w := by
  have K := hid h
  clear h
  unfold Same at K ⊢
  rcases hc with rfl | rfl | rfl
  all_goals
    go_enter Tryz.func11, Tryz.ntmps11
    go_wp2_with fail
    refine K.out.mono ?_
    rintro e w2 ⟨rfl, rfl⟩
    go_wp2_with fail
    go_ret2
    exact ⟨rfl, rfl⟩
set_option maxRecDepth 100000 in
theorem paid_err (xv : Value) (o : Int) (c : Int) (hc : c = 1 ∨ c = 70 ∨ c = 71) (h : Same 28 #[xv, .int .i64 o] (.tuple #[.pointer none, .int .i64 c]) w) : Same 12 #[xv, .int .i64 o] (.tuple #[.slice none 0 0, .int .i64 c]) w := by
  have K := hid h
  clear h
  unfold Same at K ⊢
  rcases hc with rfl | rfl | rfl
  all_goals
    go_enter Tryz.func12, Tryz.ntmps12
    go_wp2_with fail
    refine K.out.mono ?_
    rintro e w2 ⟨rfl, rfl⟩
    go_wp2_with fail
    go_ret2
    exact ⟨rfl, rfl⟩
set_option maxRecDepth 100000 in
theorem cancel_err (xv : Value) (o : Int) (c : Int) (hc : c = 1 ∨ c = 70 ∨ c = 71) (h : Same 28 #[xv, .int .i64 o] (.tuple #[.pointer none, .int .i64 c]) w) : Same 13 #[xv, .int .i64 o] (.tuple #[.slice none 0 0, .int .i64 c]) w := by
  have K := hid h
  clear h
  unfold Same at K ⊢
  rcases hc with rfl | rfl | rfl
  all_goals
    go_enter Tryz.func13, Tryz.ntmps13
    go_wp2_with fail
    refine K.out.mono ?_
    rintro e w2 ⟨rfl, rfl⟩
    go_wp2_with fail
    go_ret2
    exact ⟨rfl, rfl⟩
set_option maxRecDepth 100000 in
theorem start_err (xv : Value) (o : Int) (pv : Value) (c : Int) (hc : c = 1 ∨ c = 70 ∨ c = 71) (h : Same 43 #[xv, .int .i64 o, pv] (.int .i64 c) w) : Same 16 #[xv, .int .i64 o, pv] (.tuple #[.slice none 0 0, .int .i64 c]) w := by
  have K := hid h
  clear h
  unfold Same at K ⊢
  rcases hc with rfl | rfl | rfl
  all_goals
    go_enter Tryz.func16, Tryz.ntmps16
    go_wp2_with fail
    refine K.out.mono ?_
    rintro e w2 ⟨rfl, rfl⟩
    go_wp2_with fail
    go_ret2
    exact ⟨rfl, rfl⟩
def zSaved : Value := .agg #[.int .i64 0, .int .i64 0, .bool false, .slice none 0 0, .slice none 0 0]
set_option maxRecDepth 100000 in
theorem get_err (xv : Value) (o c : Int) (hc : c = 1 ∨ c = 70) (hw : ∀ w' : World, Below w.heap.size w w' → Same 28 #[xv, .int .i64 o] (.tuple #[.pointer none, .int .i64 c]) w') :
    Calls Tryz.prog 9 #[xv, .int .i64 o] w fun e w' => e = .returned (.tuple #[zSaved, .pointer none, .bool false]) ∧ Below w.heap.size w w' := by
  have hb := ((Below.refl w.heap.size w).alloc (Nat.le_refl _) (.cells #[.int .i64 0, .int .i64 0, .bool false, .slice none 0 0, .slice none 0 0] 40))
  have HB := hid hb
  have K := hid (hw _ hb)
  clear hw hb
  unfold Same at K
  rcases hc with rfl | rfl
  all_goals
    go_enter Tryz.func9, Tryz.ntmps9
    go_wp2_with fail
    refine K.out.mono ?_
    rintro e w2 ⟨rfl, rfl⟩
    go_wp2_with fail
    refine bodyPost_ret (v := .tuple #[zSaved, .pointer none, .bool false]) (by simp [results, Tryz.results9, go_sem, zSaved]) rfl ⟨rfl, HB.out⟩
/-- Orders and Live of a nil engine. -/
theorem orders_nil : Same 22 #[.pointer none] (.slice none 0 0) w := by
  unfold Same
  go_enter Tryz.func22, Tryz.ntmps22
  go_wp2_with fail
  go_ret
  exact ⟨rfl, rfl⟩
theorem live_nil : Same 20 #[.pointer none] (.int .i64 0) w := by
  have K := hid (orders_nil (w := w))
  unfold Same at K ⊢
  go_enter Tryz.func20, Tryz.ntmps20
  go_wp2_with fail
  refine K.out.mono ?_
  rintro e w2 ⟨rfl, rfl⟩
  go_wp2_with fail
  go_loopw [3, 5, 6, 10] (fun n _a _b i wr => n = .int .i64 0 ∧ i = .int .i64 0 ∧ wr = w2) (fun _n _a _b _i _ => 0)
  case atStart => exact ⟨rfl, rfl, rfl⟩
  case round =>
    obtain ⟨rfl, rfl, rfl⟩ := hrel
    go_wp2_with fail
    go_ret
    exact ⟨rfl, rfl⟩
end

end Go.Proofs.YtoemmakhbiiknaaGreat

namespace Go.Proofs.YtoemmakhbiiknaaGreat
open Go.RowKit Go.WideShapes Go.ChangeShapes Go.ChangeAt Go.Deep
set_option linter.unusedVariables false

/-- One instance, in the program's engine and in the document's. -/
structure NrS (d : PlD) (y : Pw) (n0 X M I base : Nat) (v : Iv) (l : Il) (n1 R J : Nat) (LA : Option Addr) (lc : Nat) (od : Nat → Int) (vO : Value) (lj : Il) (w : World) : Prop where
  e : IsEng n0 X M [(v.ord, I)] w
  i : IsI base I (.pointer (some ⟨d.P, 0, none⟩)) v l w
  p : PlOk d 0 y w
  dn : DEn n1 R LA lc [J] od vO w
  j : DsI J d.RP v lj w
  od : od J = v.ord
section
variable {d : PlD} {y : Pw} {n0 X M I base : Nat} {v : Iv} {l : Il} {n1 R J : Nat} {LA : Option Addr} {lc : Nat} {od : Nat → Int} {vO : Value} {lj : Il} {w w' : World}
theorem NrS.next (h : NrS d y n0 X M I base v l n1 R J LA lc od vO lj w) (hb : Below w.heap.size w w') : NrS d y n0 X M I base v l n1 R J LA lc od vO lj w' := ⟨h.e.next hb, h.i.next hb, h.p.next hb, h.dn.next hb, h.j.next hb, h.od⟩
theorem NrS.state (h : NrS d y n0 X M I base v l n1 R J LA lc od vO lj w) : Calls Tryz.prog 24 #[.pointer (some ⟨X, 0, none⟩), .pointer (some ⟨R, 0, none⟩)] w fun e w' => e = .returned (.bool true) ∧ Below w.heap.size w w' :=
  state_one w h.e h.i h.p.p.p h.dn h.od h.j h.p.r
end
/-- After a Start the instance's numbers are in their bounds. -/
theorem tries_go (Ls : List Stp) (Bs : List IRow) (v : Iv) (h : ∀ t ∈ v.ts, 0 ≤ t ∧ t ≤ 1) : ∀ t ∈ (goV Ls Bs v).ts, 0 ≤ t ∧ t ≤ 1 := by
  have hset : ∀ {ts : List Int} (k : Nat), (∀ t ∈ ts, 0 ≤ t ∧ t ≤ 1) → ∀ t ∈ ts.set k 1, 0 ≤ t ∧ t ≤ 1 := fun {ts} k h t ht => by
    rcases List.mem_or_eq_of_mem_set ht with h1 | h1
    · exact h t h1
    · omega
  have hN : ∀ k, ∀ t ∈ (goN Ls Bs v k).ts, 0 ≤ t ∧ t ≤ 1 := fun k => by
    induction k with
    | zero => exact h
    | succ k ih =>
      show ∀ t ∈ (goS Ls Bs (goN Ls Bs v k) k).ts, _
      unfold goS
      split
      · cases Ls[k]? with
        | none => exact ih
        | some t => show ∀ x ∈ (bgV _ _ _).ts, _; unfold bgV; split <;> (try split) <;> first | exact ih | exact hset k ih
      · exact ih
  unfold goV
  split <;> exact hN _
theorem goV_ts (Ls : List Stp) (Bs : List IRow) (v : Iv) : (goV Ls Bs v).ts.length = v.ts.length := by
  have hN : ∀ k, (goN Ls Bs v k).ts.length = v.ts.length := fun k => by
    induction k with
    | zero => rfl
    | succ k ih =>
      show (goS Ls Bs (goN Ls Bs v k) k).ts.length = _
      unfold goS
      split
      · cases Ls[k]? with
        | none => exact ih
        | some t => show (bgV _ _ _).ts.length = _; unfold bgV; split <;> (try split) <;> first | exact ih | (simp; exact ih)
      · exact ih
  unfold goV
  split <;> exact hN _
theorem goV_st (Ls : List Stp) (Bs : List IRow) (v : Iv) (h : v.st = 0) : (goV Ls Bs v).st = 0 ∨ (goV Ls Bs v).st = 2 := by
  have hN : ∀ k, (goN Ls Bs v k).st = v.st := fun k => by
    induction k with
    | zero => rfl
    | succ k ih =>
      show (goS Ls Bs (goN Ls Bs v k) k).st = _
      unfold goS
      split
      · cases Ls[k]? with
        | none => exact ih
        | some t => show (bgV _ _ _).st = _; unfold bgV; split <;> (try split) <;> exact ih
      · exact ih
  unfold goV
  split
  · left; rw [hN, h]
  · right; rfl
theorem goV_mk {v : Iv} (Ls : List Stp) (Bs : List IRow) (h : MkOk v.ms) : MkOk (goV Ls Bs v).ms := by
  unfold goV
  split <;> exact goN_mk Ls Bs h _
theorem put_start (Ls : List Stp) (Bs : List IRow) (o : Int) : putB Ls.length (goV Ls Bs (newV o Ls.length)).st (goV Ls Bs (newV o Ls.length)).ms (goV Ls Bs (newV o Ls.length)).ts = true := by
  have h1 : (goV Ls Bs (newV o Ls.length)).ms.length = Ls.length := by rw [goV_ms]; simp [newV]
  have h2 : (goV Ls Bs (newV o Ls.length)).ts.length = Ls.length := by rw [goV_ts]; simp [newV]
  have h3 := goV_st Ls Bs (newV o Ls.length) rfl
  have h4 := goV_mk Ls Bs (newV_mk o Ls.length)
  have h5 := tries_go Ls Bs (newV o Ls.length) (fun t ht => by
    have := List.eq_of_mem_replicate (show t ∈ List.replicate Ls.length (0 : Int) from ht)
    omega)
  generalize goV Ls Bs (newV o Ls.length) = V at *
  have h6 : V.ms.any oddB = false := by
    rw [List.any_eq_false]
    intro m hm
    have := h4 m hm
    simp [oddB]
    omega
  have h7 : V.ts.any belB = false := by
    rw [List.any_eq_false]
    intro m hm
    have := h5 m hm
    simp [belB]
    omega
  unfold putB
  rw [h1, h2, h6, h7]
  rcases h3 with h3 | h3 <;> rw [h3] <;> simp

/-- A row of numbers of the call's own, whatever they are. -/
def RowI (t : TypeId) (base : Nat) (w : World) (A : Option Addr) (n cap : Nat) : Prop := ∃ xs : List Int, xs.length = n ∧ w.ownsRow base t 1 (.slice A n cap) n (xs.flatMap en1)
section
variable {t : TypeId} {base n cap : Nat} {w w' : World} {A : Option Addr}
theorem RowI.touch {S : Nat → Prop} (h : RowI t base w A n cap) (hT : Touch S w w') (hS : ∀ g, (Value.slice A n cap).ownBlock = some g → ¬ S g) : RowI t base w' A n cap := by
  obtain ⟨xs, h1, h2⟩ := h
  exact ⟨xs, h1, own_touch h2 hT hS⟩
theorem RowI.at_ (h : RowI t base w A n cap) {j : Nat} (hj : j < n) : ∃ g a, A = some ⟨g, 0, none⟩ ∧ base ≤ g ∧ g < w.heap.size ∧ w.cell? ⟨g, j, none⟩ = some (.int .i64 a) ∧ w.frozen? ⟨g, j, none⟩ = false := by
  obtain ⟨xs, h1, h2⟩ := h
  obtain ⟨g, rfl⟩ := own_formR h2 hj
  have hl := h2.lt g rfl
  have hx : xs[j]? = some xs[j] := List.getElem?_eq_getElem (by omega)
  refine ⟨g, xs[j], rfl, hl.1, hl.2, ?_, h2.frozenAt j⟩
  rw [h2.cellAt j (by omega)]
  have := getElem?_flatMap en1 1 (fun _ => rfl) xs j xs[j] hx 0 (by omega)
  simpa [en1] using this
theorem RowI.put (h : RowI t base w A n cap) (g o : Nat) (b : Int) : RowI t base (w.setCell ⟨g, o, none⟩ (.int .i64 b)) A n cap := by
  obtain ⟨xs, h1, h2⟩ := h
  by_cases hg : (Value.slice A n cap).ownBlock = some g
  · obtain ⟨g', e⟩ : ∃ g', A = some ⟨g', 0, none⟩ := by
      rcases h2.2 with ⟨e, h0⟩ | ⟨g', c', cur, e, _⟩
      · rw [e] at hg; cases hg
      · simp only [Value.slice.injEq] at e
        exact ⟨g', e.1⟩
    subst e
    have e2 : g' = g := by simpa [Value.ownBlock] using hg
    subst e2
    obtain ⟨h3, _⟩ := h2.stored o (.int .i64 b)
    by_cases ho : o < xs.length
    · refine ⟨xs.set o b, by rw [List.length_set]; exact h1, ?_⟩
      have := set_flat en1 1 (fun _ => rfl) xs o 0 xs[o] (.int .i64 b) (List.getElem?_eq_getElem ho) (by omega) b rfl
      rw [Nat.mul_one, Nat.add_zero] at this
      rw [← this]
      exact h3
    · refine ⟨xs, h1, ?_⟩
      have e3 : (xs.flatMap en1).set o (.int .i64 b) = xs.flatMap en1 := List.set_eq_of_length_le (by rw [flat_en1]; simp; omega)
      rw [e3] at h3
      exact h3
  · exact ⟨xs, h1, own_touch h2 (Touch.setCell w g o _) (fun g' hg' e => hg (by rw [hg', e]))⟩
end
/-- A saved instance in the law's hands, its rows new. -/
structure SvS (w0 : World) (nb G : Nat) (c : Int × Int × Bool) (n : Nat) (MA : Option Addr) (mc : Nat) (TA : Option Addr) (tc : Nat) (w : World) : Prop where
  g : Blk w G 40 #[.int .i64 c.1, .int .i64 c.2.1, .bool c.2.2, .slice MA n mc, .slice TA n tc]
  m : RowI 71 nb w MA n mc
  t : RowI 3 nb w TA n tc
  b : Below nb w0 w
  lo : nb ≤ G ∧ nb ≤ w.heap.size
section
variable {w0 w w' : World} {nb G n mc tc : Nat} {c : Int × Int × Bool} {MA TA : Option Addr}
theorem SvS.next (h : SvS w0 nb G c n MA mc TA tc w) (hb : Below w.heap.size w w') : SvS w0 nb G c n MA mc TA tc w' :=
  ⟨h.g.next hb, h.m.touch (Touch.of_below (S := fun _ => False) hb) (fun _ _ h => h), h.t.touch (Touch.of_below (S := fun _ => False) hb) (fun _ _ h => h), h.b.trans ⟨hb.os, hb.tape, hb.output, hb.size, fun k hk => hb.block k (by have := h.lo.2; omega)⟩, h.lo.1, Nat.le_trans h.lo.2 hb.size⟩
theorem SvS.put (h : SvS w0 nb G c n MA mc TA tc w) {g : Nat} (hg : nb ≤ g ∧ g ≠ G) (o : Nat) (b : Int) : SvS w0 nb G c n MA mc TA tc (w.setCell ⟨g, o, none⟩ (.int .i64 b)) := by
  have hT := Touch.setCell w g o (.int .i64 b)
  exact ⟨hT.blk h.g (fun e => hg.2 e.symm), h.m.put g o b, h.t.put g o b, h.b.trans (hT.below h.lo.2 (fun k hk => by rw [hk]; exact hg.1)), h.lo.1, by rw [setD_size]; exact h.lo.2⟩
theorem SvS.row (h : SvS w0 nb G c n MA mc TA tc w) {j : Nat} (hj : j < n) : ∃ g1 a1 g2 a2, MA = some ⟨g1, 0, none⟩ ∧ TA = some ⟨g2, 0, none⟩ ∧ (nb ≤ g1 ∧ g1 ≠ G) ∧ (nb ≤ g2 ∧ g2 ≠ G) ∧ g1 ≠ g2 ∧ (g1 < w.heap.size ∧ g2 < w.heap.size) ∧ w.cell? ⟨g1, j, none⟩ = some (.int .i64 a1) ∧ w.frozen? ⟨g1, j, none⟩ = false ∧ w.cell? ⟨g2, j, none⟩ = some (.int .i64 a2) ∧ w.frozen? ⟨g2, j, none⟩ = false := by
  obtain ⟨g1, a1, e1, l1, s1, c1, f1⟩ := h.m.at_ hj
  obtain ⟨g2, a2, e2, l2, s2, c2, f2⟩ := h.t.at_ hj
  obtain ⟨xs, _, hx⟩ := h.m
  obtain ⟨ys, _, hy⟩ := h.t
  refine ⟨g1, a1, g2, a2, e1, e2, ⟨l1, fun e => own_notBlk hx h.g (by decide) (by rw [e1, e]; rfl)⟩, ⟨l2, fun e => own_notBlk hy h.g (by decide) (by rw [e2, e]; rfl)⟩, fun e => own_ne hx hy (by decide) (g := g1) (by rw [e1]; rfl) (by rw [e2, e]; rfl), ⟨s1, s2⟩, c1, f1, c2, f2⟩
end
/-- What the program's Start leaves of the plans and of what is made ahead. -/
theorem nn_start {w0 wr W w15 : World} {ds : List PlD} {pA rA : Option Addr} {pc rc : Nat} {d : PlD} {y : Pw} {n0 X M I R : Nat} {l : Il} {o : Int} (hW : PnS w0 ds pA pc rA rc wr) (hd : d ∈ ds) (hin : ∀ g, PlV d.P d.Ls d.Bs y g → d.lo ≤ g ∧ g < d.mid) (hb : Below wr.heap.size wr W) (hM : wr.heap.size ≤ M) (hE : IsEng n0 X M [] W) (hR : Blk W R 34 #[.slice none 0 0, .slice none 0 0]) (hRl : wr.heap.size ≤ R)
    (hI : InP W.heap.size d.base I d.P d.nm d.Ls d.Bs 0 y { goV d.Ls d.Bs (newV o d.Ls.length) with out := [] } l w15) (hT : Touch (fun g => g = M ∨ g = d.P) W w15) :
    PnS w0 ds pA pc rA rc w15 ∧ Touch (· = d.P) wr w15 ∧ DEn wr.heap.size R none 0 [] (fun _ => 0) (.slice none 0 0) w15 := by
  have hT15 : Touch (· = d.P) wr w15 := (Touch.of_below hb).trans hT (fun k hk => by
    rcases hk with hk | hk
    · right; rw [hk]; exact hM
    · exact .inl hk)
  refine ⟨hW.asked hd hT15 hI.p hin, hT15, ⟨hT.blk hR (fun e => ?_), World.ownsRow_nil _ _ _ _, fun b hb => (by cases hb), hRl, fun b hb => (by cases hb)⟩⟩
  rcases e with e | e
  · exact hE.map.notBlk hR e.symm
  · have h1 := (hW.ok d hd).hi
    have h2 := hin _ (.inl rfl)
    omega
/-- What the document's Start leaves. -/
theorem nn_made {w0 wr W w15 w17 : World} {ds : List PlD} {pA rA LA : Option Addr} {pc rc lc : Nat} {d : PlD} {y : Pw} {n0 n00 X M I R J : Nat} {Xs : Nat → Prop} {l lj : Il} {o : Int} {V : Iv} {vO : Value} {od : Nat → Int} (hW : PnS w0 ds pA pc rA rc wr) (hd : d ∈ ds) (hin : ∀ g, PlV d.P d.Ls d.Bs y g → d.lo ≤ g ∧ g < d.mid) (hRl : wr.heap.size ≤ R ∧ R < W.heap.size) (hV : V = goV d.Ls d.Bs (newV o d.Ls.length))
    (hI : InP W.heap.size d.base I d.P d.nm d.Ls d.Bs 0 y { V with out := [] } l w15) (hE : IsEng n0 X M (mset [] o I) w15) (hT15 : Touch (· = d.P) wr w15) (hR : Blk w15 R 34 #[.slice none 0 0, .slice none 0 0])
    (hDE : DEn wr.heap.size R LA lc ([] ++ [J]) od vO w17) (hD : IsD n00 Xs R J d.RP (.slice LA 1 lc) V lj w17) (hod : od J = o) (hT : Touch (DV R none 0 0) w15 w17) :
    PnS w0 ds pA pc rA rc w17 ∧ Touch (· = d.P) wr w17 ∧ NrS d y n0 X M I W.heap.size { V with out := [] } l wr.heap.size R J LA lc od vO lj w17 := by
  have hDV : ∀ g, DV R none 0 0 g → g = R := fun g hg => by
    rcases hg with hg | hg
    · exact hg
    · cases hg
  have hT17 : Touch (· = d.P) wr w17 := hT15.trans hT (fun k hk => by right; rw [hDV k hk]; exact hRl.1)
  have hM := hW.ok d hd
  have hPI : ∀ g, DV R none 0 0 g → ¬ PlV d.P d.Ls d.Bs y g := fun g hg hu => by
    have h1 := hin g hu
    have h2 := hM.hi
    have h3 := hDV g hg
    omega
  have hPl : PlY d.base d.nm d.P d.Ls d.Bs 0 y w17 := ⟨hI.p.p.touchS hT hPI, hI.p.ok, hI.p.nil, hI.p.rows, hI.p.aft⟩
  have hP17 := hW.asked hd hT17 hPl hin
  obtain ⟨y2, hy2, _⟩ := (hP17.ok d hd).ok
  have hord : V.ord = o := by rw [hV, goV_ord]; rfl
  refine ⟨hP17, hT17, ⟨?_, hI.i.touch hT (fun g hg hu => ?_), ⟨hPl, hy2.r⟩, by simpa using hDE, ⟨hD.b, own_rd hD.m, own_rd hD.t⟩, by rw [hod, hord]⟩⟩
  · have := hE.touch hT (fun hu => hE.blk.ne_ hR (by decide) (hDV _ hu)) (fun hu => hE.map.notBlk hR (hDV _ hu))
    rw [mset_new rfl] at this
    show IsEng n0 X M [(V.ord, I)] w17
    rw [hord]
    exact this
  · have h1 := (hI.i.use hu).1
    have h2 := hDV g hg
    omega

end Go.Proofs.YtoemmakhbiiknaaGreat

namespace Go.Proofs.YtoemmakhbiiknaaGreat
open Go.RowKit Go.WideShapes Go.ChangeShapes Go.ChangeAt Go.Deep
set_option linter.unusedVariables false

set_option maxRecDepth 100000 in
set_option maxHeartbeats 64000000 in
theorem engineNone_walk (l : List FDef) (A : Option Addr) (cp : Nat) (o : Int) (w : World) (hR : Rd w A (l.flatMap enFD)) (hok : ∀ d ∈ l, OkFD w d) (hl : l.length * 40 ≤ 140737488351232) :
    Calls Tryz.prog 5 #[.slice A l.length cp, .int .i64 o] w (Law w) := by
  have HR := hid hR
  have HOK := hid hok
  have hFN : ∀ w : World, Same 28 #[.pointer none, .int .i64 o] (.tuple #[.pointer none, .int .i64 1]) w := fun w => find_nil o w
  have hAN : ∀ w : World, Same 30 #[.pointer none, .int .i64 o, .int .i64 0] (.tuple #[.pointer none, .int .i64 1]) w := fun w => at_nil o 0 w
  have K1 := hid (get_err (w := w) (.pointer none) o 1 (.inl rfl) (fun w' _ => hFN w'))
  have K2 := hid (fun w => start_err (w := w) (.pointer none) o (.pointer none) 1 (.inl rfl) (room_nil o (.pointer none) w))
  have K3 := hid (fun w => reply_err (w := w) (.pointer none) o 0 0 0 true 1 (.inl rfl) (hAN w))
  have K4 := hid (fun w => fire_err (w := w) (.pointer none) o 0 1 (.inl rfl) (hAN w))
  have K5 := hid (fun w => paid_err (w := w) (.pointer none) o 1 (.inl rfl) (hFN w))
  have K6 := hid (fun w => cancel_err (w := w) (.pointer none) o 1 (.inl rfl) (hFN w))
  have K7 := hid enew_any
  have K8 := hid (fun (X : Nat) w => start_err (w := w) (.pointer (some ⟨X, 0, none⟩)) o (.pointer none) 1 (.inl rfl) (room_nil2 X o w))
  have K9 := hid wakes13
  have K10 := hid (fun w => put_err (w := w) (.pointer none) (.pointer none) 0 0 false (.slice none 0 0) (.slice none 0 0) 1 (.inl rfl) (fun w' _ => room_nil 0 (.pointer none) w') rfl rfl)
  have K11 := hid (fun w => live_nil (w := w))
  have K12 := hid (fun w => orders_nil (w := w))
  unfold Same at K2 K3 K4 K5 K6 K8 K11 K12
  clear hR hok hFN hAN
  go_enter Tryz.func5, Tryz.ntmps5
  go_wp2_with fail
  refine K1.out.mono ?_
  rintro e w1 ⟨rfl, hb1⟩
  rw [show zSaved = .agg #[.int .i64 0, .int .i64 0, .bool false, .slice none 0 0, .slice none 0 0] from rfl]
  have HB1 := hid hb1
  clear hb1 K1
  go_wp2_with fail
  have HBW := hid (HB1.out.alloc HB1.out.size (.cells #[.int .i64 0, .int .i64 0, .bool false, .slice none 0 0, .slice none 0 0] 40))
  generalize w1.alloc (.cells #[.int .i64 0, .int .i64 0, .bool false, .slice none 0 0, .slice none 0 0] 40) = W1 at HBW ⊢
  clear HB1
  refine (K2.out W1).mono ?_
  rintro e w2 ⟨rfl, rfl⟩
  clear K2
  go_wp2_with fail
  refine (K3.out w2).mono ?_
  rintro e w3 ⟨rfl, rfl⟩
  clear K3
  go_wp2_with fail
  refine (K4.out w3).mono ?_
  rintro e w4 ⟨rfl, rfl⟩
  clear K4
  go_wp2_with fail
  refine (K5.out w4).mono ?_
  rintro e w5 ⟨rfl, rfl⟩
  clear K5
  go_wp2_with fail
  refine (K6.out w5).mono ?_
  rintro e w6 ⟨rfl, rfl⟩
  clear K6
  go_wp2_with fail
  refine (K7.out w6).mono ?_
  rintro e w7 ⟨X7, M7, rfl, _, hb7⟩
  have HB7 := hid (bthen HBW.out hb7)
  clear hb7 HBW
  go_wp2_with fail
  refine (K8.out X7 w7).mono ?_
  rintro e w8 ⟨rfl, rfl⟩
  clear K8
  go_wp2_with fail
  refine (K9.out w8).mono ?_
  rintro e w9 ⟨rfl, hb9⟩
  have HB9 := hid (bthen HB7.out hb9)
  clear hb9 HB7 K9
  go_wp2_with fail
  refine (K10.out w9).mono ?_
  rintro e w10 ⟨rfl, hb10⟩
  have HB10 := hid (bthen HB9.out hb10)
  clear hb10 HB9 K10
  go_wp2_with fail
  refine (K11.out w10).mono ?_
  rintro e w11 ⟨rfl, rfl⟩
  clear K11
  go_wp2_with fail
  refine (K12.out w11).mono ?_
  rintro e w12 ⟨rfl, rfl⟩
  clear K12
  have KP := hid (plans13 l A cp w12 (HR.out.below HB10.out) (fun d hd => by
    have := HOK.out d hd
    exact ⟨this.rd.below HB10.out, fun s hs => (this.ok s hs) |> fun h => ⟨h.row.below HB10.out, h.len⟩, this.len, this.nms⟩) hl)
  go_wp2_with fail
  refine KP.out.mono ?_
  rintro e w13 ⟨ds, pA, pc, rA, rc, rfl, hdl, HS0⟩
  have HS := hid HS0
  clear HS0 KP
  go_wp2_with fail
  go_loopw [131] (fun i wr => ∃ k : Nat, k ≤ ds.length ∧ i = .int .i64 k ∧ Hid (PnS w12 ds pA pc rA rc wr)) (fun i _ => ds.length - nOf i)
  case atStart => exact ⟨0, Nat.zero_le _, rfl, HS⟩
  case round =>
    obtain ⟨k, hk, rfl, HW⟩ := hrel
    obtain ⟨wu, hwu⟩ : ∃ wu, wu = wr := ⟨wr, rfl⟩
    subst hwu
    by_cases hlt : k < ds.length
    · obtain ⟨d, hd⟩ : ∃ d, ds[k]? = some d := ⟨ds[k], List.getElem?_eq_getElem hlt⟩
      obtain ⟨b, off, hAA, _, hcc⟩ := (own_rd HW.out.po).at_ (enc := fun d : PlD => enB13 d.P) 1 (fun _ => rfl) (by omega) hd
      have q0 : wu.cell? ⟨b, off + k * 1, none⟩ = some (.pointer (some ⟨d.P, 0, none⟩)) := hcc 0 _ rfl
      rw [Nat.mul_one] at q0
      have HAA := hid hAA
      have HD := hid (List.mem_of_getElem? hd)
      have HDK := hid hd
      obtain ⟨b2, off2, hA2, _, _⟩ := (own_rd HW.out.ro).at_ (enc := fun d : PlD => enB13 d.RP) 1 (fun _ => rfl) (by omega) hd
      have HA2 := hid hA2
      rw [hAA, hA2]
      clear hcc hAA hd hA2
      go_wp2_with fail
      refine (K7.out wu).mono ?_
      rintro e wa ⟨X, M, rfl, hE, hba⟩
      have hMl : wu.heap.size ≤ M := hE.low.2
      have HE := hid (hE.next ((Below.refl _ _).alloc (Nat.le_refl _) (.cells #[.slice none 0 0, .slice none 0 0] 34)))
      have HBA := hid (hba.alloc hba.size (.cells #[.slice none 0 0, .slice none 0 0] 34))
      have HRB := hid (Blk.new wa 34 #[.slice none 0 0, .slice none 0 0])
      have HRS := hid (show wu.heap.size ≤ wa.heap.size ∧ wa.heap.size < (wa.alloc (.cells #[.slice none 0 0, .slice none 0 0] 34)).heap.size from ⟨hba.size, by simp⟩)
      obtain ⟨y, hpo, hin⟩ := (HW.out.ok d HD.out).ok
      have KS := hid (start_any (hpo.next HBA.out).p HE.out o rfl)
      have HIN := hid hin
      have HML := hid hMl
      clear hE hba hpo hin hMl
      go_wp2_with fail
      generalize wa.alloc (.cells #[.slice none 0 0, .slice none 0 0] 34) = W at KS HE HBA HRB HRS ⊢
      generalize wa.heap.size = R at HRB HRS ⊢
      refine KS.out.mono ?_
      rintro e w15 ⟨I, OA, oc, l1, rfl, hI, hE2, hT, hO, hl⟩
      clear KS
      obtain ⟨V, hV⟩ : ∃ V, V = goV d.Ls d.Bs (newV o d.Ls.length) := ⟨_, rfl⟩
      have HP15 := hid (nn_start HW.out HD.out HIN.out HBA.out HML.out HE.out HRB.out HRS.out.1 hI hT)
      rw [← hV] at hI ⊢
      have HV := hid hV
      have HI := hid hI
      have HE2 := hid hE2
      clear hV hI hE2 hT hO hl q0
      obtain ⟨b2', off2', hA2, _, hcc2⟩ := (own_rd HP15.out.1.ro).at_ (enc := fun d : PlD => enB13 d.RP) 1 (fun _ => rfl) (by omega) HDK.out
      rw [HA2.out] at hA2
      simp only [Option.some.injEq, Addr.mk.injEq, and_true] at hA2
      obtain ⟨rfl, rfl⟩ := hA2
      have q1 : w15.cell? ⟨b2, off2 + k * 1, none⟩ = some (.pointer (some ⟨d.RP, 0, none⟩)) := hcc2 0 _ rfl
      rw [Nat.mul_one] at q1
      clear hcc2
      obtain ⟨y2, hy2, _⟩ := (HP15.out.1.ok d HD.out).ok
      have hf15 := (HP15.out.1.ok d HD.out).f
      have KD := hid (dstart_any (bG := d.hi) HP15.out.2.2 hy2.r (fun s hs b hb => (hf15.ir b (.inr (.inr ⟨s, hs, hb⟩))).2) (HW.out.ok d HD.out).hi.2 hf15.s o (by decide) rfl)
      clear hy2 hf15
      go_wp2_with fail
      refine KD.out.mono ?_
      rintro e w17 ⟨J, LA', lc', lj, n0', Xs, rfl, hDE, hD, hTD, hJl, _⟩
      rw [← HV.out] at hDE hD ⊢
      have HN := hid (nn_made HW.out HD.out HIN.out HRS.out HV.out HI.out HE2.out HP15.out.2.1 HP15.out.2.2.r hDE hD (by simp) hTD)
      clear KD hDE hD hTD hJl q1
      obtain ⟨Z, hZ⟩ : ∃ Z : Iv, Z = { V with out := [] } := ⟨_, rfl⟩
      have hPB : putB d.Ls.length Z.st Z.ms Z.ts = true := by rw [hZ, HV.out]; exact put_start d.Ls d.Bs o
      have hZo : Z.ord = o := by rw [hZ]; show V.ord = o; rw [HV.out, goV_ord]; rfl
      have hZm : Z.ms.length = d.Ls.length := by rw [hZ]; show V.ms.length = _; rw [HV.out, goV_ms]; simp [newV]
      have hZt : Z.ts.length = d.Ls.length := by rw [hZ]; show V.ts.length = _; rw [HV.out, goV_ts]; simp [newV]
      have hnn : d.Ls.length ≤ 40 := (HN.out.1.ok d HD.out).f.n40
      rw [← hZ] at HN
      have HZ := hid (And.intro hPB (And.intro hZo (And.intro hZm hZt)))
      have HZE := hid (show Z = ⟨Z.ord, Z.st, Z.paid, Z.ms, Z.ts, []⟩ from by rw [hZ])
      have HP17 := hid (And.intro HN.out.1 HN.out.2.1)
      have HR17 := hid HN.out.2.2
      obtain ⟨n, hn0⟩ : ∃ n, n = d.Ls.length := ⟨_, rfl⟩
      have KG := hid (get_some HR17.out.i (.pointer (some ⟨X, 0, none⟩)) o (fun w' hb' => by
        have := efind_any (HR17.out.e.next hb') o
        rw [show findV [(Z.ord, I)] o = (.pointer (some ⟨I, 0, none⟩), 0) from by unfold findV; rw [hZo]; simp [mget, pB]] at this
        exact this))
      have HNN := hid hn0
      rw [← hn0] at hnn
      clear hPB hZo hZm hZt hn0 HN hZ HI HE2 HP15
      go_wp2_with fail
      refine KG.out.mono ?_
      rintro e w18 ⟨M8, m8, T8, t8, rfl, hm8, ht8, hb8⟩
      clear KG
      rw [show svC Z.ord Z.st Z.paid Z.ms M8 m8 Z.ts T8 t8 = #[.int .i64 Z.ord, .int .i64 Z.st, .bool Z.paid, .slice M8 n m8, .slice T8 n t8] from by unfold svC; rw [HZ.out.2.2.1, HZ.out.2.2.2, ← HNN.out]]
      have HSV := hid (show SvS w17 w17.heap.size w18.heap.size (Z.ord, Z.st, Z.paid) n M8 m8 T8 t8 (w18.alloc (.cells #[.int .i64 Z.ord, .int .i64 Z.st, .bool Z.paid, .slice M8 n m8, .slice T8 n t8] 40)) from
        ⟨Blk.new w18 _ _, ⟨Z.ms, by rw [HZ.out.2.2.1, HNN.out], by rw [HZ.out.2.2.1, ← HNN.out] at hm8; exact hm8.alloc _⟩, ⟨Z.ts, by rw [HZ.out.2.2.2, HNN.out], by rw [HZ.out.2.2.2, ← HNN.out] at ht8; exact ht8.alloc _⟩, hb8.alloc hb8.size _, hb8.size, by have := hb8.size; simp; omega⟩)
      go_upto_region 19 with fail
      generalize w18.alloc (.cells #[.int .i64 Z.ord, .int .i64 Z.st, .bool Z.paid, .slice M8 n m8, .slice T8 n t8] 40) = W18 at HSV ⊢
      generalize w18.heap.size = G at HSV ⊢
      clear hm8 ht8 hb8
      have s3 : W18.cell? ⟨G, 3, none⟩ = some (.slice M8 n m8) := HSV.out.g.cell 3
      have lG := HSV.out.g.lt
      go_wp2_with fail
      clear s3 lG
      go_loopw [160] (fun i wr => ∃ j : Nat, j ≤ n ∧ i = .int .i64 j ∧ Hid (SvS w17 w17.heap.size G (Z.ord, Z.st, Z.paid) n M8 m8 T8 t8 wr)) (fun i _ => n - nOf i)
      case atStart => exact ⟨0, Nat.zero_le _, rfl, HSV⟩
      case round =>
        obtain ⟨j, hj, rfl, HQ⟩ := hrel
        by_cases hjl : j < n
        · obtain ⟨g1, a1, g2, a2, e1, e2, n1, n2, hne, hlt12, c1, f1, c2, f2⟩ := HQ.out.row hjl
          subst e1 e2
          have s3 : wr.cell? ⟨G, 3, none⟩ = some (.slice (some ⟨g1, 0, none⟩) n m8) := HQ.out.g.cell 3
          have s4 : wr.cell? ⟨G, 4, none⟩ = some (.slice (some ⟨g2, 0, none⟩) n t8) := HQ.out.g.cell 4
          have lG := HQ.out.g.lt
          have l1 := hlt12.1
          have l2 := hlt12.2
          have hG1 := n1.2
          have hG2 := n2.2
          have H1 := hid ((HQ.out.put n1 j 5).put n2 j (-1))
          have H2 := hid ((HQ.out.put n2 j (-1)).put n1 j 5)
          go_upto_region 22 with fail
          go_region
          all_goals
            clear c1 f1 c2 f2 s3 s4
            go_wp2_with fail
            go_roundw
            case rel => exact ⟨j + 1, by omega, by go_num, by first | exact hid (H1.out.next (below_drewN (Below.refl _ _) 1)) | exact hid (H2.out.next (below_drewN (Below.refl _ _) 1)) | exact H1 | exact H2⟩
            case measure => simp [nOf]; omega
        · have hj' : n = j := by omega
          subst hj'
          have HB17 := hid (show Below w17.heap.size w17 wr from HQ.out.b)
          have KS1 := hid ((HR17.out.next HB17.out).state)
          go_wp2_with fail
          refine KS1.out.mono ?_
          rintro e w24 ⟨rfl, hb24⟩
          have HB24 := hid (bthen HB17.out hb24)
          have HQ24 := hid (HQ.out.next hb24)
          clear KS1 HB17 hb24
          have KG2 := hid (get_some (HR17.out.next HB24.out).i (.pointer (some ⟨X, 0, none⟩)) o (fun w' hb' => by
            have := efind_any (((HR17.out.next HB24.out).next hb').e) o
            rw [show findV [(Z.ord, I)] o = (.pointer (some ⟨I, 0, none⟩), 0) from by unfold findV; rw [HZ.out.2.1]; simp [mget, pB]] at this
            exact this))
          go_wp2_with fail
          refine KG2.out.mono ?_
          rintro e w26 ⟨M9, m9, T9, t9, rfl, hm9, ht9, hb26⟩
          clear KG2
          rw [show svC Z.ord Z.st Z.paid Z.ms M9 m9 Z.ts T9 t9 = #[.int .i64 Z.ord, .int .i64 Z.st, .bool Z.paid, .slice M9 n m9, .slice T9 n t9] from by unfold svC; rw [HZ.out.2.2.1, HZ.out.2.2.2, ← HNN.out]]
          rw [HZ.out.2.2.1, ← HNN.out] at hm9
          rw [HZ.out.2.2.2, ← HNN.out] at ht9
          have hQ26 := HQ24.out.next hb26
          have HG26 := hid hQ26.g
          obtain ⟨w27, hw27⟩ : ∃ w27, w27 = w26.setRow G #[.int .i64 Z.ord, .int .i64 Z.st, .bool Z.paid, .slice M9 n m9, .slice T9 n t9] := ⟨_, rfl⟩
          have HSR := hid hw27
          have hT27 : Touch (· = G) w26 w27 := by rw [hw27]; exact Touch.setRow w26 G _
          have HSV9 := hid (show SvS w17 w17.heap.size G (Z.ord, Z.st, Z.paid) n M9 m9 T9 t9 w27 ∧ Rd w27 M9 (Z.ms.flatMap en1) ∧ Rd w27 T9 (Z.ts.flatMap en1) from by
            have x1 : w27.ownsRow w24.heap.size 71 1 (.slice M9 n m9) n (Z.ms.flatMap en1) := own_touch hm9 hT27 (fun g hg e => own_notBlk hm9 hQ26.g (by decide) (by rw [hg, e]))
            have x2 : w27.ownsRow w24.heap.size 3 1 (.slice T9 n t9) n (Z.ts.flatMap en1) := own_touch ht9 hT27 (fun g hg e => own_notBlk ht9 hQ26.g (by decide) (by rw [hg, e]))
            have hz := HQ24.out.lo
            refine ⟨⟨by rw [hw27]; exact hQ26.g.setRow _, ⟨Z.ms, by rw [HZ.out.2.2.1, HNN.out], own_base x1 hz.2⟩, ⟨Z.ts, by rw [HZ.out.2.2.2, HNN.out], own_base x2 hz.2⟩, hQ26.b.trans (hT27.below hQ26.lo.2 (fun k hk => by rw [hk]; exact hz.1)), hz.1, Nat.le_trans hQ26.lo.2 hT27.size⟩, own_rd x1, own_rd x2⟩)
          clear hm9 ht9 hQ26 hw27 hT27 hb26
          go_wp2_with (first
            | (refine wpList_store_row rfl 40 _ _ rfl G #[.int .i64 Z.ord, .int .i64 Z.st, .bool Z.paid, .slice M9 n m9, .slice T9 n t9] rfl rfl 40 _ HG26.out (by kernel_rfl) (by rfl) (by simp [Value.oneCell']) ?_; rw [← HSR.out]))
          refine (K7.out w27).mono ?_
          rintro e w28 ⟨Y, N, rfl, hEY, hb28⟩
          have HSV28 := hid (HSV9.out.1.next hb28)
          have s0 : w28.cell? ⟨G, 0, none⟩ = some (.int .i64 Z.ord) := HSV28.out.g.cell 0
          have s1 : w28.cell? ⟨G, 1, none⟩ = some (.int .i64 Z.st) := HSV28.out.g.cell 1
          have s2 : w28.cell? ⟨G, 2, none⟩ = some (.bool Z.paid) := HSV28.out.g.cell 2
          have s3 : w28.cell? ⟨G, 3, none⟩ = some (.slice M9 n m9) := HSV28.out.g.cell 3
          have s4 : w28.cell? ⟨G, 4, none⟩ = some (.slice T9 n t9) := HSV28.out.g.cell 4
          have lG := HSV28.out.g.lt
          have KP1 := put_good (HR17.out.next HSV28.out.b).p.p hEY Z.ord Z.st rfl Z.paid Z.ms M9 m9 Z.ts T9 t9 (HSV9.out.2.1.below hb28) (HSV9.out.2.2.below hb28) (by rw [HZ.out.2.2.1, ← HNN.out]; omega) (by rw [HZ.out.2.2.2, ← HNN.out]; omega) HZ.out.1
          rw [HZ.out.2.2.1, HZ.out.2.2.2, ← HNN.out] at KP1
          have HKP1 := hid KP1
          have HEYM := hid hEY.map
          have H9L := hid (show ∀ g, (Value.slice M9 n m9).ownBlock = some g → g < w28.heap.size from fun g hg => by obtain ⟨xs, _, x2⟩ := HSV28.out.m; exact (x2.lt g hg).2)
          clear KP1 hEY hb28 HG26
          go_wp2_with fail
          refine HKP1.out.mono ?_
          rintro e w29 ⟨I2, l2', rfl, hI2, hE2, hT2⟩
          clear HKP1 s0 s1 s2 s3 s4 lG
          rw [← HZE.out] at hI2
          rw [mset_new rfl, List.nil_append] at hE2
          have hN17 : w17.heap.size ≤ N := by have := hE2.low; have := HSV9.out.1.lo; omega
          have hSV29 : SvS w17 w17.heap.size G (Z.ord, Z.st, Z.paid) n M9 m9 T9 t9 w29 := by
            have h := HSV28.out
            obtain ⟨xs, x1, x2⟩ := h.m
            obtain ⟨ys, y1, y2⟩ := h.t
            exact ⟨hT2.blk h.g (fun e => HEYM.out.notBlk h.g e.symm), h.m.touch hT2 (fun g hg e => HEYM.out.notOwn x2 (by rw [hg, e])), h.t.touch hT2 (fun g hg e => HEYM.out.notOwn y2 (by rw [hg, e])), h.b.trans (hT2.below h.lo.2 (fun k hk => by rw [hk]; exact hN17)), h.lo.1, Nat.le_trans h.lo.2 hT2.size⟩
          have HI2 := hid hI2.i
          have HE2 := hid hE2
          have HSV29 := hid hSV29
          have KP2 := hid (put_err (w := w29) (.pointer (some ⟨Y, 0, none⟩)) (.pointer (some ⟨d.P, 0, none⟩)) Z.ord Z.st Z.paid (.slice M9 n m9) (.slice T9 n t9) 71 (.inr rfl) (fun w' hb' => by
            have := room_any (hE2.next hb') Z.ord d.P
            rw [show roomV [(Z.ord, I2)] Z.ord = 71 from by unfold roomV; simp [mget]] at this
            exact this) rfl rfl)
          have s0 : w29.cell? ⟨G, 0, none⟩ = some (.int .i64 Z.ord) := HSV29.out.g.cell 0
          have s1 : w29.cell? ⟨G, 1, none⟩ = some (.int .i64 Z.st) := HSV29.out.g.cell 1
          have s2 : w29.cell? ⟨G, 2, none⟩ = some (.bool Z.paid) := HSV29.out.g.cell 2
          have s3 : w29.cell? ⟨G, 3, none⟩ = some (.slice M9 n m9) := HSV29.out.g.cell 3
          have s4 : w29.cell? ⟨G, 4, none⟩ = some (.slice T9 n t9) := HSV29.out.g.cell 4
          have lG := HSV29.out.g.lt
          have HLO := hid (show w28.heap.size ≤ w29.heap.size from hT2.size)
          clear hI2 hE2 hT2 hN17 hSV29
          go_wp2_with fail
          refine KP2.out.mono ?_
          rintro e w30 ⟨rfl, hb30⟩
          have HSV30 := hid (HSV29.out.next hb30)
          have HE30 := hid (HE2.out.next hb30)
          have HI30 := hid (HI2.out.next hb30)
          clear KP2 s0 s1 s2 s3 s4 lG hb30
          have s3 : w30.cell? ⟨G, 3, none⟩ = some (.slice M9 n m9) := HSV30.out.g.cell 3
          have lG := HSV30.out.g.lt
          go_wp2_with fail
          clear s3 lG
          go_loopw [199] (fun i wq => ∃ j : Nat, j ≤ n ∧ i = .int .i64 j ∧ Hid (SvS w17 w17.heap.size G (Z.ord, Z.st, Z.paid) n M9 m9 T9 t9 wq ∧ Touch (fun g => (Value.slice M9 n m9).ownBlock = some g) w30 wq)) (fun i _ => n - nOf i)
          case atStart => exact ⟨0, Nat.zero_le _, rfl, hid ⟨HSV30.out, Touch.refl _ _⟩⟩
          case round =>
            obtain ⟨j, hj, rfl, HQ⟩ := hrel
            by_cases hjl : j < n
            · obtain ⟨g1, a1, g2, a2, e1, e2, n1, n2, hne, hlt12, c1, f1, c2, f2⟩ := HQ.out.1.row hjl
              have HE1 := hid e1
              have s3 : wr.cell? ⟨G, 3, none⟩ = some (.slice (some ⟨g1, 0, none⟩) n m9) := by rw [← e1]; exact HQ.out.1.g.cell 3
              have lG := HQ.out.1.g.lt
              have l1 := hlt12.1
              have hG1 := n1.2
              have H1 := hid (And.intro (HQ.out.1.put n1 j 5) (HQ.out.2.then ((Touch.setCell wr g1 j (.int .i64 5)).mono (fun k hk => by rw [e1, hk]; rfl))))
              clear e1 e2 c2 f2 hne hlt12 n1 n2
              go_wp2_with fail
              go_roundw
              case rel => exact ⟨j + 1, by omega, by go_num, H1⟩
              case measure => simp [nOf]; omega
            · have hj' : n = j := by omega
              subst hj'
              have HBZ := hid (show Below w17.heap.size w17 wr from HQ.out.1.b)
              have hNR : NrS d y w27.heap.size Y N I2 w28.heap.size Z l2' wu.heap.size R J LA' lc' (fun b => if b = J then o else 0) (.slice lj.OA V.out.length lj.oc) lj wr := by
                have h17 := HR17.out.next HBZ.out
                obtain ⟨xs, x1, x2⟩ := HSV30.out.m
                refine ⟨HE30.out.touch HQ.out.2 (fun hu => own_notBlk x2 HE30.out.blk (by decide) hu) (fun hu => HE30.out.map.notOwn x2 hu.symm), HI30.out.touch HQ.out.2 (fun g hg hu => ?_), h17.p, h17.dn, h17.j, h17.od⟩
                have h1 := (HI30.out.use hu).1
                have h2 := H9L.out g hg
                omega
              have KS2 := hid hNR.state
              clear hNR
              go_wp2_with fail
              refine KS2.out.mono ?_
              rintro e w35 ⟨rfl, hb35⟩
              have HFI := hid (HP17.out.1.next (bthen HBZ.out hb35))
              clear KS2 hb35
              go_wp2_with fail
              go_roundw
              case rel => exact ⟨k + 1, by omega, by go_num, by have h := HFI.out; rw [HAA.out, HA2.out] at h; exact hid h⟩
              case measure => simp [nOf]; omega
    · have hk' : k = ds.length := by omega
      subst hk'
      go_wp2_with fail
      go_ret
      exact ⟨rfl, bthen HB10.out HW.out.bel⟩

end Go.Proofs.YtoemmakhbiiknaaGreat

namespace Go.Proofs.YtoemmakhbiiknaaGreat
open Go.RowKit Go.WideShapes Go.ChangeShapes Go.ChangeAt Go.Deep
set_option linter.unusedVariables false

theorem bytesDef13 : Tryz.prog.bytesOf 60 = 40 := by kernel_rfl
section
variable {H : Type} {enc : TypeId × Value → H} {w : World} {base : Nat} {spare : Nat → Bool} {held : Bool}
theorem open_defs13 {fuel : Nat} {cs : List Value} {x : DataW H × List MemPlace} (h : DataW.trod enc Tryz.prog w base spare held fuel 22 cs = some x) (hw : Reach Tryz.prog 22 x.1) :
    ∃ (A : Option Addr) (cap : Nat) (l : List FDef), cs = [.slice A l.length cap] ∧ Rd w A (l.flatMap enFD) ∧ (∀ p ∈ l, OkFD w p) ∧ l.length * 40 ≤ 140737488351232 := by
  obtain ⟨A, cap, l, rfl, hR, ok, hd⟩ := open_rows (en := enFD) (Q := OkFD w) (G := Reach Tryz.prog 60) enFD_len (by omega) (by kernel_rfl) Tryz.underlying22 open_def12 h (fun elems sp hx d hd y hy => hw y (by rw [hx]; exact weights_elem Tryz.underlying22 hd hy))
  refine ⟨A, cap, l, rfl, hR, ok, ?_⟩
  rcases hd with hd | ⟨elems, sp, hd, hel⟩
  · omega
  · have := hw _ (by rw [hd]; exact weights_len Tryz.underlying22)
    rw [bytesDef13] at this
    simp only [reachBytes] at this
    omega
end

end Go.Proofs.YtoemmakhbiiknaaGreat

namespace Go.Proofs.YtoemmakhbiiknaaGreat.lawEngineNone
open Go.ChangeShapes Go.WideShapes Go.ChangeAt Go.RowKit 
set_option linter.unusedVariables false

theorem own : ownKnob Tryz.prog.godebug = none := by kernel_rfl
theorem laidOut : laidOutB Tryz.prog = true := by kernel_rfl

set_option maxRecDepth 100000 in
theorem contract (H : Type) (enc : TypeId × Value → H) (W : World) (base : Nat) (args : Array Value) (ds gs : List (DataW H)) (before : List MemPlace)
    (hval : ∀ (j : Nat) t v, Tryz.f5.params[j]? = some t → args[j]? = some v → Value.okWide Tryz.prog W .any base t v)
    (hW : DataW.Whole enc Tryz.prog Tryz.f5.params.toList Rows.engineNoneSpec.vars false W args.toList ds gs before)
    (hsz : (DataW.weightsEach Tryz.prog (Tryz.f5.params.toList ++ Rows.engineNoneSpec.plain.varTypes Tryz.prog) (ds ++ gs)).all (· ≤ reachBytes) = true) :
    Calls Tryz.prog 5 args W fun e W' => ∃ v, e = .returned v ∧ Rows.engineNoneSpec.post enc Tryz.prog Tryz.f5 false true false false W args v W' := by
  have fin : ∀ e W', Law W e W' → ∃ v, e = .returned v ∧ Rows.engineNoneSpec.post enc Tryz.prog Tryz.f5 false true false false W args v W' :=
    fun e W' h => law_post laidOut rfl (fun ds hds => by
      rw [Tryz.params5] at hds
      match ds, hds with
      | [d0, d1], _ => exact ⟨rfl, rfl, rfl⟩) (by rw [Tryz.params5]; intro t ht; simp only [List.mem_cons, List.not_mem_nil, or_false] at ht; rcases ht with rfl | rfl <;> exact ⟨by kernel_rfl, of_decide_eq_true (by kernel_rfl)⟩) (by kernel_rfl) Tryz.underlying4 hW h
  obtain ⟨p, q, hA0, hV, rfl, hfz, hnd⟩ := hW
  have hA : DataW.TrodAll enc Tryz.prog W 0 (fun _ => true) true Tryz.f5.params.toList args.toList ds p := hA0
  rw [Tryz.params5] at hA hval hsz
  obtain ⟨v0, vs0, d0, ds0, p0, q0, hargs, rfl, rfl, h0, r0⟩ := trodAll_cons hA
  obtain ⟨v1, vs1, d1, ds1, p1, q1, rfl, rfl, rfl, h1, r1⟩ := trodAll_cons r0
  obtain ⟨rfl, rfl, rfl⟩ := trodAll_nil r1
  obtain rfl : args = #[v0, v1] := by cases args; simp_all
  obtain ⟨rfl, rfl⟩ := trodVars_none hV
  obtain ⟨A0, len0, cap0, rfl⟩ := okWide_slice Tryz.underlying22 (hval 0 22 v0 rfl rfl)
  obtain ⟨fuel0, hf0⟩ := h0
  obtain ⟨A0', cap0', l0, hcs0, hR0, ok0, hr0⟩ := open_defs13 hf0 (fun y hy => by simpa using List.all_eq_true.1 hsz _ (DataW.weights_mem_each (j := 0) rfl rfl y hy))
  simp [Value.cells] at hcs0
  obtain ⟨rfl, rfl, rfl⟩ := hcs0
  obtain ⟨n1, rfl, rfl, rfl, w1⟩ := open_int Tryz.underlying3 (hval 1 3 v1 rfl rfl) h1
  exact (engineNone_walk l0 A0 cap0 n1 W hR0 ok0 hr0).mono fin

set_option maxRecDepth 100000 in
theorem lifted (os : Os) (started : os.Started) (H : Type) (enc : TypeId × Value → H) :
    ReturnsInHanded {} Tryz.checked os 5 .any (Rows.engineNoneSpec.pre6 enc Tryz.prog Tryz.f5 Rows.engineNoneRow.domain false) (Rows.engineNoneSpec.post enc Tryz.prog Tryz.f5 false true false false) := by
  refine returnsInHanded_of_change_sized (C := Tryz.checked) own started (by kernel_rfl) Tryz.func5
    (ChangeSpec.witness6 (enc := enc) (C := Tryz.checked) false ⟨#[], #[.slice none 0 0, .int .i64 0], []⟩ 8 (by kernel_rfl) (by kernel_rfl) (by kernel_rfl) (by kernel_rfl)) ?_
  intro W base args ds gs before hval hW _ hsz _
  exact contract H enc W base args ds gs before hval hW hsz

/-- THE STATEMENT. -/
theorem proved : Rows.EngineNoneSaid :=
  OpenClaim.holds_of_wide 5 Tryz.f5 rfl rfl rfl rfl rfl rfl rfl ⟨rfl, rfl, rfl, rfl, rfl⟩ rfl rfl rfl rfl rfl (by kernel_rfl) Tryz.func5 (by kernel_rfl)
    (of_decide_eq_true (by kernel_rfl)) (by unfold Func.isWrapper; rw [if_neg (of_decide_eq_false (by kernel_rfl))]; exact ⟨rfl, rfl⟩)
    (fun os started H enc _ => lifted os started H enc)
#print axioms proved
end Go.Proofs.YtoemmakhbiiknaaGreat.lawEngineNone
