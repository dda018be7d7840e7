/-
  The statement EngineAlone: for every input the law returns true. No condition.
  EngineAlone: the laws' step, of an operation that starts or puts or does nothing.
  The statement EngineAlone: the walk.
  Layer 13: definitions as an argument.
  Layer 13: definitions and scripts as arguments.
-/
import Derived.Test.YtoemmakhbiiknaaGreatQa16
import Derived.Deep.RegionHeldLaw
import Derived.Deep.CutBlock
namespace Go.Proofs.YtoemmakhbiiknaaGreat
open Go.RowKit Go.WideShapes Go.ChangeShapes Go.ChangeAt Go.Deep
set_option linter.unusedVariables false

/-- An operation. -/
structure OpE where
  kd : Int
  o : Int
  s : Int
  tr : Int
  code : Int
  un : Bool
  so : Int
  ss : Int
  sp : Bool
  MA : Option Addr
  mc : Nat
  ms : List Int
  TA : Option Addr
  tc : Nat
  ts : List Int
def enOpE (x : OpE) : List Value := [.int .i64 x.kd, .int .i64 x.o, .int .i64 x.s, .int .i64 x.tr, .int .i64 x.code, .bool x.un, .int .i64 x.so, .int .i64 x.ss, .bool x.sp, .slice x.MA x.ms.length x.mc, .slice x.TA x.ts.length x.tc]
theorem enOpE_len (x : OpE) : (enOpE x).length = 11 := rfl
structure OkOpE (w : World) (x : OpE) : Prop where
  m : Rd w x.MA (x.ms.flatMap en1)
  t : Rd w x.TA (x.ts.flatMap en1)
  ml : x.ms.length * 8 ≤ 140737488351232
  tl : x.ts.length * 8 ≤ 140737488351232
  sw : -9223372036854775808 ≤ x.s ∧ x.s ≤ 9223372036854775807
theorem OkOpE.next {w w' : World} {x : OpE} (h : OkOpE w x) (hb : Below w.heap.size w w') : OkOpE w' x := ⟨h.m.below hb, h.t.below hb, h.ml, h.tl, h.sw⟩
section
variable {w0 w w' : World} {ds : List PlD} {X M n0 : Nat} {ins : List Ins} {A : Nat → Int} {Y : Nat → Pw} {n1 R lc pc rc : Nat} {LA pA rA : Option Addr} {bs : List Nat} {od : Nat → Int} {vO : Value} {K : Int}
theorem AlS.start (h : AlS w0 ds X M n0 ins A Y n1 R LA lc bs od vO pA pc rA rc K w) {d : PlD} (hd : d ∈ ds) (o : Int) : Calls Tryz.prog 16 #[.pointer (some ⟨X, 0, none⟩), .int .i64 o, .pointer (some ⟨d.P, 0, none⟩)] w fun e w' => ∃ (OA : Option Addr) (fs : List Eff) (oc : Nat) (c : Int) (ins' : List Ins), e = .returned (.tuple #[.slice OA fs.length oc, .int .i64 c]) ∧ w'.ownsRow w.heap.size 55 6 (.slice OA fs.length oc) fs.length (fs.flatMap enEf) ∧ AlS w0 ds X M n0 ins' A Y n1 R LA lc bs od vO pA pc rA rc K w' ∧ (∀ o2, o2 ≠ o → insAt ins' o2 = insAt ins o2) ∧ Touch (fun g => g = M ∨ g = d.P) w w' ∧ ((c = 0 ∧ fs = (goV d.Ls d.Bs (newV o d.Ls.length)).out) ∨ (c = 71 ∧ fs = [])) := by
  have hk := h.k
  have hroom := room_any h.e o d.P
  cases hs : insAt ins o with
  | some i =>
    rw [show roomV (esOf ins) o = 71 from by unfold roomV; rw [mget_ins, hs]; rfl] at hroom
    refine (start_err (w := w) (.pointer (some ⟨X, 0, none⟩)) o (.pointer (some ⟨d.P, 0, none⟩)) 71 (.inr (.inr rfl)) hroom).mono ?_
    rintro e w2 ⟨rfl, rfl⟩
    exact ⟨none, [], 0, 71, ins, rfl, World.ownsRow_nil _ _ _ _, h, fun _ _ => rfl, Touch.refl _ _, .inr ⟨rfl, rfl⟩⟩
  | none =>
    have hno : mget (esOf ins) o = none := by rw [mget_ins, hs]; rfl
    refine (start_any (h.p d hd).2.1.p h.e o hno).mono ?_
    rintro e w2 ⟨I, OA, oc, l', rfl, hI, hE, hT, hO, _⟩
    have hord : (goV d.Ls d.Bs (newV o d.Ls.length)).ord = o := by rw [goV_ord]; rfl
    have hiv : IvP o (1099511627776 + K) (goV d.Ls d.Bs (newV o d.Ls.length)) := (IvP.new o d.Ls.length (by omega) (List.replicate d.Ls.length 0) (fun t ht => List.eq_of_mem_replicate ht)).go (by omega) _ _
    have hm := h.more hd (K' := K) hT hI (by show IsEng n0 X M (mset (esOf ins) (goV d.Ls d.Bs (newV o d.Ls.length)).ord I) w2; rw [hord]; exact hE) (by show mget (esOf ins) (goV d.Ls d.Bs (newV o d.Ls.length)).ord = none; rw [hord]; exact hno) rfl (by have := hiv.zero; show IvP (goV d.Ls d.Bs (newV o d.Ls.length)).ord _ _; rw [hord]; exact this) (Int.le_refl _)
    exact ⟨OA, _, oc, 0, _, rfl, hO, hm, fun o2 h2 => insAt_more (by show o2 ≠ (goV d.Ls d.Bs (newV o d.Ls.length)).ord; rw [hord]; exact h2) ins, hT, .inl ⟨rfl, rfl⟩⟩
theorem AlS.dstart (h : AlS w0 ds X M n0 ins A Y n1 R LA lc bs od vO pA pc rA rc K w) {d : PlD} (hd : d ∈ ds) (o : Int) (hl : bs.length * 8 + 8 ≤ 140737488355328) : Calls Tryz.prog 23 #[.pointer (some ⟨R, 0, none⟩), .int .i64 o, .pointer (some ⟨d.RP, 0, none⟩)] w fun e w' => ∃ (OA : Option Addr) (fs : List Eff) (oc : Nat) (c : Int) (LA' : Option Addr) (lc' : Nat) (bs' : List Nat) (od' : Nat → Int) (vO' : Value), e = .returned (.tuple #[.slice OA fs.length oc, .int .i64 c]) ∧ Rd w' OA (fs.flatMap enEf) ∧ AlS w0 ds X M n0 ins A Y n1 R LA' lc' bs' od' vO' pA pc rA rc K w' ∧ Touch (DV R LA bs.length lc) w w' ∧ bs'.length ≤ bs.length + 1 ∧ ((c = 0 ∧ fs = (goV d.Ls d.Bs (newV o d.Ls.length)).out) ∨ (c = 71 ∧ fs = [])) := by
  obtain ⟨hf, hp, _, hhi, _⟩ := h.p d hd
  cases hb : bs.find? (fun b => od b == o) with
  | some b =>
    refine (dstart_no h.dn o (.pointer (some ⟨d.RP, 0, none⟩)) (by omega) b (by unfold dfV; rw [hb])).mono ?_
    rintro e w2 ⟨rfl, rfl⟩
    exact ⟨none, [], 0, 71, LA, lc, bs, od, vO, rfl, .inl rfl, h, Touch.refl _ _, by omega, .inr ⟨rfl, rfl⟩⟩
  | none =>
    refine (dstart_any (bG := d.hi) h.dn hp.r (fun s hs b hbb => (hf.ir b (.inr (.inr ⟨s, hs, hbb⟩))).2) hhi hf.s o hl (by unfold dfV; rw [hb])).mono ?_
    rintro e w2 ⟨J, LA', lc', l', n00, Xs, rfl, hDE, hD, hT, _, _⟩
    exact ⟨l'.OA, _, l'.oc, 0, LA', lc', _, _, _, rfl, own_rd hD.o, h.doc hT hDE, hT, by simp, .inl ⟨rfl, rfl⟩⟩
theorem putB_ts {n : Nat} {st : Int} {ms ts : List Int} (h : putB n st ms ts = true) : ∀ t ∈ ts, 0 ≤ t ∧ t ≤ 1099511627776 := fun t ht => by
  unfold putB at h
  simp only [Bool.not_eq_true', Bool.or_eq_false_iff] at h
  have := List.any_eq_false.1 h.2.2.2.2.2 t ht
  simp [belB] at this
  omega
theorem AlS.put (h : AlS w0 ds X M n0 ins A Y n1 R LA lc bs od vO pA pc rA rc K w) {d : PlD} (hd : d ∈ ds) (o st : Int) (pd : Bool) (ms : List Int) (MA : Option Addr) (mc : Nat) (ts : List Int) (TA : Option Addr) (tc : Nat) (hm : Rd w MA (ms.flatMap en1)) (ht : Rd w TA (ts.flatMap en1)) (hml : ms.length ≤ 140737488355328) (htl : ts.length ≤ 140737488355328) : Calls Tryz.prog 21 #[.pointer (some ⟨X, 0, none⟩), .agg #[.int .i64 o, .int .i64 st, .bool pd, .slice MA ms.length mc, .slice TA ts.length tc], .pointer (some ⟨d.P, 0, none⟩)] w fun e w' => ∃ (c : Int) (ins' : List Ins), e = .returned (.int .i64 c) ∧ AlS w0 ds X M n0 ins' A Y n1 R LA lc bs od vO pA pc rA rc K w' ∧ (∀ o2, o2 ≠ o → insAt ins' o2 = insAt ins o2) ∧ Touch (· = M) w w' := by
  have hk := h.k
  cases hs : insAt ins o with
  | some i =>
    refine (put_err (w := w) (.pointer (some ⟨X, 0, none⟩)) (.pointer (some ⟨d.P, 0, none⟩)) o st pd (.slice MA ms.length mc) (.slice TA ts.length tc) 71 (.inr rfl) (fun w' hb => ?_) rfl rfl).mono ?_
    · have := room_any (h.e.next hb) o d.P
      rw [show roomV (esOf ins) o = 71 from by unfold roomV; rw [mget_ins, hs]; rfl] at this
      exact this
    · rintro e w2 ⟨rfl, hb⟩
      exact ⟨71, ins, rfl, h.next hb, fun _ _ => rfl, Touch.of_below hb⟩
  | none =>
    have hno : mget (esOf ins) o = none := by rw [mget_ins, hs]; rfl
    cases hp : putB d.Ls.length st ms ts with
    | true =>
      refine (put_good (h.p d hd).2.1.p h.e o st hno pd ms MA mc ts TA tc hm ht hml htl hp).mono ?_
      rintro e w2 ⟨I, l', rfl, hI, hE, hT⟩
      have hm := h.more hd (K' := K) (hT.mono (fun k hk => .inl hk)) hI hE hno rfl ⟨rfl, fun t ht => by have := putB_ts hp t ht; omega, fun f hf => by cases hf⟩ (Int.le_refl _)
      exact ⟨0, _, rfl, hm, fun o2 h2 => insAt_more h2 ins, hT⟩
    | false =>
      refine (put_bad (h.p d hd).2.1.p (.pointer (some ⟨X, 0, none⟩)) o st pd ms MA mc ts TA tc hm ht hml htl (fun w' hb => ?_) hp).mono ?_
      · have := room_any (h.e.next hb) o d.P
        rw [show roomV (esOf ins) o = 0 from by unfold roomV; rw [hno]] at this
        exact this
      · rintro e w2 ⟨rfl, hb⟩
        exact ⟨2, ins, rfl, h.next hb, fun _ _ => rfl, Touch.of_below hb⟩
/-- What step leaves. -/
def StepS (w0 : World) (ds : List PlD) (X M n0 : Nat) (ins : List Ins) (Y : Nat → Pw) (n1 R : Nat) (LA : Option Addr) (lc : Nat) (bs : List Nat) (pA : Option Addr) (pc : Nat) (rA : Option Addr) (rc : Nat) (K : Int) (x : OpE) (w w' : World) : Prop :=
  ∃ (LA' : Option Addr) (lc' : Nat) (bs' : List Nat) (od' : Nat → Int) (vO' : Value) (ins' : List Ins) (A' : Nat → Int) (Y' : Nat → Pw), AlS w0 ds X M n0 ins' A' Y' n1 R LA' lc' bs' od' vO' pA pc rA rc (K + 1) w' ∧ (∀ o2, (x.kd = 1 → o2 ≠ x.o) → (x.kd = 6 → o2 ≠ x.so) → insAt ins' o2 = insAt ins o2) ∧ Touch (OwnA ds M ins Y R LA lc bs.length) w w' ∧ bs'.length ≤ bs.length + 1
def StepT (w0 : World) (ds : List PlD) (X M n0 : Nat) (ins : List Ins) (Y : Nat → Pw) (n1 R : Nat) (LA : Option Addr) (lc : Nat) (bs : List Nat) (pA : Option Addr) (pc : Nat) (rA : Option Addr) (rc : Nat) (K : Int) (x : OpE) (w : World) (e : Ending) (w' : World) : Prop := ∃ b : Bool, e = .returned (.bool b) ∧ StepS w0 ds X M n0 ins Y n1 R LA lc bs pA pc rA rc K x w w'
set_option maxRecDepth 100000 in
set_option maxHeartbeats 64000000 in
theorem AlS.step (h : AlS w0 ds X M n0 ins A Y n1 R LA lc bs od vO pA pc rA rc K w) (hK : K ≤ 1000000000000000) (x : OpE) (hx : OkOpE w0 x) (hkd : x.kd ≠ 2 ∧ x.kd ≠ 3 ∧ x.kd ≠ 4 ∧ x.kd ≠ 5) (hbl : bs.length * 8 + 8 ≤ 140737488355328) (hdl : ds.length ≤ 140737488355328) :
    Calls Tryz.prog 14 #[.pointer (some ⟨X, 0, none⟩), .pointer (some ⟨R, 0, none⟩), .agg (enOpE x).toArray, .slice pA ds.length pc, .slice rA ds.length rc] w (StepT w0 ds X M n0 ins Y n1 R LA lc bs pA pc rA rc K x w) := by
  have HA := hid h
  have HX := hid hx
  have HKD := hid hkd
  have hsw := hx.sw
  obtain ⟨xk, xo, xs, xt, xc, xu, so, ss, sp, MA, mc, ms, TA, tc, ts⟩ := x
  rw [show (enOpE ⟨xk, xo, xs, xt, xc, xu, so, ss, sp, MA, mc, ms, TA, tc, ts⟩).toArray = #[.int .i64 xk, .int .i64 xo, .int .i64 xs, .int .i64 xt, .int .i64 xc, .bool xu, .int .i64 so, .int .i64 ss, .bool sp, .slice MA ms.length mc, .slice TA ts.length tc] from rfl]
  simp only at hsw
  clear h hx hkd
  go_enter Tryz.func14, Tryz.ntmps14
  go_upto_region 6 with fail
  have hB := Blk.new w 42 #[.int .i64 xk, .int .i64 xo, .int .i64 xs, .int .i64 xt, .int .i64 xc, .bool xu, .int .i64 so, .int .i64 ss, .bool sp, .slice MA ms.length mc, .slice TA ts.length tc]
  have hbW : Below w.heap.size w (w.alloc (.cells #[.int .i64 xk, .int .i64 xo, .int .i64 xs, .int .i64 xt, .int .i64 xc, .bool xu, .int .i64 so, .int .i64 ss, .bool sp, .slice MA ms.length mc, .slice TA ts.length tc] 42)) := (Below.refl _ _).alloc (Nat.le_refl _) _
  generalize w.alloc (.cells #[.int .i64 xk, .int .i64 xo, .int .i64 xs, .int .i64 xt, .int .i64 xc, .bool xu, .int .i64 so, .int .i64 ss, .bool sp, .slice MA ms.length mc, .slice TA ts.length tc] 42) = W at hB hbW ⊢
  generalize hG : w.heap.size = G at hB ⊢
  have HG := hid hG
  have HGB := hid hB
  have HBW := hid hbW
  have HAW := hid (HA.out.next hbW)
  obtain ⟨n, hn⟩ : ∃ n : Nat, max 0 xs % max 1 (ds.length : Int) = (n : Int) := ⟨(max 0 xs % max 1 (ds.length : Int)).toNat, by have := Int.emod_nonneg (max 0 xs) (show max 1 (ds.length : Int) ≠ 0 by omega); omega⟩
  have hnl : 0 < ds.length → n < ds.length := fun h0 => by
    have := Int.emod_lt_of_pos (max 0 xs) (show (0 : Int) < max 1 (ds.length : Int) by omega)
    omega
  rw [hn]
  have HNL := hid hnl
  clear hn hnl hG hbW hB hsw
  have g0 : W.cell? ⟨G, 0, none⟩ = some (.int .i64 xk) := HGB.out.cell 0
  have lG := HGB.out.lt
  have HNO := hid (show (xk ≠ 1 ∨ ds.length = 0) → (xk ≠ 6 ∨ ds.length = 0) → ∀ {w2 : World}, Below W.heap.size W w2 → StepS w0 ds X M n0 ins Y n1 R LA lc bs pA pc rA rc K ⟨xk, xo, xs, xt, xc, xu, so, ss, sp, MA, mc, ms, TA, tc, ts⟩ w w2 from fun _ _ {w2} hb => ⟨LA, lc, bs, od, vO, ins, A, Y, (HAW.out.next hb).mono (by omega), fun _ _ _ => rfl, Touch.of_below (bthen HBW.out hb), by omega⟩)
  by_cases h1 : xk = 1
  · subst h1
    by_cases h0 : ds.length = 0
    · rw [h0]
      go_wp2_with fail
      go_ret
      first
        | exact ⟨true, rfl, HNO.out (.inr h0) (.inr h0) (Below.refl _ _)⟩
        | exact ⟨false, rfl, HNO.out (.inr h0) (.inr h0) (Below.refl _ _)⟩
        | exact ⟨rfl, HNO.out (.inr h0) (.inr h0) (Below.refl _ _)⟩
    · have HN := hid (HNL.out (by omega))
      have t0 : ((ds.length : Int) == 0) = false := by rw [beq_eq_false_iff_ne]; omega
      obtain ⟨d, hd⟩ : ∃ d, ds[n]? = some d := ⟨_, List.getElem?_eq_getElem HN.out⟩
      have HD := hid (List.mem_of_getElem? hd)
      have HDN := hid hd
      obtain ⟨b1, o1, hA1, _, hc1⟩ := (own_rd HAW.out.po).at_ (enc := fun d : PlD => enB13 d.P) 1 (fun _ => rfl) (by omega) hd
      obtain ⟨b2, o2, hA2, _, _⟩ := (own_rd HAW.out.ro).at_ (enc := fun d : PlD => enB13 d.RP) 1 (fun _ => rfl) (by omega) hd
      have q0 : W.cell? ⟨b1, o1 + n * 1, none⟩ = some (.pointer (some ⟨d.P, 0, none⟩)) := hc1 0 _ rfl
      rw [Nat.mul_one] at q0
      have g1 : W.cell? ⟨G, 1, none⟩ = some (.int .i64 xo) := HGB.out.cell 1
      have hnn := HN.out
      have KS := hid (fun w' (hb : Below W.heap.size W w') => (HAW.out.next hb).start HD.out xo)
      have HGW := hid (show ∀ w3 : World, Touch (fun g => g = M ∨ g = d.P) (W.drewN 1) w3 → Blk w3 G 42 #[.int .i64 1, .int .i64 xo, .int .i64 xs, .int .i64 xt, .int .i64 xc, .bool xu, .int .i64 so, .int .i64 ss, .bool sp, .slice MA ms.length mc, .slice TA ts.length tc] from fun w3 hT => hT.blk (HGB.out.next (below_drewN (Below.refl _ _) 1)) (fun hg => by
        rcases hg with hg | hg
        · exact HAW.out.e.map.notBlk HGB.out hg.symm
        · exact HGB.out.ne_ (HAW.out.p d HD.out).2.1.p.p.p (by decide) hg))
      subst hA1 hA2
      clear hc1 hd
      go_upto_region 10 with fail
      go_region_with ((go_at_call 16; refine (KS.out _ (below_drewN (Below.refl _ _) _)).mono ?_; rintro e w3 ⟨OA, fs, oc, c, ins', rfl, hrd, hal, hin, hT, hcf⟩; have HG3 := hid (HGW.out w3 hT)))
      all_goals
        have HRD := hid hrd
        have HAL := hid hal
        have HIN := hid hin
        have HTT := hid hT
        have HCF := hid hcf
        have g1 : w3.cell? ⟨G, 1, none⟩ = some (.int .i64 xo) := HG3.out.cell 1
        have lG := HG3.out.lt
        obtain ⟨b2', o2', hA2, _, hc2⟩ := (own_rd hal.ro).at_ (enc := fun d : PlD => enB13 d.RP) 1 (fun _ => rfl) (by omega) HDN.out
        simp only [Option.some.injEq, Addr.mk.injEq, and_true] at hA2
        obtain ⟨rfl, rfl⟩ := hA2
        have q2 : w3.cell? ⟨b2, o2 + n * 1, none⟩ = some (.pointer (some ⟨d.RP, 0, none⟩)) := hc2 0 _ rfl
        rw [Nat.mul_one] at q2
        have KD := hid (fun w' (hb : Below w3.heap.size w3 w') => (HAL.out.next hb).dstart HD.out xo hbl)
        clear hc2 hrd hal hin hT hcf q0 KS
        go_upto_region 11 with fail
        go_region_with ((go_at_call 23; refine (KD.out _ (below_drewN (Below.refl _ _) _)).mono ?_; rintro e w4 ⟨OB, gs, obc, c2, LA', lc', bs', od', vO', rfl, hrd2, hal2, hT2, hbs2, hcf2⟩))
        all_goals
          have HR2 := hid hrd2
          have HRO := hid (show Rd w4 OA (fs.flatMap enEf) from own_rd (own_touch (own_next HRD.out (below_drewN (Below.refl _ _) 1)) hT2 (fun g hg hs => by
            have hdn := (HAL.out.next (below_drewN (Below.refl _ _) 1)).dn
            have hro := own_next HRD.out (below_drewN (Below.refl w3.heap.size w3) 1)
            rcases hs with hs | hs
            · exact own_notBlk hro hdn.r (by decide) (by rw [hg, hs])
            · exact own_ne (own_base hro (Nat.zero_le _)) (own_base hdn.own (Nat.zero_le _)) (by decide) hg hs)))
          have HST := hid (show ∀ w5, Below w4.heap.size w4 w5 → StepS w0 ds X M n0 ins Y n1 R LA lc bs (some ⟨b1, o1, none⟩) pc (some ⟨b2, o2, none⟩) rc K ⟨1, xo, xs, xt, xc, xu, so, ss, sp, MA, mc, ms, TA, tc, ts⟩ w w5 from fun w5 hb => ⟨LA', lc', bs', od', vO', ins', A, Y, (hal2.next hb).mono (by omega), fun o2 h2 _ => HIN.out o2 (h2 rfl), by
            have a1 : Touch (OwnA ds M ins Y R LA lc bs.length) w (W.drewN 1) := Touch.of_below (bthen HBW.out (below_drewN (Below.refl _ _) 1))
            have a2 : Touch (OwnA ds M ins Y R LA lc bs.length) (W.drewN 1) w3 := HTT.out.mono (fun g hg => by
              rcases hg with hg | hg
              · exact .inr (.inr (.inl hg))
              · exact .inr (.inl ⟨d, HD.out, hg⟩))
            have a3 : Touch (OwnA ds M ins Y R LA lc bs.length) w3 (w3.drewN 1) := Touch.of_below (below_drewN (Below.refl _ _) 1)
            have a4 : Touch (OwnA ds M ins Y R LA lc bs.length) (w3.drewN 1) w4 := hT2.mono (fun g hg => .inr (.inr (.inr hg)))
            exact (((a1.then a2).then a3).then a4).then (Touch.of_below hb), hbs2⟩)
          have HC2 := hid hcf2
          clear hrd2 hal2 hT2 hbs2 hcf2 KD q2 g1 lG
          rcases HCF.out with ⟨rfl, hfs⟩ | ⟨rfl, rfl⟩
          · rcases HC2.out with ⟨rfl, hgs⟩ | ⟨rfl, rfl⟩
            · obtain rfl : gs = fs := by rw [hfs, hgs]
              have hlf : gs.length ≤ 1000000 := by
                rw [hgs]
                have := goN_out d.Ls d.Bs (newV xo d.Ls.length) (newV xo d.Ls.length).ms.length
                have h4 := (HA.out.p d HD.out).1.n40
                have h5 : (newV xo d.Ls.length).ms.length = d.Ls.length := by simp [newV]
                have h6 : (newV xo d.Ls.length).out.length = 0 := rfl
                unfold goV
                split
                · omega
                · show (goN d.Ls d.Bs (newV xo d.Ls.length) (newV xo d.Ls.length).ms.length).out.length ≤ _
                  omega
              have KZ := hid (same13_any gs OA OB oc obc w4 HRO.out HR2.out hlf)
              clear hfs hgs
              go_wp2_with fail
              refine KZ.out.mono ?_
              rintro e w5 ⟨rfl, hb5⟩
              have HSZ := hid (HST.out w5 hb5)
              clear KZ hb5
              go_wp2_with fail
              go_ret
              first
                | exact ⟨true, rfl, HSZ.out⟩
                | exact ⟨false, rfl, HSZ.out⟩
                | exact ⟨rfl, HSZ.out⟩
            · clear hfs
              have HSZ := hid (HST.out w4 (Below.refl _ _))
              go_wp2_with fail
              go_ret
              first
                | exact ⟨true, rfl, HSZ.out⟩
                | exact ⟨false, rfl, HSZ.out⟩
                | exact ⟨rfl, HSZ.out⟩
          · rcases HC2.out with ⟨rfl, hgs⟩ | ⟨rfl, rfl⟩
            · clear hgs
              have HSZ := hid (HST.out w4 (Below.refl _ _))
              go_wp2_with fail
              go_ret
              first
                | exact ⟨true, rfl, HSZ.out⟩
                | exact ⟨false, rfl, HSZ.out⟩
                | exact ⟨rfl, HSZ.out⟩
            · have KZ := hid (same13_any [] OA OB oc obc w4 HRO.out HR2.out (by simp))
              simp only [List.length_nil] at KZ ⊢
              go_wp2_with fail
              refine KZ.out.mono ?_
              rintro e w5 ⟨rfl, hb5⟩
              have HSZ := hid (HST.out w5 hb5)
              clear KZ hb5
              go_wp2_with fail
              go_ret
              first
                | exact ⟨true, rfl, HSZ.out⟩
                | exact ⟨false, rfl, HSZ.out⟩
                | exact ⟨rfl, HSZ.out⟩
  · have f1 : (xk == 1) = false := by rw [beq_eq_false_iff_ne]; exact h1
    have f2 : (xk == 2) = false := by rw [beq_eq_false_iff_ne]; exact HKD.out.1
    have f3 : (xk == 3) = false := by rw [beq_eq_false_iff_ne]; exact HKD.out.2.1
    have f4 : (xk == 4) = false := by rw [beq_eq_false_iff_ne]; exact HKD.out.2.2.1
    have f5 : (xk == 5) = false := by rw [beq_eq_false_iff_ne]; exact HKD.out.2.2.2
    by_cases h6 : xk = 6
    · subst h6
      clear f1 f2 f3 f4 f5 h1
      by_cases h0 : ds.length = 0
      · rw [h0]
        go_wp2_with fail
        go_ret
        first
          | exact ⟨true, rfl, HNO.out (.inr h0) (.inr h0) (Below.refl _ _)⟩
          | exact ⟨rfl, HNO.out (.inr h0) (.inr h0) (Below.refl _ _)⟩
      · have HN := hid (HNL.out (by omega))
        have t0 : ((ds.length : Int) == 0) = false := by rw [beq_eq_false_iff_ne]; omega
        obtain ⟨d, hd⟩ : ∃ d, ds[n]? = some d := ⟨_, List.getElem?_eq_getElem HN.out⟩
        have HD := hid (List.mem_of_getElem? hd)
        have HDN := hid hd
        have g6 : W.cell? ⟨G, 6, none⟩ = some (.int .i64 so) := HGB.out.cell 6
        have g7 : W.cell? ⟨G, 7, none⟩ = some (.int .i64 ss) := HGB.out.cell 7
        have g8 : W.cell? ⟨G, 8, none⟩ = some (.bool sp) := HGB.out.cell 8
        have g9 : W.cell? ⟨G, 9, none⟩ = some (.slice MA ms.length mc) := HGB.out.cell 9
        have g10 : W.cell? ⟨G, 10, none⟩ = some (.slice TA ts.length tc) := HGB.out.cell 10
        have hnn := HN.out
        clear hd
        go_upto_region 28 with fail
        have hB2 := Blk.new W 40 #[.int .i64 so, .int .i64 ss, .bool sp, .slice MA ms.length mc, .slice TA ts.length tc]
        have hbW2 : Below W.heap.size W (W.alloc (.cells #[.int .i64 so, .int .i64 ss, .bool sp, .slice MA ms.length mc, .slice TA ts.length tc] 40)) := (Below.refl _ _).alloc (Nat.le_refl _) _
        have HA2W := hid (HAW.out.next hbW2)
        have HBW2 := hid hbW2
        clear g0 g6 g7 g8 g9 g10 lG
        generalize W.alloc (.cells #[.int .i64 so, .int .i64 ss, .bool sp, .slice MA ms.length mc, .slice TA ts.length tc] 40) = W2 at hB2 HA2W HBW2 ⊢
        generalize W.heap.size = G2 at hB2 ⊢
        have HG2 := hid hB2
        obtain ⟨b1, o1, hA1, _, hc1⟩ := (own_rd HA2W.out.po).at_ (enc := fun d : PlD => enB13 d.P) 1 (fun _ => rfl) (by omega) HDN.out
        obtain ⟨b2, o2, hA2, _, _⟩ := (own_rd HA2W.out.ro).at_ (enc := fun d : PlD => enB13 d.RP) 1 (fun _ => rfl) (by omega) HDN.out
        have q0 : W2.cell? ⟨b1, o1 + n * 1, none⟩ = some (.pointer (some ⟨d.P, 0, none⟩)) := hc1 0 _ rfl
        rw [Nat.mul_one] at q0
        have s0 : W2.cell? ⟨G2, 0, none⟩ = some (.int .i64 so) := hB2.cell 0
        have s1 : W2.cell? ⟨G2, 1, none⟩ = some (.int .i64 ss) := hB2.cell 1
        have s2 : W2.cell? ⟨G2, 2, none⟩ = some (.bool sp) := hB2.cell 2
        have s3 : W2.cell? ⟨G2, 3, none⟩ = some (.slice MA ms.length mc) := hB2.cell 3
        have s4 : W2.cell? ⟨G2, 4, none⟩ = some (.slice TA ts.length tc) := hB2.cell 4
        have lG2 := hB2.lt
        have HX2 := hid (show OkOpE W2 _ from ⟨HX.out.m.below HA2W.out.b, HX.out.t.below HA2W.out.b, HX.out.ml, HX.out.tl, HX.out.sw⟩)
        have KP := hid (fun w' (hb : Below W2.heap.size W2 w') => (HA2W.out.next hb).put HD.out so ss sp ms MA mc ts TA tc (HX2.out.m.below hb) (HX2.out.t.below hb) (by have := HX2.out.ml; simp only at this; omega) (by have := HX2.out.tl; simp only at this; omega))
        subst hA1 hA2
        clear hc1 hB2 hbW2
        go_region_with ((go_at_call 21; refine (KP.out _ (below_drewN (Below.refl _ _) _)).mono ?_; rintro e w3 ⟨c, ins', rfl, hal, hin, hT⟩))
        all_goals
          have HAL := hid hal
          have HIN := hid hin
          have HTT := hid hT
          have hG3 : Blk w3 G2 40 #[.int .i64 so, .int .i64 ss, .bool sp, .slice MA ms.length mc, .slice TA ts.length tc] := hT.blk (HG2.out.next (below_drewN (Below.refl _ _) 1)) (fun hg => HA2W.out.e.map.notBlk HG2.out hg.symm)
          have s0 : w3.cell? ⟨G2, 0, none⟩ = some (.int .i64 so) := hG3.cell 0
          have s1 : w3.cell? ⟨G2, 1, none⟩ = some (.int .i64 ss) := hG3.cell 1
          have s2 : w3.cell? ⟨G2, 2, none⟩ = some (.bool sp) := hG3.cell 2
          have s3 : w3.cell? ⟨G2, 3, none⟩ = some (.slice MA ms.length mc) := hG3.cell 3
          have s4 : w3.cell? ⟨G2, 4, none⟩ = some (.slice TA ts.length tc) := hG3.cell 4
          have lG2 := hG3.lt
          obtain ⟨b2', o2', hA2, _, hc2⟩ := (own_rd hal.ro).at_ (enc := fun d : PlD => enB13 d.RP) 1 (fun _ => rfl) (by omega) HDN.out
          simp only [Option.some.injEq, Addr.mk.injEq, and_true] at hA2
          obtain ⟨rfl, rfl⟩ := hA2
          have q2 : w3.cell? ⟨b2, o2 + n * 1, none⟩ = some (.pointer (some ⟨d.RP, 0, none⟩)) := hc2 0 _ rfl
          rw [Nat.mul_one] at q2
          have hmx := HX.out.ml
          have htx := HX.out.tl
          simp only at hmx htx
          have hRM : ∀ w', Below w3.heap.size w3 w' → Rd w' MA (ms.flatMap en1) := fun w' hb => HX.out.m.below (HAL.out.next hb).b
          have HRT := hid (show ∀ w', Below w3.heap.size w3 w' → Rd w' TA (ts.flatMap en1) from fun w' hb => HX.out.t.below (HAL.out.next hb).b)
          have KI := hid (fun w' (hb : Below w3.heap.size w3 w') => ints13_any ms MA mc w' (hRM w' hb) hmx)
          obtain ⟨i2, hk2, hx0, hx1, hx2⟩ := info_parts info_int13
          have KQ := hid (fun w' (hb : Below w3.heap.size w3 w') IA OA ic oc (h1 : Rd w' IA (ms.flatMap en1)) (h2 : Rd w' OA (ts.flatMap en1)) => dput_any w' (HAL.out.next hb).dn ((HAL.out.next hb).p d HD.out).2.1.r so ss sp ms ts IA OA ic oc h1 h2 hbl (by omega) (by omega))
          have HRW := hid (show ∀ w', Rd w' (some ⟨b2, o2, none⟩) (ds.flatMap fun d => enB13 d.RP) → w'.cell? ⟨b2, o2 + n, none⟩ = some (.pointer (some ⟨d.RP, 0, none⟩)) from fun w' hr => by
            obtain ⟨b', o', e, _, hcc⟩ := hr.at_ (enc := fun d : PlD => enB13 d.RP) 1 (fun _ => rfl) (by omega) HDN.out
            simp only [Option.some.injEq, Addr.mk.injEq, and_true] at e
            obtain ⟨rfl, rfl⟩ := e
            have := hcc 0 _ rfl
            rw [Nat.mul_one] at this
            exact this)
          have HGB3 := hid hG3
          have HSF := hid (show ∀ w', Below w3.heap.size w3 w' → (w'.cell? ⟨G2, 0, none⟩ = some (.int .i64 so) ∧ w'.cell? ⟨G2, 1, none⟩ = some (.int .i64 ss) ∧ w'.cell? ⟨G2, 2, none⟩ = some (.bool sp) ∧ w'.cell? ⟨G2, 3, none⟩ = some (.slice MA ms.length mc) ∧ w'.cell? ⟨G2, 4, none⟩ = some (.slice TA ts.length tc) ∧ w'.cell? ⟨b2, o2 + n, none⟩ = some (.pointer (some ⟨d.RP, 0, none⟩))) from fun w' hb => by
            have hg := HGB3.out.next hb
            exact ⟨hg.cell 0, hg.cell 1, hg.cell 2, hg.cell 3, hg.cell 4, HRW.out _ (own_rd (HAL.out.next hb).ro)⟩)
          have HSD := hid (show ∀ (w' w5 : World) (LA' : Option Addr) (lc' : Nat) (bs' : List Nat) (od' : Nat → Int), Below w3.heap.size w3 w' → Touch (DV R LA bs.length lc) w' w5 → DEn n1 R LA' lc' bs' od' vO w5 → (w5.cell? ⟨G2, 0, none⟩ = some (.int .i64 so) ∧ w5.cell? ⟨G2, 1, none⟩ = some (.int .i64 ss) ∧ w5.cell? ⟨G2, 2, none⟩ = some (.bool sp) ∧ w5.cell? ⟨G2, 3, none⟩ = some (.slice MA ms.length mc) ∧ w5.cell? ⟨G2, 4, none⟩ = some (.slice TA ts.length tc) ∧ w5.cell? ⟨b2, o2 + n, none⟩ = some (.pointer (some ⟨d.RP, 0, none⟩))) from fun w' w5 LA' lc' bs' od' hb hT hd => by
            have ha := HAL.out.next hb
            have hg : Blk w5 G2 40 #[.int .i64 so, .int .i64 ss, .bool sp, .slice MA ms.length mc, .slice TA ts.length tc] := hT.blk (HGB3.out.next hb) (fun hu => by
              rcases hu with hu | hu
              · exact (HGB3.out.next hb).ne_ ha.dn.r (by decide) hu
              · exact own_notBlk ha.dn.own (HGB3.out.next hb) (by decide) hu)
            exact ⟨hg.cell 0, hg.cell 1, hg.cell 2, hg.cell 3, hg.cell 4, HRW.out _ (own_rd (ha.doc hT hd).ro)⟩)
          have D3 := hid (Below.refl w3.heap.size w3).drew
          clear hc2 hal hin hT q0 KP hG3 hRM s0 s1 s2 s3 s4 q2
          go_upto_region 29 with fail
          go_region_held_law (fun w' => w'.cell? ⟨G2, 0, none⟩ = some (.int .i64 so) ∧ w'.cell? ⟨G2, 1, none⟩ = some (.int .i64 ss) ∧ w'.cell? ⟨G2, 2, none⟩ = some (.bool sp) ∧ w'.cell? ⟨G2, 3, none⟩ = some (.slice MA ms.length mc) ∧ w'.cell? ⟨G2, 4, none⟩ = some (.slice TA ts.length tc) ∧ w'.cell? ⟨b2, o2 + n, none⟩ = some (.pointer (some ⟨d.RP, 0, none⟩))) ((first | exact HSF.out _ D3.out | exact HSF.out _ (Below.refl _ _) | exact c9 | exact HSF.out _ (bthen (bthen D3.out hbi) hb7) | exact HSF.out _ (bthen (bthen D3.out hb7) hbi) | exact HSF.out _ (bthen D3.out hbi) | exact HSF.out _ (bthen D3.out hb7))) ((first
            | (refine step_append_any _ (by rfl) _ _ 38 (by rfl) 3 i2 _ 1 8 Tryz.underlying38 hk2 hx0 hx1 hx2 rfl (by decide) (by rfl) TA ts.length tc (ts.flatMap en1) (by rfl) (by rw [flat_en1]; simp) (HRT.out _ (by first | exact D3.out | exact bthen D3.out hbi)) (by rw [flat_en1]; intro u hu; obtain ⟨z, _, rfl⟩ := List.mem_map.1 hu; rfl) (by unfold maxLen; omega) (by omega) ?_; intro A7 c7 w7 hO7 hb7)
            | (go_at_call 41; refine (KI.out _ (by first | exact D3.out | exact bthen D3.out hb7)).mono ?_; rintro e wi ⟨IA, ic, rfl, hOi, hbi⟩)
            | (go_at_call 40; refine (by first | exact KQ.out _ (bthen (bthen D3.out hbi) hb7) _ _ _ _ (own_rd (own_next hOi hb7)) (own_rd hO7) | exact KQ.out _ (bthen (bthen D3.out hb7) hbi) _ _ _ _ (own_rd hOi) (own_rd (own_next hO7 hbi)) : Calls _ _ _ _ _).mono ?_; rintro e w4 ⟨c2, LA', lc', bs', od', rfl, hd4, hT4, hbs4⟩; have c9 := (by first | exact HSD.out _ _ _ _ _ _ (bthen (bthen D3.out hbi) hb7) hT4 hd4 | exact HSD.out _ _ _ _ _ _ (bthen (bthen D3.out hb7) hbi) hT4 hd4))))
          all_goals
            have HST := hid (show ∀ w5, Below w4.heap.size w4 w5 → StepS w0 ds X M n0 ins Y n1 R LA lc bs (some ⟨b1, o1, none⟩) pc (some ⟨b2, o2, none⟩) rc K ⟨6, xo, xs, xt, xc, xu, so, ss, sp, MA, mc, ms, TA, tc, ts⟩ w w5 from fun w5 hb => by
              have hbz := (by first | exact bthen (bthen D3.out hbi) hb7 | exact bthen (bthen D3.out hb7) hbi : Below w3.heap.size w3 _)
              have ha := ((HAL.out.next hbz).doc hT4 hd4).next hb
              refine ⟨LA', lc', bs', od', vO, ins', A, Y, ha.mono (by omega), fun o2 _ h2 => HIN.out o2 (h2 rfl), ?_, hbs4⟩
              have a1 : Touch (OwnA ds M ins Y R LA lc bs.length) w (W2.drewN 1) := Touch.of_below (bthen (bthen HBW.out HBW2.out) (below_drewN (Below.refl _ _) 1))
              have a2 : Touch (OwnA ds M ins Y R LA lc bs.length) (W2.drewN 1) w3 := HTT.out.mono (fun g hg => .inr (.inr (.inl hg)))
              have a3 : Touch (OwnA ds M ins Y R LA lc bs.length) w3 _ := Touch.of_below hbz
              have a4 : Touch (OwnA ds M ins Y R LA lc bs.length) _ w4 := hT4.mono (fun g hg => .inr (.inr (.inr hg)))
              exact (((a1.then a2).then a3).then a4).then (Touch.of_below hb))
            have KZ := hid (same13_any [] none none 0 0 w4 (.inl rfl) (.inl rfl) (by simp))
            simp only [List.length_nil] at KZ
            clear hOi hO7 hbi hb7 hd4 hT4 hbs4 c9
            cases hcc : (c == c2) with
            | true =>
              go_wp2_with fail
              refine KZ.out.mono ?_
              rintro e w5 ⟨rfl, hb5⟩
              have HSZ := hid (HST.out w5 hb5)
              clear KZ hb5
              go_wp2_with fail
              go_ret
              exact ⟨true, rfl, HSZ.out⟩
            | false =>
              have HSZ := hid (HST.out w4 (Below.refl _ _))
              go_wp2_with fail
              go_ret
              exact ⟨false, rfl, HSZ.out⟩
    · have f6 : (xk == 6) = false := by rw [beq_eq_false_iff_ne]; exact h6
      have KZ := hid (same13_any [] none none 0 0 W (.inl rfl) (.inl rfl) (by simp))
      simp only [List.length_nil] at KZ
      go_wp2_with fail
      refine KZ.out.mono ?_
      rintro e w5 ⟨rfl, hb5⟩
      have HSZ := hid (HNO.out (.inl h1) (.inl h6) hb5)
      clear KZ hb5
      go_wp2_with fail
      go_ret
      exact ⟨true, rfl, HSZ.out⟩
end

end Go.Proofs.YtoemmakhbiiknaaGreat

namespace Go.Proofs.YtoemmakhbiiknaaGreat
open Go.RowKit Go.WideShapes Go.ChangeShapes Go.ChangeAt Go.Deep
set_option linter.unusedVariables false

/-- All is there, whatever of it has changed. -/
def AlX (w0 : World) (ds : List PlD) (X M n0 n1 R : Nat) (pA : Option Addr) (pc : Nat) (rA : Option Addr) (rc : Nat) (K : Nat) (w : World) : Prop := ∃ ins A Y LA lc bs od vO, AlS w0 ds X M n0 ins A Y n1 R LA lc bs od vO pA pc rA rc (K : Int) w ∧ bs.length ≤ K
/-- The engines as they are made. -/
theorem alone_start {w0 wp w2 : World} {ds : List PlD} {pA rA : Option Addr} {pc rc X M R : Nat} (hP : PnS w0 ds pA pc rA rc wp) (hE : IsEng wp.heap.size X M [] w2) (hb : Below wp.heap.size wp w2) (hR : Blk w2 R 34 #[.slice none 0 0, .slice none 0 0]) (hRl : wp.heap.size ≤ R) : AlX w0 ds X M wp.heap.size wp.heap.size R pA pc rA rc 0 w2 := by
  have h := hP.next hb
  have hy : ∀ d ∈ ds, ∃ y, PlOk d 0 y w2 ∧ ∀ g, PlV d.P d.Ls d.Bs y g → d.lo ≤ g ∧ g < d.mid := fun d hd => (h.ok d hd).ok
  have hdq : ∀ a ∈ ds, ∀ b ∈ ds, a.P = b.P → a = b := fun a ha b hb e => by
    apply Classical.byContradiction
    intro hne
    obtain ⟨ya, _, ia⟩ := hy a ha
    obtain ⟨yb, _, ib⟩ := hy b hb
    have h1 := ia a.P (.inl rfl)
    have h2 := ib b.P (.inl rfl)
    have h3 := (h.ok a ha).hi
    have h4 := (h.ok b hb).hi
    exact h.apart ha hb hne b.P ⟨h2.1, by omega⟩ (by rw [← e]; exact ⟨h1.1, by omega⟩)
  let Y : Nat → Pw := fun q => open Classical in if hq : ∃ d, d ∈ ds ∧ d.P = q then Classical.choose (hy hq.choose hq.choose_spec.1) else ⟨.slice none 0 0, .slice none 0 0, .slice none 0 0, [], false⟩
  have hYs : ∀ d ∈ ds, PlOk d 0 (Y d.P) w2 ∧ ∀ g, d.V Y g → d.lo ≤ g ∧ g < d.mid := fun d hd => by
    have hq : ∃ x, x ∈ ds ∧ x.P = d.P := ⟨d, hd, rfl⟩
    have he : hq.choose = d := hdq _ hq.choose_spec.1 d hd hq.choose_spec.2
    have hYe : Y d.P = Classical.choose (hy hq.choose hq.choose_spec.1) := dif_pos hq
    unfold PlD.V
    rw [hYe]
    have : ∀ (x : PlD) (e : x = d) (hx : x ∈ ds), PlOk d 0 (Classical.choose (hy x hx)) w2 ∧ ∀ g, PlV d.P d.Ls d.Bs (Classical.choose (hy x hx)) g → d.lo ≤ g ∧ g < d.mid := fun x e hx => by
      subst e
      exact Classical.choose_spec (hy x hx)
    exact this hq.choose he hq.choose_spec.1
  refine ⟨[], fun _ => 0, Y, none, 0, [], fun _ => 0, .slice none 0 0, ⟨hE, by simp, fun i hi => (by cases hi), fun d hd => ?_, hdq, fun a ha b hb hne g hg hg' => ?_, fun a ha b hb g hg hr => ?_, fun i hi => (by cases hi), fun i hi => (by cases hi), ⟨hR, World.ownsRow_nil _ _ _ _, fun b hb => (by cases hb), hRl, fun b hb => (by cases hb)⟩, h.po, h.ro, h.bel, ⟨hP.bel.size, hP.bel.size⟩, by simp, fun d hd => (hP.ok d hd).hi.2⟩, by simp⟩
  · have h1 := hYs d hd
    have h2 := h1.2 d.P (.inl rfl)
    exact ⟨(h.ok d hd).f, h1.1, by simp, (hP.ok d hd).hi.2, by have := h.lo d hd; omega⟩
  · have h1 := (hYs a ha).2 g hg
    have h2 := (hYs b hb).2 g hg'
    have h3 := (h.ok a ha).hi
    have h4 := (h.ok b hb).hi
    exact h.apart ha hb (fun e => hne (by rw [e])) g ⟨h2.1, by omega⟩ ⟨h1.1, by omega⟩
  · have h1 := (hYs a ha).2 g hg
    have h2 := (h.ok b hb).f.ir g hr
    have h3 := (h.ok a ha).hi
    have h4 := (h.ok b hb).hi
    by_cases e : a = b
    · subst e; omega
    · exact h.apart ha hb e g ⟨by omega, by omega⟩ ⟨h1.1, by omega⟩

set_option maxRecDepth 100000 in
set_option maxHeartbeats 64000000 in
theorem engineAlone_walk (l : List FDef) (A : Option Addr) (cp : Nat) (sc : List OpE) (SA : Option Addr) (scp : Nat) (od : Int) (w : World) (hR : Rd w A (l.flatMap enFD)) (hok : ∀ d ∈ l, OkFD w d) (hl : l.length * 40 ≤ 140737488351232) (hS : Rd w SA (sc.flatMap enOpE)) (hso : ∀ x ∈ sc, OkOpE w x) (hsl : sc.length * 120 ≤ 140737488351232) :
    Calls Tryz.prog 3 #[.slice A l.length cp, .slice SA sc.length scp, .int .i64 od] w (Law w) := by
  have HS := hid hS
  have HSO := hid hso
  have KP := hid (plans13 l A cp w hR hok hl)
  have KN := hid enew_any
  have KW := hid wakes13
  clear hR hok hS hso
  go_enter Tryz.func3, Tryz.ntmps3
  go_wp2_with fail
  refine KP.out.mono ?_
  rintro e wp ⟨ds, pA, pc, rA, rc, rfl, hdl, hP⟩
  have HP := hid hP
  clear KP hP
  go_wp2_with fail
  refine (KN.out wp).mono ?_
  rintro e w1 ⟨X, M, rfl, hE, hb1⟩
  have hb2 : Below w1.heap.size w1 (w1.alloc (.cells #[.slice none 0 0, .slice none 0 0] 34)) := (Below.refl _ _).alloc (Nat.le_refl _) _
  have HA0 := hid (alone_start HP.out (hE.next hb2) (bthen hb1 hb2) (Blk.new w1 _ _) hb1.size)
  clear hE hb1 hb2 KN
  go_wp2_with fail
  generalize w1.alloc (.cells #[.slice none 0 0, .slice none 0 0] 34) = W at HA0 ⊢
  generalize w1.heap.size = R at HA0 ⊢
  generalize hn0 : wp.heap.size = n0 at HA0
  clear hn0
  refine (KW.out W).mono ?_
  rintro e w2 ⟨rfl, hbw⟩
  have HA1 := hid (show AlX w ds X M n0 n0 R pA pc rA rc 0 w2 from by
    obtain ⟨ins, A, Y, LA, lc, bs, od, vO, h, h2⟩ := HA0.out
    exact ⟨ins, A, Y, LA, lc, bs, od, vO, h.next hbw, h2⟩)
  clear HA0 hbw KW HP
  go_wp2_with fail
  go_loopw [34] (fun i wr => ∃ k : Nat, k ≤ sc.length ∧ i = .int .i64 k ∧ Hid (AlX w ds X M n0 n0 R pA pc rA rc k wr)) (fun i _ => sc.length - nOf i)
  case atStart => exact ⟨0, Nat.zero_le _, rfl, HA1⟩
  case round =>
    obtain ⟨k, hk, rfl, HX⟩ := hrel
    obtain ⟨wu, hwu⟩ : ∃ wu, wu = wr := ⟨wr, rfl⟩
    subst hwu
    by_cases hlt : k < sc.length
    · obtain ⟨ins, Ak, Yk, LA, lc, bs, odd, vO, hAS, hbl⟩ := HX.out
      have HAS := hid hAS
      obtain ⟨x, hx⟩ : ∃ x, sc[k]? = some x := ⟨sc[k], List.getElem?_eq_getElem hlt⟩
      obtain ⟨b, off, hAA, _, hcc⟩ := (HS.out.below hAS.b).at_ 11 enOpE_len (by omega) hx
      have HXO := hid (HSO.out x (List.mem_of_getElem? hx))
      have HAA := hid hAA
      obtain ⟨xk, xo, xs, xt, xc, xu, so, ss, sp, MA, mc, ms, TA, tc, ts⟩ := x
      have q0 : wu.cell? ⟨b, off + k * 11, none⟩ = some (.int .i64 xk) := hcc 0 _ rfl
      have q1 : wu.cell? ⟨b, off + k * 11 + 1, none⟩ = some (.int .i64 xo) := hcc 1 _ rfl
      have q2 : wu.cell? ⟨b, off + k * 11 + 2, none⟩ = some (.int .i64 xs) := hcc 2 _ rfl
      have q3 : wu.cell? ⟨b, off + k * 11 + 3, none⟩ = some (.int .i64 xt) := hcc 3 _ rfl
      have q4 : wu.cell? ⟨b, off + k * 11 + 4, none⟩ = some (.int .i64 xc) := hcc 4 _ rfl
      have q5 : wu.cell? ⟨b, off + k * 11 + 5, none⟩ = some (.bool xu) := hcc 5 _ rfl
      have q6 : wu.cell? ⟨b, off + k * 11 + 6, none⟩ = some (.int .i64 so) := hcc 6 _ rfl
      have q7 : wu.cell? ⟨b, off + k * 11 + 7, none⟩ = some (.int .i64 ss) := hcc 7 _ rfl
      have q8 : wu.cell? ⟨b, off + k * 11 + 8, none⟩ = some (.bool sp) := hcc 8 _ rfl
      have q9 : wu.cell? ⟨b, off + k * 11 + 9, none⟩ = some (.slice MA ms.length mc) := hcc 9 _ rfl
      have q10 : wu.cell? ⟨b, off + k * 11 + 10, none⟩ = some (.slice TA ts.length tc) := hcc 10 _ rfl
      rw [hAA]
      have HOL := hid (show ∀ g, OwnA ds M ins Yk R LA lc bs.length g → g < wu.heap.size from fun g hg => HAS.out.own_lt hg)
      clear hcc hx hAA hAS
      go_upto_region 8 with fail
      have hG := Blk.new wu 42 #[.int .i64 xk, .int .i64 xo, .int .i64 xs, .int .i64 xt, .int .i64 xc, .bool xu, .int .i64 so, .int .i64 ss, .bool sp, .slice MA ms.length mc, .slice TA ts.length tc]
      have hbG : Below wu.heap.size wu (wu.alloc (.cells #[.int .i64 xk, .int .i64 xo, .int .i64 xs, .int .i64 xt, .int .i64 xc, .bool xu, .int .i64 so, .int .i64 ss, .bool sp, .slice MA ms.length mc, .slice TA ts.length tc] 42)) := (Below.refl _ _).alloc (Nat.le_refl _) _
      clear q0 q1 q2 q3 q4 q5 q6 q7 q8 q9 q10
      have HA2 := hid (HAS.out.next hbG)
      generalize wu.alloc (.cells #[.int .i64 xk, .int .i64 xo, .int .i64 xs, .int .i64 xt, .int .i64 xc, .bool xu, .int .i64 so, .int .i64 ss, .bool sp, .slice MA ms.length mc, .slice TA ts.length tc] 42) = W1 at hG HA2 ⊢
      generalize wu.heap.size = G at hG HOL ⊢
      have HG := hid hG
      have KG := hid (HA2.out.get od)
      clear hG hbG HAS
      go_wp2_with fail
      refine KG.out.mono ?_
      rintro e w3 ⟨M1, m1, T1, t1, pv1, rfl, hm1, ht1, hb3, hl1, hl2⟩
      obtain ⟨S1, hS1⟩ : ∃ S1, S1 = insAt ins od := ⟨_, rfl⟩
      have HS1 := hid hS1
      rw [← hS1] at hm1 ht1 hl1 hl2 ⊢
      clear hS1 KG
      generalize hvo : (savC S1).1 = vo
      generalize hvs : (savC S1).2.1 = vs
      generalize hvp : (savC S1).2.2 = vp
      generalize hmw : savM S1 = mw at hm1 ht1 hl1 hl2 ⊢
      generalize htw : savT S1 = tw at ht1 hl1
      have HV := hid (And.intro hvo (And.intro hvs (And.intro hvp (And.intro hmw htw))))
      have hb4 : Below w3.heap.size w3 (w3.alloc (.cells #[.int .i64 vo, .int .i64 vs, .bool vp, .slice M1 mw.length m1, .slice T1 mw.length t1] 40)) := (Below.refl _ _).alloc (Nat.le_refl _) _
      have hG3 := Blk.new w3 40 #[.int .i64 vo, .int .i64 vs, .bool vp, .slice M1 mw.length m1, .slice T1 mw.length t1]
      have HA3 := hid (HA2.out.next (bthen hb3 hb4))
      have HG13 := hid (HG.out.next (bthen hb3 hb4))
      have HR1 := hid (And.intro (own_next hm1 hb4) (And.intro (own_next ht1 hb4) (And.intro hl1 hl2)))
      have HLE := hid (show G < W1.heap.size ∧ W1.heap.size ≤ w3.heap.size from ⟨HG.out.lt, hb3.size⟩)
      clear hvo hvs hvp hmw htw hm1 ht1 hl1 hb3 hb4
      go_upto_region 10 with fail
      generalize w3.alloc (.cells #[.int .i64 vo, .int .i64 vs, .bool vp, .slice M1 mw.length m1, .slice T1 mw.length t1] 40) = W3 at hG3 HA3 HG13 HR1 ⊢
      generalize w3.heap.size = G3 at hG3 HLE ⊢
      have HG3 := hid hG3
      have g0 : W3.cell? ⟨G, 0, none⟩ = some (.int .i64 xk) := HG13.out.cell 0
      have lG := HG13.out.lt
      have hkk : (k : Int) ≤ 1000000000000000 := by omega
      have hb8 : bs.length * 8 + 8 ≤ 140737488355328 := by omega
      have hd8 : ds.length ≤ 140737488355328 := by omega
      have KST := hid (HA3.out.step hkk ⟨xk, xo, xs, xt, xc, xu, so, ss, sp, MA, mc, ms, TA, tc, ts⟩ HXO.out)
      have KRE := hid (HA3.out.reply hkk xo xs xt xc xu)
      have KFI := hid (HA3.out.fire hkk xo xs)
      have KPA := hid (HA3.out.paid xo)
      have KCA := hid (HA3.out.cancel hkk xo)
      clear hG3 HA2
      go_upto_block 2 with fail
      clear g0
      go_cut [16] (fun v wx => ∃ (OA : Option Addr) (fs : List Eff) (oc : Nat), v = .slice OA fs.length oc ∧ fs.length ≤ maxLen ∧ Hid (Rd wx OA (fs.flatMap enEf) ∧ (∀ f ∈ fs, f.order = xo) ∧ ∃ ins' A' Y' LA' lc' bs' od' vO', AlS w ds X M n0 ins' A' Y' n0 R LA' lc' bs' od' vO' pA pc rA rc ((k : Int) + 1) wx ∧ (∀ o2, o2 ≠ xo → (xk = 6 → o2 ≠ so) → insAt ins' o2 = insAt ins o2) ∧ Touch (OwnA ds M ins Yk R LA lc bs.length) W3 wx ∧ bs'.length ≤ k + 1))
      case first =>
        have HCR := hid (show ∀ (e : Ending) (w' : World), CallR w ds X M n0 ins Ak Yk n0 R LA lc bs odd vO pA pc rA rc (k : Int) xo W3 e w' → ∃ (OA : Option Addr) (fs : List Eff) (oc : Nat) (c : Int), e = .returned (.tuple #[.slice OA fs.length oc, .int .i64 c]) ∧ fs.length ≤ maxLen ∧ Hid (Rd w' OA (fs.flatMap enEf) ∧ (∀ f ∈ fs, f.order = xo) ∧ ∃ ins' A' Y' LA' lc' bs' od' vO', AlS w ds X M n0 ins' A' Y' n0 R LA' lc' bs' od' vO' pA pc rA rc ((k : Int) + 1) w' ∧ (∀ o2, o2 ≠ xo → (xk = 6 → o2 ≠ so) → insAt ins' o2 = insAt ins o2) ∧ Touch (OwnA ds M ins Yk R LA lc bs.length) W3 w' ∧ bs'.length ≤ k + 1) from by
          rintro e w' ⟨OA, fs, oc, c, ins', A', Y', he, h1, h2, h3, h4, h5, h6⟩
          exact ⟨OA, fs, oc, c, he, h6, hid ⟨h1, h2, ins', A', Y', LA, lc, bs, odd, vO, h3, fun o2 ho _ => h4 o2 ho, h5, by omega⟩⟩)
        have g0 : W3.cell? ⟨G, 0, none⟩ = some (.int .i64 xk) := HG13.out.cell 0
        have g1 : W3.cell? ⟨G, 1, none⟩ = some (.int .i64 xo) := HG13.out.cell 1
        have g2 : W3.cell? ⟨G, 2, none⟩ = some (.int .i64 xs) := HG13.out.cell 2
        have g3 : W3.cell? ⟨G, 3, none⟩ = some (.int .i64 xt) := HG13.out.cell 3
        have g4 : W3.cell? ⟨G, 4, none⟩ = some (.int .i64 xc) := HG13.out.cell 4
        have g5 : W3.cell? ⟨G, 5, none⟩ = some (.bool xu) := HG13.out.cell 5
        have g6 : W3.cell? ⟨G, 6, none⟩ = some (.int .i64 so) := HG13.out.cell 6
        have g7 : W3.cell? ⟨G, 7, none⟩ = some (.int .i64 ss) := HG13.out.cell 7
        have g8 : W3.cell? ⟨G, 8, none⟩ = some (.bool sp) := HG13.out.cell 8
        have g9 : W3.cell? ⟨G, 9, none⟩ = some (.slice MA ms.length mc) := HG13.out.cell 9
        have g10 : W3.cell? ⟨G, 10, none⟩ = some (.slice TA ts.length tc) := HG13.out.cell 10
        cases f2 : (xk == 2) with
        | true =>
          go_wp2_with fail
          refine KRE.out.mono ?_
          rintro e w4 hC
          obtain ⟨OA, fs, oc, c, rfl, hml, HC⟩ := HCR.out e w4 hC
          clear hC g0 g1 g2 g3 g4 g5 g6 g7 g8 g9 g10
          go_wp2_with fail
          go_meet
          exact ⟨OA, fs, oc, rfl, hml, HC⟩
        | false =>
          cases f3 : (xk == 3) with
          | true =>
            go_wp2_with fail
            refine KFI.out.mono ?_
            rintro e w4 hC
            obtain ⟨OA, fs, oc, c, rfl, hml, HC⟩ := HCR.out e w4 hC
            clear hC g0 g1 g2 g3 g4 g5 g6 g7 g8 g9 g10
            go_wp2_with fail
            go_meet
            exact ⟨OA, fs, oc, rfl, hml, HC⟩
          | false =>
            cases f4 : (xk == 4) with
            | true =>
              go_wp2_with fail
              refine KPA.out.mono ?_
              rintro e w4 hC
              obtain ⟨OA, fs, oc, c, rfl, hml, HC⟩ := HCR.out e w4 hC
              clear hC g0 g1 g2 g3 g4 g5 g6 g7 g8 g9 g10
              go_wp2_with fail
              go_meet
              exact ⟨OA, fs, oc, rfl, hml, HC⟩
            | false =>
              cases f5 : (xk == 5) with
              | true =>
                go_wp2_with fail
                refine KCA.out.mono ?_
                rintro e w4 hC
                obtain ⟨OA, fs, oc, c, rfl, hml, HC⟩ := HCR.out e w4 hC
                clear hC g0 g1 g2 g3 g4 g5 g6 g7 g8 g9 g10
                go_wp2_with fail
                go_meet
                exact ⟨OA, fs, oc, rfl, hml, HC⟩
              | false =>
                have KS2 := hid (KST.out ⟨by simpa using f2, by simpa using f3, by simpa using f4, by simpa using f5⟩ hb8 hd8)
                rw [show (enOpE ⟨xk, xo, xs, xt, xc, xu, so, ss, sp, MA, mc, ms, TA, tc, ts⟩).toArray = #[.int .i64 xk, .int .i64 xo, .int .i64 xs, .int .i64 xt, .int .i64 xc, .bool xu, .int .i64 so, .int .i64 ss, .bool sp, .slice MA ms.length mc, .slice TA ts.length tc] from rfl] at KS2
                go_wp2_with fail
                refine KS2.out.mono ?_
                rintro e w4 ⟨bb, rfl, LA', lc', bs', od', vO', ins', A', Y', h1, h2, h3, h4⟩
                have HC := hid (show Rd w4 none (([] : List Eff).flatMap enEf) ∧ (∀ f ∈ ([] : List Eff), f.order = xo) ∧ ∃ ins' A' Y' LA' lc' bs' od' vO', AlS w ds X M n0 ins' A' Y' n0 R LA' lc' bs' od' vO' pA pc rA rc ((k : Int) + 1) w4 ∧ (∀ o2, o2 ≠ xo → (xk = 6 → o2 ≠ so) → insAt ins' o2 = insAt ins o2) ∧ Touch (OwnA ds M ins Yk R LA lc bs.length) W3 w4 ∧ bs'.length ≤ k + 1 from ⟨.inl rfl, fun f hf => (by cases hf), ins', A', Y', LA', lc', bs', od', vO', h1, fun o2 ho ho6 => h2 o2 (fun _ => ho) ho6, h3, by omega⟩)
                clear h1 h2 h3 h4 KS2 g0 g1 g2 g3 g4 g5 g6 g7 g8 g9 g10
                go_wp2_with fail
                go_meet
                exact ⟨none, [], 0, rfl, by simp [maxLen], HC⟩
      case rest =>
        obtain ⟨OA, fs, oc, rfl, hml, HC⟩ := hcut
        obtain ⟨ins', A', Y', LA', lc', bs', od', vO', hA', hin', hT', hbs'⟩ := HC.out.2.2
        have HAc := hid hA'
        have HIN := hid hin'
        have HBS := hid hbs'
        have hnO : ∀ g, G ≤ g → ¬ OwnA ds M ins Yk R LA lc bs.length g := fun g hg ho => by have := HOL.out g ho; omega
        have HGc := hid (hT'.blk HG13.out (hnO G (Nat.le_refl _)))
        have HG3c := hid (hT'.blk HG3.out (hnO G3 (by have := HLE.out; omega)))
        have HRc := hid (show wc.ownsRow W1.heap.size 71 1 (.slice M1 mw.length m1) mw.length (mw.flatMap en1) ∧ wc.ownsRow W1.heap.size 3 1 (.slice T1 mw.length t1) mw.length (tw.flatMap en1) from
          ⟨own_touch HR1.out.1 hT' (fun g hg => hnO g (by have := (HR1.out.1.lt g hg).1; have := HLE.out; omega)), own_touch HR1.out.2.1 hT' (fun g hg => hnO g (by have := (HR1.out.2.1.lt g hg).1; have := HLE.out; omega))⟩)
        have HFS := hid (And.intro HC.out.1 HC.out.2.1)
        clear KST KRE KFI KPA KCA hA' hin' hT' hbs' hnO HC HA3 HG3 HG13
        go_wp2_with fail
        go_loopw [101] (fun i wr => ∃ j : Nat, j ≤ fs.length ∧ i = .int .i64 j ∧ Hid (Below wc.heap.size wc wr)) (fun i _ => fs.length - nOf i)
        case atStart => exact ⟨0, Nat.zero_le _, rfl, hid (Below.refl _ _)⟩
        case round =>
          obtain ⟨j, hj, rfl, HB⟩ := hrel
          by_cases hjl : j < fs.length
          · obtain ⟨f, hf⟩ : ∃ f, fs[j]? = some f := ⟨fs[j], List.getElem?_eq_getElem hjl⟩
            have hfo := HFS.out.2 f (List.mem_of_getElem? hf)
            obtain ⟨b5, o5, hA5, _, hc5⟩ := (HFS.out.1.below HB.out).at_ 6 enEf_len (by omega) hf
            obtain ⟨fk, fo, fs', ft, fc, fu⟩ := f
            simp only at hfo
            subst hfo
            have r0 : wr.cell? ⟨b5, o5 + j * 6, none⟩ = some (.int .i64 fk) := hc5 0 _ rfl
            have r1 : wr.cell? ⟨b5, o5 + j * 6 + 1, none⟩ = some (.int .i64 fo) := hc5 1 _ rfl
            have r2 : wr.cell? ⟨b5, o5 + j * 6 + 2, none⟩ = some (.int .i64 fs') := hc5 2 _ rfl
            have r3 : wr.cell? ⟨b5, o5 + j * 6 + 3, none⟩ = some (.int .i64 ft) := hc5 3 _ rfl
            have r4 : wr.cell? ⟨b5, o5 + j * 6 + 4, none⟩ = some (.int .i64 fc) := hc5 4 _ rfl
            have r5 : wr.cell? ⟨b5, o5 + j * 6 + 5, none⟩ = some (.bool fu) := hc5 5 _ rfl
            have g1 : wr.cell? ⟨G, 1, none⟩ = some (.int .i64 fo) := (HGc.out.next HB.out).cell 1
            have lG := (HGc.out.next HB.out).lt
            have tz : (fo != fo) = false := by simp
            unfold maxLen at hml
            rw [hA5]
            clear hc5 hf hA5
            go_wp2_with fail
            go_roundw
            case rel => exact ⟨j + 1, by omega, by go_num, hid (HB.out.alloc HB.out.size _)⟩
            case measure => simp [nOf]; omega
          · have hj' : j = fs.length := by omega
            subst hj'
            have KG2 := hid ((HAc.out.next HB.out).get od)
            have HAr := hid (HAc.out.next HB.out)
            have HGr := hid (HGc.out.next HB.out)
            have HG3r := hid (HG3c.out.next HB.out)
            have HRr := hid (And.intro (own_next HRc.out.1 HB.out) (own_next HRc.out.2 HB.out))
            clear HAc HGc HG3c HRc HFS
            go_wp2_with fail
            refine KG2.out.mono ?_
            rintro e w6 ⟨M2, m2, T2, t2, pv2, rfl, hm2, ht2, hb6, hl3, hl4⟩
            have HB6 := hid hb6
            have HFIN := hid (show ∀ w7, Below w6.heap.size w6 w7 → Hid (AlX w ds X M n0 n0 R pA pc rA rc (k + 1) w7) from fun w7 hb => hid ⟨ins', A', Y', LA', lc', bs', od', vO', by
              have h := HAr.out.next (bthen hb6 hb)
              rw [show ((k + 1 : Nat) : Int) = (k : Int) + 1 from by push_cast; rfl]
              exact h, HBS.out⟩)
            have g0 : w6.cell? ⟨G, 0, none⟩ = some (.int .i64 xk) := (HGr.out.next hb6).cell 0
            have g1 : w6.cell? ⟨G, 1, none⟩ = some (.int .i64 xo) := (HGr.out.next hb6).cell 1
            have g6 : w6.cell? ⟨G, 6, none⟩ = some (.int .i64 so) := (HGr.out.next hb6).cell 6
            have lG := (HGr.out.next hb6).lt
            cases fA : (xo != od) with
            | false =>
              generalize (savC (insAt ins' od)).1 = zo
              generalize (savC (insAt ins' od)).2.1 = zs
              generalize (savC (insAt ins' od)).2.2 = zp
              generalize (savM (insAt ins' od)).length = zn
              clear hm2 ht2 hl3 hl4 hb6 KG2
              generalize (insAt ins' od).isSome = zi
              go_wp2_with fail
              go_roundw
              case rel => exact ⟨k + 1, by omega, by go_num, HFIN.out _ (((Below.refl w6.heap.size w6).alloc (Nat.le_refl _) _))⟩
              case measure => simp [nOf]; omega
            | true =>
              by_cases hsp : xk = 6 ∧ so = od
              · have fB : (xk != 6) = false := by simp [hsp.1]
                have fC : (so != od) = false := by simp [hsp.2]
                generalize (savC (insAt ins' od)).1 = zo
                generalize (savC (insAt ins' od)).2.1 = zs
                generalize (savC (insAt ins' od)).2.2 = zp
                generalize (savM (insAt ins' od)).length = zn
                clear hm2 ht2 hl3 hl4 hb6 KG2 hsp
                generalize (insAt ins' od).isSome = zi
                go_wp2_with fail
                go_roundw
                case rel => exact ⟨k + 1, by omega, by go_num, HFIN.out _ (((Below.refl w6.heap.size w6).alloc (Nat.le_refl _) _))⟩
                case measure => simp [nOf]; omega
              · have hS2 : insAt ins' od = S1 := by
                  rw [HS1.out]
                  refine HIN.out od (fun e => ?_) (fun e6 e => hsp ⟨e6, e.symm⟩)
                  rw [e] at fA
                  simp at fA
                rw [hS2] at hm2 ht2 hl3 hl4 ⊢
                rw [HV.out.1, HV.out.2.1, HV.out.2.2.1, HV.out.2.2.2.1]
                rw [HV.out.2.2.2.1] at hm2 ht2 hl3 hl4
                rw [HV.out.2.2.2.2] at ht2 hl3
                have hb7 : Below w6.heap.size w6 (w6.alloc (.cells #[.int .i64 vo, .int .i64 vs, .bool vp, .slice M2 mw.length m2, .slice T2 mw.length t2] 40)) := (Below.refl _ _).alloc (Nat.le_refl _) _
                have hG6 := Blk.new w6 40 #[.int .i64 vo, .int .i64 vs, .bool vp, .slice M2 mw.length m2, .slice T2 mw.length t2]
                have hG3f := (HG3r.out.next hb6).next hb7
                have HGF := hid ((HGr.out.next hb6).next hb7)
                have hR1 := own_rd (own_next (own_next HRr.out.1 hb6) hb7)
                have hR2 := own_rd (own_next (own_next HRr.out.2 hb6) hb7)
                have hR3 := own_rd (own_next hm2 hb7)
                have hR4 := own_rd (own_next ht2 hb7)
                have HFI2 := hid (fun w7 (hb : Below (w6.alloc (.cells #[.int .i64 vo, .int .i64 vs, .bool vp, .slice M2 mw.length m2, .slice T2 mw.length t2] 40)).heap.size (w6.alloc (.cells #[.int .i64 vo, .int .i64 vs, .bool vp, .slice M2 mw.length m2, .slice T2 mw.length t2] 40)) w7) => HFIN.out w7 (bthen hb7 hb))
                have HL3 := hid hl3
                clear hm2 ht2 hl3 hb6 KG2 hS2 HFIN g0 g1 g6 lG HAr HGr HG3r HRr
                go_upto_region 27 with fail
                generalize w6.alloc (.cells #[.int .i64 vo, .int .i64 vs, .bool vp, .slice M2 mw.length m2, .slice T2 mw.length t2] 40) = W7 at hb7 hG6 hG3f HGF hR1 hR2 hR3 hR4 HFI2 ⊢
                generalize w6.heap.size = G6 at hG6 hb7 ⊢
                have KSS := hid (sameSaved13_any vo vs vp mw tw mw.length M1 T1 M2 T2 m1 t1 m2 t2 W7 hR1 hR2 hR3 hR4 rfl HL3.out hl4)
                have a0 : W7.cell? ⟨G3, 0, none⟩ = some (.int .i64 vo) := hG3f.cell 0
                have a1 : W7.cell? ⟨G3, 1, none⟩ = some (.int .i64 vs) := hG3f.cell 1
                have a2 : W7.cell? ⟨G3, 2, none⟩ = some (.bool vp) := hG3f.cell 2
                have a3 : W7.cell? ⟨G3, 3, none⟩ = some (.slice M1 mw.length m1) := hG3f.cell 3
                have a4 : W7.cell? ⟨G3, 4, none⟩ = some (.slice T1 mw.length t1) := hG3f.cell 4
                have c0 : W7.cell? ⟨G6, 0, none⟩ = some (.int .i64 vo) := hG6.cell 0
                have c1 : W7.cell? ⟨G6, 1, none⟩ = some (.int .i64 vs) := hG6.cell 1
                have c2 : W7.cell? ⟨G6, 2, none⟩ = some (.bool vp) := hG6.cell 2
                have c3 : W7.cell? ⟨G6, 3, none⟩ = some (.slice M2 mw.length m2) := hG6.cell 3
                have c4 : W7.cell? ⟨G6, 4, none⟩ = some (.slice T2 mw.length t2) := hG6.cell 4
                have g0 : W7.cell? ⟨G, 0, none⟩ = some (.int .i64 xk) := HGF.out.cell 0
                have g1 : W7.cell? ⟨G, 1, none⟩ = some (.int .i64 xo) := HGF.out.cell 1
                have g6 : W7.cell? ⟨G, 6, none⟩ = some (.int .i64 so) := HGF.out.cell 6
                have lG := HGF.out.lt
                have lG3 := hG3f.lt
                have lG6 := hG6.lt
                have tI : (S1.isSome != S1.isSome) = false := by simp
                clear hG6 hG3f hR1 hR2 hR3 hR4 hb7
                cases fB : (xk != 6) with
                | true =>
                  clear hsp
                  go_wp2_with fail
                  refine KSS.out.mono ?_
                  rintro e w8 ⟨rfl, hb8'⟩
                  have HFZ := hid (HFI2.out w8 hb8')
                  clear KSS hb8' a0 a1 a2 a3 a4 c0 c1 c2 c3 c4 g0 g1 g6 lG lG3 lG6
                  go_wp2_with fail
                  go_roundw
                  case rel => exact ⟨k + 1, by omega, by go_num, HFZ.out⟩
                  case measure => simp [nOf]; omega
                | false =>
                  have fC : (so != od) = true := by
                    have : xk = 6 := by simpa using fB
                    have : so ≠ od := fun e => hsp ⟨this, e⟩
                    simpa using this
                  clear hsp
                  go_wp2_with fail
                  refine KSS.out.mono ?_
                  rintro e w8 ⟨rfl, hb8'⟩
                  have HFZ := hid (HFI2.out w8 hb8')
                  clear KSS hb8' a0 a1 a2 a3 a4 c0 c1 c2 c3 c4 g0 g1 g6 lG lG3 lG6
                  go_wp2_with fail
                  go_roundw
                  case rel => exact ⟨k + 1, by omega, by go_num, HFZ.out⟩
                  case measure => simp [nOf]; omega
    · have hk' : k = sc.length := by omega
      subst hk'
      go_wp2_with fail
      go_ret
      obtain ⟨ins, A, Y, LA, lc, bs, od, vO, h, h2⟩ := HX.out
      exact ⟨rfl, h.b⟩

end Go.Proofs.YtoemmakhbiiknaaGreat

namespace Go.Proofs.YtoemmakhbiiknaaGreat
open Go.RowKit Go.WideShapes Go.ChangeShapes Go.ChangeAt Go.Deep
set_option linter.unusedVariables false

theorem bytesDef13 : Tryz.prog.bytesOf 60 = 40 := by kernel_rfl
section
variable {H : Type} {enc : TypeId × Value → H} {w : World} {base : Nat} {spare : Nat → Bool} {held : Bool}
theorem open_defs13 {fuel : Nat} {cs : List Value} {x : DataW H × List MemPlace} (h : DataW.trod enc Tryz.prog w base spare held fuel 22 cs = some x) (hw : Reach Tryz.prog 22 x.1) :
    ∃ (A : Option Addr) (cap : Nat) (l : List FDef), cs = [.slice A l.length cap] ∧ Rd w A (l.flatMap enFD) ∧ (∀ p ∈ l, OkFD w p) ∧ l.length * 40 ≤ 140737488351232 := by
  obtain ⟨A, cap, l, rfl, hR, ok, hd⟩ := open_rows (en := enFD) (Q := OkFD w) (G := Reach Tryz.prog 60) enFD_len (by omega) (by kernel_rfl) Tryz.underlying22 open_def12 h (fun elems sp hx d hd y hy => hw y (by rw [hx]; exact weights_elem Tryz.underlying22 hd hy))
  refine ⟨A, cap, l, rfl, hR, ok, ?_⟩
  rcases hd with hd | ⟨elems, sp, hd, hel⟩
  · omega
  · have := hw _ (by rw [hd]; exact weights_len Tryz.underlying22)
    rw [bytesDef13] at this
    simp only [reachBytes] at this
    omega
end

end Go.Proofs.YtoemmakhbiiknaaGreat

namespace Go.Proofs.YtoemmakhbiiknaaGreat
open Go.RowKit Go.WideShapes Go.ChangeShapes Go.ChangeAt Go.Deep
set_option linter.unusedVariables false

theorem flatMk13 : Flat Tryz.prog 71 [.int .i64] := flat_scalar (by kernel_rfl) (by kernel_rfl)
theorem flatIn13 : Flat Tryz.prog 3 [.int .i64] := flat_scalar (by kernel_rfl) (by kernel_rfl)
theorem bytesMk13 : Tryz.prog.bytesOf 71 = 8 := by kernel_rfl
theorem bytesIn13 : Tryz.prog.bytesOf 3 = 8 := by kernel_rfl
theorem bytesOp13 : Tryz.prog.bytesOf 42 = 120 := by kernel_rfl
section
variable {H : Type} {enc : TypeId × Value → H} {P : Program} {w : World} {base : Nat} {spare : Nat → Bool} {held : Bool}
/-- A struct, opened part by part. -/
theorem open_parts {t : TypeId} {fs : Array Field} (ht : P.underlying t = some (.struct fs)) {fuel : Nat} {cs : List Value} {x : DataW H × List MemPlace} (h : DataW.trod enc P w base spare held fuel t cs = some x) :
    ∃ (n : Nat) (ys : List (DataW H × List MemPlace)), x.1 = .agg (ys.map (·.1)) ∧ ys.length = fs.size ∧ ∀ (j : Nat) (f : Field), fs[j]? = some f → ∃ y, ys[j]? = some y ∧ DataW.trod enc P w base spare held n f.type ((cs.drop f.offset).take (P.cellsOf f.type)) = some y := by
  obtain ⟨ys, n', hn', hy, hlen, hyl, hf⟩ := DataW.trod_struct ht h
  refine ⟨n', ys, by rw [hy], hyl, fun j f hfj => ?_⟩
  have hjs : j < fs.size := (Array.getElem?_eq_some_iff.1 hfj).1
  have h1 := hf j _ hfj
  have hjy : j < ys.length := by omega
  rw [List.getElem?_eq_getElem hjy] at h1
  exact ⟨ys[j], List.getElem?_eq_getElem hjy, h1⟩
end
section
variable {H : Type} {enc : TypeId × Value → H} {w : World} {base : Nat} {spare : Nat → Bool} {held : Bool}
theorem open_marks13 {fuel : Nat} {cs : List Value} {x : DataW H × List MemPlace} (h : DataW.trod enc Tryz.prog w base spare held fuel 37 cs = some x) (hw : Reach Tryz.prog 37 x.1) :
    ∃ (A : Option Addr) (cap : Nat) (l : List Int), cs = [.slice A l.length cap] ∧ Rd w A (l.flatMap en1) ∧ l.length * 8 ≤ 140737488351232 := by
  obtain ⟨A, len, cap, xs, rfl, hlc, hcm, hxl, hR, hall, hd⟩ := open_flat Tryz.underlying37 flatMk13 (by decide) h
  obtain ⟨l, rfl, rfl, ok⟩ := flat_list (ks := [.int .i64]) (en := en1) (ok := Go.Proofs.YtoemmakhbiiknaaGreat.ok1) dec1 len xs hxl hall
  refine ⟨A, cap, l, rfl, hR, ?_⟩
  rcases hd with hd | ⟨elems, sp, hd, hel⟩
  · omega
  · have := hw _ (by rw [hd]; exact weights_len Tryz.underlying37)
    rw [bytesMk13] at this
    simp only [reachBytes] at this
    omega
theorem open_intl13 {fuel : Nat} {cs : List Value} {x : DataW H × List MemPlace} (h : DataW.trod enc Tryz.prog w base spare held fuel 38 cs = some x) (hw : Reach Tryz.prog 38 x.1) :
    ∃ (A : Option Addr) (cap : Nat) (l : List Int), cs = [.slice A l.length cap] ∧ Rd w A (l.flatMap en1) ∧ l.length * 8 ≤ 140737488351232 := by
  obtain ⟨A, len, cap, xs, rfl, hlc, hcm, hxl, hR, hall, hd⟩ := open_flat Tryz.underlying38 flatIn13 (by decide) h
  obtain ⟨l, rfl, rfl, ok⟩ := flat_list (ks := [.int .i64]) (en := en1) (ok := Go.Proofs.YtoemmakhbiiknaaGreat.ok1) dec1 len xs hxl hall
  refine ⟨A, cap, l, rfl, hR, ?_⟩
  rcases hd with hd | ⟨elems, sp, hd, hel⟩
  · omega
  · have := hw _ (by rw [hd]; exact weights_len Tryz.underlying38)
    rw [bytesIn13] at this
    simp only [reachBytes] at this
    omega
set_option maxRecDepth 100000 in
theorem open_op13 (fuel : Nat) (cs : List Value) (x : DataW H × List MemPlace) (hl : cs.length = 11) (h : DataW.trod enc Tryz.prog w base spare held fuel 42 cs = some x) (hw : Reach Tryz.prog 42 x.1) :
    ∃ p : OpE, cs = enOpE p ∧ OkOpE w p := by
  obtain ⟨n, ys, hx, hyl, hf⟩ := open_parts Tryz.underlying42 h
  match cs, hl with
  | [u0, u1, u2, u3, u4, u5, v0, v1, v2, v3, v4], _ =>
    obtain ⟨y0, e0, t0⟩ := hf 0 _ rfl
    obtain ⟨y1, e1, t1⟩ := hf 1 _ rfl
    obtain ⟨y2, e2, t2⟩ := hf 2 _ rfl
    obtain ⟨y3, e3, t3⟩ := hf 3 _ rfl
    obtain ⟨y4, e4, t4⟩ := hf 4 _ rfl
    obtain ⟨y5, e5, t5⟩ := hf 5 _ rfl
    obtain ⟨y6, e6, t6⟩ := hf 6 _ rfl
    have hint : Tryz.prog.cellsOf 3 = 1 := by kernel_rfl
    have hboo : Tryz.prog.cellsOf 4 = 1 := by kernel_rfl
    have hsav : Tryz.prog.cellsOf 40 = 5 := by kernel_rfl
    have t0 : DataW.trod enc Tryz.prog w base spare held n 3 ((List.drop 0 [u0, u1, u2, u3, u4, u5, v0, v1, v2, v3, v4]).take (Tryz.prog.cellsOf 3)) = some y0 := t0
    rw [hint] at t0
    have t0 : DataW.trod enc Tryz.prog w base spare held n 3 [u0] = some y0 := t0
    have t1 : DataW.trod enc Tryz.prog w base spare held n 3 ((List.drop 1 [u0, u1, u2, u3, u4, u5, v0, v1, v2, v3, v4]).take (Tryz.prog.cellsOf 3)) = some y1 := t1
    rw [hint] at t1
    have t1 : DataW.trod enc Tryz.prog w base spare held n 3 [u1] = some y1 := t1
    have t2 : DataW.trod enc Tryz.prog w base spare held n 3 ((List.drop 2 [u0, u1, u2, u3, u4, u5, v0, v1, v2, v3, v4]).take (Tryz.prog.cellsOf 3)) = some y2 := t2
    rw [hint] at t2
    have t2 : DataW.trod enc Tryz.prog w base spare held n 3 [u2] = some y2 := t2
    have t3 : DataW.trod enc Tryz.prog w base spare held n 3 ((List.drop 3 [u0, u1, u2, u3, u4, u5, v0, v1, v2, v3, v4]).take (Tryz.prog.cellsOf 3)) = some y3 := t3
    rw [hint] at t3
    have t3 : DataW.trod enc Tryz.prog w base spare held n 3 [u3] = some y3 := t3
    have t4 : DataW.trod enc Tryz.prog w base spare held n 3 ((List.drop 4 [u0, u1, u2, u3, u4, u5, v0, v1, v2, v3, v4]).take (Tryz.prog.cellsOf 3)) = some y4 := t4
    rw [hint] at t4
    have t4 : DataW.trod enc Tryz.prog w base spare held n 3 [u4] = some y4 := t4
    have t5 : DataW.trod enc Tryz.prog w base spare held n 4 ((List.drop 5 [u0, u1, u2, u3, u4, u5, v0, v1, v2, v3, v4]).take (Tryz.prog.cellsOf 4)) = some y5 := t5
    rw [hboo] at t5
    have t5 : DataW.trod enc Tryz.prog w base spare held n 4 [u5] = some y5 := t5
    have t6 : DataW.trod enc Tryz.prog w base spare held n 40 ((List.drop 6 [u0, u1, u2, u3, u4, u5, v0, v1, v2, v3, v4]).take (Tryz.prog.cellsOf 40)) = some y6 := t6
    rw [hsav] at t6
    have t6 : DataW.trod enc Tryz.prog w base spare held n 40 [v0, v1, v2, v3, v4] = some y6 := t6
    obtain ⟨k0, hv0, _, hw0⟩ := DataW.trod_int Tryz.underlying3 t0
    obtain ⟨k1, hv1, _, hw1⟩ := DataW.trod_int Tryz.underlying3 t1
    obtain ⟨k2, hv2, _, hw2⟩ := DataW.trod_int Tryz.underlying3 t2
    obtain ⟨k3, hv3, _, hw3⟩ := DataW.trod_int Tryz.underlying3 t3
    obtain ⟨k4, hv4, _, hw4⟩ := DataW.trod_int Tryz.underlying3 t4
    obtain ⟨k5, hv5, _⟩ := DataW.trod_bool Tryz.underlying4 t5
    have hw6 : Reach Tryz.prog 40 y6.1 := fun y hy => hw y (by rw [hx]; exact weights_field (j := 6) Tryz.underlying42 rfl (by rw [List.getElem?_map, e6]; rfl) hy)
    obtain ⟨n2, zs, hz, hzl, hg⟩ := open_fields Tryz.underlying40 (by kernel_rfl) rfl t6
    obtain ⟨a0, z0, c0, d0, s0⟩ := hg 0 _ rfl
    obtain ⟨a1, z1, c1, d1, s1⟩ := hg 1 _ rfl
    obtain ⟨a2, z2, c2, d2, s2⟩ := hg 2 _ rfl
    obtain ⟨a3, z3, c3, d3, s3⟩ := hg 3 _ rfl
    obtain ⟨a4, z4, c4, d4, s4⟩ := hg 4 _ rfl
    simp at c0 c1 c2 c3 c4
    subst c0 c1 c2 c3 c4
    obtain ⟨j0, hj0, _, _⟩ := DataW.trod_int Tryz.underlying3 s0
    obtain ⟨j1, hj1, _, _⟩ := DataW.trod_int Tryz.underlying36 s1
    obtain ⟨j2, hj2, _⟩ := DataW.trod_bool Tryz.underlying4 s2
    obtain ⟨MA, mc, ms, hm, hRm, hlm⟩ := open_marks13 s3 (fun y hy => hw6 y (by rw [hz]; exact weights_field (j := 3) Tryz.underlying40 rfl (by rw [List.getElem?_map, d3]; rfl) hy))
    obtain ⟨TA, tc, ts, ht, hRt, hlt⟩ := open_intl13 s4 (fun y hy => hw6 y (by rw [hz]; exact weights_field (j := 4) Tryz.underlying40 rfl (by rw [List.getElem?_map, d4]; rfl) hy))
    simp only [List.cons.injEq, and_true] at hv0 hv1 hv2 hv3 hv4 hv5 hj0 hj1 hj2 hm ht
    subst hv0 hv1 hv2 hv3 hv4 hv5 hj0 hj1 hj2 hm ht
    exact ⟨⟨k0, k1, k2, k3, k4, k5, j0, j1, j2, MA, mc, ms, TA, tc, ts⟩, rfl, hRm, hRt, hlm, hlt, by simpa [Lit.wf, IntKind.min, IntKind.max, IntKind.signed, IntKind.bits] using hw2⟩
theorem open_ops13 {fuel : Nat} {cs : List Value} {x : DataW H × List MemPlace} (h : DataW.trod enc Tryz.prog w base spare held fuel 23 cs = some x) (hw : Reach Tryz.prog 23 x.1) :
    ∃ (A : Option Addr) (cap : Nat) (l : List OpE), cs = [.slice A l.length cap] ∧ Rd w A (l.flatMap enOpE) ∧ (∀ p ∈ l, OkOpE w p) ∧ l.length * 120 ≤ 140737488351232 := by
  obtain ⟨A, cap, l, rfl, hR, ok, hd⟩ := open_rows (en := enOpE) (Q := OkOpE w) (G := Reach Tryz.prog 42) enOpE_len (by omega) (by kernel_rfl) Tryz.underlying23 open_op13 h (fun elems sp hx d hd y hy => hw y (by rw [hx]; exact weights_elem Tryz.underlying23 hd hy))
  refine ⟨A, cap, l, rfl, hR, ok, ?_⟩
  rcases hd with hd | ⟨elems, sp, hd, hel⟩
  · omega
  · have := hw _ (by rw [hd]; exact weights_len Tryz.underlying23)
    rw [bytesOp13] at this
    simp only [reachBytes] at this
    omega
end

end Go.Proofs.YtoemmakhbiiknaaGreat

namespace Go.Proofs.YtoemmakhbiiknaaGreat.lawEngineAlone
open Go.ChangeShapes Go.WideShapes Go.ChangeAt Go.RowKit 
set_option linter.unusedVariables false

theorem own : ownKnob Tryz.prog.godebug = none := by kernel_rfl
theorem laidOut : laidOutB Tryz.prog = true := by kernel_rfl

set_option maxRecDepth 100000 in
theorem contract (H : Type) (enc : TypeId × Value → H) (W : World) (base : Nat) (args : Array Value) (ds gs : List (DataW H)) (before : List MemPlace)
    (hval : ∀ (j : Nat) t v, Tryz.f3.params[j]? = some t → args[j]? = some v → Value.okWide Tryz.prog W .any base t v)
    (hW : DataW.Whole enc Tryz.prog Tryz.f3.params.toList Rows.engineAloneSpec.vars false W args.toList ds gs before)
    (hsz : (DataW.weightsEach Tryz.prog (Tryz.f3.params.toList ++ Rows.engineAloneSpec.plain.varTypes Tryz.prog) (ds ++ gs)).all (· ≤ reachBytes) = true) :
    Calls Tryz.prog 3 args W fun e W' => ∃ v, e = .returned v ∧ Rows.engineAloneSpec.post enc Tryz.prog Tryz.f3 false true false false W args v W' := by
  have fin : ∀ e W', Law W e W' → ∃ v, e = .returned v ∧ Rows.engineAloneSpec.post enc Tryz.prog Tryz.f3 false true false false W args v W' :=
    fun e W' h => law_post laidOut rfl (fun ds hds => by
      rw [Tryz.params3] at hds
      match ds, hds with
      | [d0, d1, d2], _ => exact ⟨rfl, rfl, rfl⟩) (by rw [Tryz.params3]; intro t ht; simp only [List.mem_cons, List.not_mem_nil, or_false] at ht; rcases ht with rfl | rfl | rfl <;> exact ⟨by kernel_rfl, of_decide_eq_true (by kernel_rfl)⟩) (by kernel_rfl) Tryz.underlying4 hW h
  obtain ⟨p, q, hA0, hV, rfl, hfz, hnd⟩ := hW
  have hA : DataW.TrodAll enc Tryz.prog W 0 (fun _ => true) true Tryz.f3.params.toList args.toList ds p := hA0
  rw [Tryz.params3] at hA hval hsz
  obtain ⟨v0, vs0, d0, ds0, p0, q0, hargs, rfl, rfl, h0, r0⟩ := trodAll_cons hA
  obtain ⟨v1, vs1, d1, ds1, p1, q1, rfl, rfl, rfl, h1, r1⟩ := trodAll_cons r0
  obtain ⟨v2, vs2, d2, ds2, p2, q2, rfl, rfl, rfl, h2, r2⟩ := trodAll_cons r1
  obtain ⟨rfl, rfl, rfl⟩ := trodAll_nil r2
  obtain rfl : args = #[v0, v1, v2] := by cases args; simp_all
  obtain ⟨rfl, rfl⟩ := trodVars_none hV
  obtain ⟨A0, len0, cap0, rfl⟩ := okWide_slice Tryz.underlying22 (hval 0 22 v0 rfl rfl)
  obtain ⟨fuel0, hf0⟩ := h0
  obtain ⟨A0', cap0', l0, hcs0, hR0, ok0, hr0⟩ := open_defs13 hf0 (fun y hy => by simpa using List.all_eq_true.1 hsz _ (DataW.weights_mem_each (j := 0) rfl rfl y hy))
  simp [Value.cells] at hcs0
  obtain ⟨rfl, rfl, rfl⟩ := hcs0
  obtain ⟨A1, len1, cap1, rfl⟩ := okWide_slice Tryz.underlying23 (hval 1 23 v1 rfl rfl)
  obtain ⟨fuel1, hf1⟩ := h1
  obtain ⟨A1', cap1', l1, hcs1, hR1, ok1, hr1⟩ := open_ops13 hf1 (fun y hy => by simpa using List.all_eq_true.1 hsz _ (DataW.weights_mem_each (j := 1) rfl rfl y hy))
  simp [Value.cells] at hcs1
  obtain ⟨rfl, rfl, rfl⟩ := hcs1
  obtain ⟨n2, rfl, rfl, rfl, w2⟩ := open_int Tryz.underlying3 (hval 2 3 v2 rfl rfl) h2
  exact (engineAlone_walk l0 A0 cap0 l1 A1 cap1 n2 W hR0 ok0 hr0 hR1 ok1 hr1).mono fin

set_option maxRecDepth 100000 in
theorem lifted (os : Os) (started : os.Started) (H : Type) (enc : TypeId × Value → H) :
    ReturnsInHanded {} Tryz.checked os 3 .any (Rows.engineAloneSpec.pre6 enc Tryz.prog Tryz.f3 Rows.engineAloneRow.domain false) (Rows.engineAloneSpec.post enc Tryz.prog Tryz.f3 false true false false) := by
  refine returnsInHanded_of_change_sized (C := Tryz.checked) own started (by kernel_rfl) Tryz.func3
    (ChangeSpec.witness6 (enc := enc) (C := Tryz.checked) false ⟨#[], #[.slice none 0 0, .slice none 0 0, .int .i64 0], []⟩ 8 (by kernel_rfl) (by kernel_rfl) (by kernel_rfl) (by kernel_rfl)) ?_
  intro W base args ds gs before hval hW _ hsz _
  exact contract H enc W base args ds gs before hval hW hsz

/-- THE STATEMENT. -/
theorem proved : Rows.EngineAloneSaid :=
  OpenClaim.holds_of_wide 3 Tryz.f3 rfl rfl rfl rfl rfl rfl rfl ⟨rfl, rfl, rfl, rfl, rfl⟩ rfl rfl rfl rfl rfl (by kernel_rfl) Tryz.func3 (by kernel_rfl)
    (of_decide_eq_true (by kernel_rfl)) (by unfold Func.isWrapper; rw [if_neg (of_decide_eq_false (by kernel_rfl))]; exact ⟨rfl, rfl⟩)
    (fun os started H enc _ => lifted os started H enc)
#print axioms proved
end Go.Proofs.YtoemmakhbiiknaaGreat.lawEngineAlone
