/-
  Layer 19: the walk of OrdersMay.
-/
import Derived.Test.YtdgoifnhlpjnpaaOmay
namespace Go.Proofs.Ytdgoifnhlpjnpaa
open Go.RowKit Go.WideShapes Go.ChangeShapes Go.ChangeAt Go.Deep
set_option linter.unusedVariables false

section
variable {w0 w w' : World} {n0 X BP BO G : Nat} {x : Opn} {pr : List (Int × Int)} {os : List (Int × Od)}
theorem Pl.get (h : Pl w0 n0 X BP BO G x pr os w) (id : Int) : Calls Try.prog 15 #[.pointer (some ⟨X, 0, none⟩), .int .i64 id] w fun e w' =>
    ∃ (i c : Int) (f : ByteArray) (A : Option Addr) (n cap : Nat) (net tax : Int), e = .returned (.tuple #[.agg #[.int .i64 i, .int .i64 c, .string f, .slice A n cap, .int .i64 net, .int .i64 tax], .bool (mget os id).isSome]) ∧ Pl w0 n0 X BP BO G x pr os w' :=
  (get_any h.st.book h.st.four id).mono fun e w' ⟨h1, h2, h3⟩ => by
    cases hm : mget os id with
    | none => exact ⟨0, 0, ByteArray.empty, none, 0, 0, 0, 0, h1 hm, h.next h3⟩
    | some o =>
      obtain ⟨b, cap, h4, _⟩ := h2 o hm
      exact ⟨o.i, o.c, o.f, some ⟨b, 0, none⟩, o.ls.length, cap, o.n, o.t, h4, h.next h3⟩
end

set_option maxRecDepth 100000 in
set_option maxHeartbeats 16000000 in
theorem ordersMay_walk (l : List Opn) (A : Option Addr) (cp : Nat) (w : World) (hR : Rd w A (l.flatMap enOp)) (hok : ∀ x ∈ l, OkOp w x) (hl : l.length * 72 ≤ 140737488351232) :
    Calls Try.prog 3 #[.slice A l.length cp] w (Law w) := by
  have HOK := hid hok
  clear hok
  go_enter Try.func3, Try.ntmps3
  go_wp2_with fail
  refine (wakes_any _).mono ?_
  rintro e w1 ⟨rfl, hb⟩
  go_wp2_with fail
  refine (new_any _).mono ?_
  rintro e w2 ⟨X, BP, BO, rfl, h, hb1⟩
  have hS : St w w1.heap.size X BP BO [] [] w2 := ⟨h, (fun _ _ hp => by simp [mget] at hp), (fun p hp => by cases hp), bthen hb hb1, hb.size, hb1.size⟩
  have hw := hb.size
  clear h hb hb1
  obtain ⟨n0, hn0⟩ : ∃ n0, n0 = w1.heap.size := ⟨_, rfl⟩
  rw [← hn0] at hS hw
  clear hn0
  go_wp2_with fail
  go_loopw [15] (fun i wr => ∃ (k : Nat) (pr : List (Int × Int)) (os : List (Int × Od)), k ≤ l.length ∧ i = .int .i64 k ∧ St w n0 X BP BO pr os wr) (fun i _ => l.length - nOf i)
  case atStart => exact ⟨0, [], [], Nat.zero_le _, rfl, hS⟩
  case round =>
    clear hS
    obtain ⟨k, pr, os, hk, rfl, hS⟩ := hrel
    by_cases hlt : k < l.length
    · obtain ⟨x, hx⟩ : ∃ x, l[k]? = some x := ⟨l[k], List.getElem?_eq_getElem hlt⟩
      have HX := hid (HOK.out x (List.mem_of_getElem? hx))
      obtain ⟨b, off, hAA, hbs, hcc⟩ := (hR.below hS.bel).at_ 6 enOp_len (by omega) hx
      obtain ⟨xo, xi, xc, xp, xf, xA, xcap, xls⟩ := x
      have q0 : wr.cell? ⟨b, off + k * 6, none⟩ = some (.bool xo) := hcc 0 _ rfl
      have q1 : wr.cell? ⟨b, off + k * 6 + 1, none⟩ = some (.int .i64 xi) := hcc 1 _ rfl
      have q2 : wr.cell? ⟨b, off + k * 6 + 2, none⟩ = some (.int .i64 xc) := hcc 2 _ rfl
      have q3 : wr.cell? ⟨b, off + k * 6 + 3, none⟩ = some (.int .i64 xp) := hcc 3 _ rfl
      have q4 : wr.cell? ⟨b, off + k * 6 + 4, none⟩ = some (.string xf) := hcc 4 _ rfl
      have q5 : wr.cell? ⟨b, off + k * 6 + 5, none⟩ = some (.slice xA xls.length xcap) := hcc 5 _ rfl
      have hwb : Below wr.heap.size wr (wr.alloc (.cells #[.bool xo, .int .i64 xi, .int .i64 xc, .int .i64 xp, .string xf, .slice xA xls.length xcap] 28)) := (Below.refl _ _).alloc (Nat.le_refl _) _
      have hP : Pl w n0 X BP BO wr.heap.size ⟨xo, xi, xc, xp, xf, xA, xcap, xls⟩ pr os (wr.alloc (.cells #[.bool xo, .int .i64 xi, .int .i64 xc, .int .i64 xp, .string xf, .slice xA xls.length xcap] 28)) := ⟨hS.next hwb, Blk.new _ _ _⟩
      obtain ⟨wz, hwz⟩ : ∃ wz, wz = wr.alloc (.cells #[.bool xo, .int .i64 xi, .int .i64 xc, .int .i64 xp, .string xf, .slice xA xls.length xcap] 28) := ⟨_, rfl⟩
      obtain ⟨G, hG⟩ : ∃ G, G = wr.heap.size := ⟨_, rfl⟩
      have HW := hid hwz
      have HG := hid hG
      rw [← hwz, ← hG] at hP
      clear hcc hx hwb hS hwz hG hbs
      subst hAA
      obtain ⟨p0, p1, p2, p3, p4, p5, lG⟩ := hP.cells
      simp only at p0 p1 p2 p3 p4 p5
      cases xo with
      | false =>
        have K := hid (hP.item xi xp)
        clear hP
        go_wp2_with fail
        rw [← HW.out, ← HG.out]
        go_wp2_with fail
        refine K.out.mono ?_
        rintro e w5 ⟨z, pr', rfl, hP⟩
        clear K p0 p1 p2 p3 p4 p5 lG q0 q1 q2 q3 q4 q5
        go_wp2_with fail
        go_roundw
        case rel => exact ⟨k + 1, pr', os, by omega, by go_num, hP.st⟩
        case measure => simp [nOf]; omega
      | true =>
        obtain ⟨m, hm⟩ : ∃ m, m = os.length := ⟨_, rfl⟩
        have hm6 : m ≤ 256 := by rw [hm]; exact hP.st.fewO
        have K1 := hid (hP.all hm)
        have HM := hid hm
        clear hP hm
        go_wp2_with fail
        rw [← HW.out, ← HG.out]
        go_wp2_with fail
        refine K1.out.mono ?_
        rintro e w5 ⟨A5, cp5, rfl, hP⟩
        clear K1 p0 p1 p2 p3 p4 p5 lG q0 q1 q2 q3 q4 q5
        obtain ⟨p0, p1, p2, p3, p4, p5, lG⟩ := hP.cells
        simp only at p0 p1 p2 p3 p4 p5
        have K2 := hid (hP.may HX.out)
        clear hP
        go_wp2_with fail
        refine K2.out.mono ?_
        rintro e w6 ⟨rfl, hP⟩
        clear K2 p0 p1 p2 p3 p4 p5 lG
        have K3 := hid (hP.all HM.out)
        clear hP
        have hmm : ((m : Int) != (m : Int)) = false := by simp
        by_cases hz : errL pr os xi xc xf xls = 0
        · have HZ := hid hz
          simp only [hz]
          clear hz
          go_wp2_with fail
          refine K3.out.mono ?_
          rintro e w7 ⟨A7, cp7, rfl, hP⟩
          clear K3
          obtain ⟨p0, p1, p2, p3, p4, p5, lG⟩ := hP.cells
          simp only at p0 p1 p2 p3 p4 p5
          have K4 := hid (hP.addYes HX.out HZ.out)
          clear hP
          go_wp2_with fail
          refine K4.out.mono ?_
          rintro e w8 ⟨o, rfl, ho, hP⟩
          clear K4 p0 p1 p2 p3 p4 p5 lG
          have hZ := errL_zero HZ.out
          have H71 := hid (show errL pr (mset os xi o) xi xc xf xls = 71 from errL_there hZ.1 hZ.2.1 (by rw [mget_mset, if_pos rfl]; rfl))
          have HSM := hid (show (mget (mset os xi o) xi).isSome = true from by rw [mget_mset, if_pos rfl]; rfl)
          have HLN := hid (show m + 1 = (mset os xi o).length from by rw [mset_new hZ.2.2, List.length_append, HM.out]; rfl)
          clear hZ ho
          generalize mset os xi o = os8 at hP H71 HSM HLN
          obtain ⟨p0, p1, p2, p3, p4, p5, lG⟩ := hP.cells
          simp only at p0 p1 p2 p3 p4 p5
          have K5 := hP.get xi
          rw [HSM.out] at K5
          replace K5 := hid K5
          clear hP
          go_wp2_with fail
          refine K5.out.mono ?_
          rintro e w9 ⟨gi, gc, gf, gA, gn, gcap, gnet, gtax, rfl, hP⟩
          clear K5 p0 p1 p2 p3 p4 p5 lG
          replace hP := hP.next ((Below.refl _ _).alloc (Nat.le_refl _) (.cells #[.int .i64 gi, .int .i64 gc, .string gf, .slice gA gn gcap, .int .i64 gnet, .int .i64 gtax] 35))
          have K6 := hid (hP.all HLN.out)
          clear hP
          have hm1 : (((m : Int) + 1) != ((m : Int) + 1)) = false := by simp
          go_wp2_with fail
          refine K6.out.mono ?_
          rintro e w10 ⟨A10, cp10, rfl, hP⟩
          clear K6
          obtain ⟨p0, p1, p2, p3, p4, p5, lG⟩ := hP.cells
          simp only at p0 p1 p2 p3 p4 p5
          have K7 := hP.may HX.out
          simp only at K7
          rw [H71.out] at K7
          replace K7 := hid K7
          clear hP
          go_wp2_with fail
          refine K7.out.mono ?_
          rintro e w11 ⟨rfl, hP⟩
          clear K7 p0 p1 p2 p3 p4 p5 lG
          have HP := hid hP
          clear hP
          go_wp2_with fail
          go_roundw
          case rel => exact ⟨k + 1, pr, os8, by omega, by go_num, HP.out.st⟩
          case measure => simp [nOf]; omega
        · have HZ := hid hz
          have K4 := hid (fun w' (hP : Pl w n0 X BP BO G ⟨true, xi, xc, xp, xf, xA, xcap, xls⟩ pr os w') => hP.addNo HX.out HZ.out)
          have z1 : (errL pr os xi xc xf xls != 0) = true := by simpa using hz
          have z2 : (errL pr os xi xc xf xls == 0) = false := by simpa using hz
          have z3 : (errL pr os xi xc xf xls != errL pr os xi xc xf xls) = false := by simp
          simp only at K4
          clear hz
          generalize errL pr os xi xc xf xls = z at K4 z1 z2 z3 ⊢
          go_wp2_with fail
          refine K3.out.mono ?_
          rintro e w7 ⟨A7, cp7, rfl, hP⟩
          clear K3
          obtain ⟨p0, p1, p2, p3, p4, p5, lG⟩ := hP.cells
          simp only at p0 p1 p2 p3 p4 p5
          have K4' := hid (K4.out _ hP)
          clear hP K4
          go_wp2_with fail
          refine K4'.out.mono ?_
          rintro e w8 ⟨rfl, hP⟩
          clear K4' p0 p1 p2 p3 p4 p5 lG
          obtain ⟨p0, p1, p2, p3, p4, p5, lG⟩ := hP.cells
          simp only at p0 p1 p2 p3 p4 p5
          have K5 := hid (hP.get xi)
          clear hP
          go_wp2_with fail
          refine K5.out.mono ?_
          rintro e w9 ⟨gi, gc, gf, gA, gn, gcap, gnet, gtax, rfl, hP⟩
          clear K5 p0 p1 p2 p3 p4 p5 lG
          replace hP := hP.next ((Below.refl _ _).alloc (Nat.le_refl _) (.cells #[.int .i64 gi, .int .i64 gc, .string gf, .slice gA gn gcap, .int .i64 gnet, .int .i64 gtax] 35))
          have K6 := hid (hP.all HM.out)
          clear hP
          go_wp2_with fail
          refine K6.out.mono ?_
          rintro e w10 ⟨A10, cp10, rfl, hP⟩
          clear K6
          have HP := hid hP
          clear hP
          go_wp2_with fail
          go_roundw
          case rel => exact ⟨k + 1, pr, os, by omega, by go_num, HP.out.st⟩
          case measure => simp [nOf]; omega
    · clear hk
      have hb := hid hS.bel
      clear hS
      go_wp2_with fail
      go_ret
      exact ⟨by simp, hb.out⟩

end Go.Proofs.Ytdgoifnhlpjnpaa
