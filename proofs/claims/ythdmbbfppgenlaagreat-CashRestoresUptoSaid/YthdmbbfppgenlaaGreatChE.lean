/-
  Money of orders: CashRestores (printed by gen_che.py).
-/
import Derived.Test.YthdmbbfppgenlaaGreatChPl
import Derived.Test.YthdmbbfppgenlaaGreatChX
import Derived.Test.YthdmbbfppgenlaaGreatChD
namespace Go.Proofs.YthdmbbfppgenlaaGreat
open Go.RowKit Go.Maps Go.Sort Go.ChangeShapes Go.WideShapes Go.ChangeAt Go.Deep
set_option linter.unusedVariables false

def okC9 (x : Ca) : Prop := True
theorem dec9C (vs : List Value) (hl : vs.length = 9) (h : ∀ j, j < 9 → ∃ (u : Value) (k : SK), vs[j]? = some u ∧ ([SK.int .i64, .int .i64, .int .i64, .int .i64, .int .i64, .int .i64, .int .i64, .int .i64, .int .i64] : List SK)[j]? = some k ∧ k.ok u) : ∃ x : Ca, vs = enC9 x ∧ okC9 x := by
  match vs, hl with
  | [a, b, c, d, e, f, g, h', i], _ =>
    obtain ⟨u0, k0, a0, b0, c0⟩ := h 0 (by omega)
    obtain ⟨u1, k1, a1, b1, c1⟩ := h 1 (by omega)
    obtain ⟨u2, k2, a2, b2, c2⟩ := h 2 (by omega)
    obtain ⟨u3, k3, a3, b3, c3⟩ := h 3 (by omega)
    obtain ⟨u4, k4, a4, b4, c4⟩ := h 4 (by omega)
    obtain ⟨u5, k5, a5, b5, c5⟩ := h 5 (by omega)
    obtain ⟨u6, k6, a6, b6, c6⟩ := h 6 (by omega)
    obtain ⟨u7, k7, a7, b7, c7⟩ := h 7 (by omega)
    obtain ⟨u8, k8, a8, b8, c8⟩ := h 8 (by omega)
    simp at a0 b0 a1 b1 a2 b2 a3 b3 a4 b4 a5 b5 a6 b6 a7 b7 a8 b8
    subst a0 b0 a1 b1 a2 b2 a3 b3 a4 b4 a5 b5 a6 b6 a7 b7 a8 b8
    obtain ⟨n0, rfl, g0⟩ := c0
    obtain ⟨n1, rfl, g1⟩ := c1
    obtain ⟨n2, rfl, g2⟩ := c2
    obtain ⟨n3, rfl, g3⟩ := c3
    obtain ⟨n4, rfl, g4⟩ := c4
    obtain ⟨n5, rfl, g5⟩ := c5
    obtain ⟨n6, rfl, g6⟩ := c6
    obtain ⟨n7, rfl, g7⟩ := c7
    obtain ⟨n8, rfl, g8⟩ := c8
    exact ⟨⟨n0, n1, n2, n3, n4, n5, n6, n7, n8⟩, rfl, trivial⟩

set_option maxRecDepth 100000 in
set_option maxHeartbeats 64000000 in
theorem cashRestores_walk (hS : SortsL) (hSR : SortsR) (t : Int) (l : List Ca) (A1 : Option Addr) (c1 : Nat) (os : List Op18) (Ao : Option Addr) (cp : Nat) (w0 : World) (hR1 : Rd w0 A1 (l.flatMap enC9)) (hR0 : Rd w0 Ao (os.flatMap en18)) (hok : ∀ x ∈ os, ok18 x) (hl1 : l.length ≤ 1048576) (hl : os.length ≤ 1048576) :
    Calls Tryz.prog 3 #[.int .i64 t, .slice A1 l.length c1, .slice Ao os.length cp] w0 (Law w0) := by
  obtain ⟨i0, hi, hz0, hz1, hz2⟩ := info_parts info_rc
  have HSS := hid hS
  have HSR := hid hSR
  have HOK := hid hok
  clear hS hSR hok
  go_enter Tryz.func3, Tryz.ntmps3
  go_wp2_with fail
  refine (cnil_inv 1 1 1 1 _).mono ?_
  rintro e w' ⟨rfl, rfl⟩
  go_wp2_with fail
  refine (cnil_rcv 1 1 1 _).mono ?_
  rintro e w' ⟨rfl, rfl⟩
  go_wp2_with fail
  refine (cnil_ref 1 _).mono ?_
  rintro e w' ⟨rfl, rfl⟩
  go_wp2_with fail
  refine (cnil_dun 1 _).mono ?_
  rintro e w' ⟨rfl, rfl⟩
  go_wp2_with fail
  refine (cnil_get 1 _).mono ?_
  rintro e w1 ⟨rfl, hb1⟩
  have hbz := hb1.alloc hb1.size (.cells #[.int .i64 0, .int .i64 0, .int .i64 0, .int .i64 0, .int .i64 0, .int .i64 0, .int .i64 0, .int .i64 0, .int .i64 0] 35)
  go_upto_region 7 with fail
  generalize w1.alloc (.cells #[.int .i64 0, .int .i64 0, .int .i64 0, .int .i64 0, .int .i64 0, .int .i64 0, .int .i64 0, .int .i64 0, .int .i64 0] 35) = wz at hbz ⊢
  generalize w1.heap.size = Gz
  have HBZ := hid hbz
  clear hbz hb1
  go_wp2_with fail
  refine (wakes_any HSS.out _).mono ?_
  rintro e w2 ⟨rfl, hb2⟩
  have HB2 := hid (bthen HBZ.out hb2)
  clear hb2 HBZ
  go_wp2_with fail
  refine (cnil_wof 1 _).mono ?_
  rintro e w' ⟨rfl, rfl⟩
  go_wp2_with fail
  refine (cnil_mem 1 _).mono ?_
  rintro e w' ⟨rfl, rfl⟩
  go_wp2_with fail
  refine (cnil_open 1 _).mono ?_
  rintro e w' ⟨rfl, rfl⟩
  go_wp2_with fail
  refine (cnil_all _).mono ?_
  rintro e w' ⟨rfl, rfl⟩
  go_wp2_with fail
  refine (cnil_bal 0 0 _).mono ?_
  rintro e w' ⟨rfl, rfl⟩
  go_wp2_with fail
  refine (cnil_turn _).mono ?_
  rintro e w' ⟨rfl, rfl⟩
  go_wp2_with fail
  go_loopw [18, 107] (fun v i wr => ∃ k : Nat, k ≤ l.length ∧ i = .int .i64 k ∧ wr.ownsRow w2.heap.size 47 9 v k ((l.take k).flatMap enC9) ∧ Below w2.heap.size w2 wr) (fun _ i _ => l.length - nOf i)
  case atStart => exact ⟨0, Nat.zero_le _, rfl, World.ownsRow_nil _ _ _ _, Below.refl _ _⟩
  case round =>
    obtain ⟨k, hk, rfl, hO, hb⟩ := hrel
    by_cases hlt : k < l.length
    · skip
      obtain ⟨y, hy⟩ : ∃ y, l[k]? = some y := ⟨l[k], List.getElem?_eq_getElem hlt⟩
      obtain ⟨b, o, rfl, _, hcc⟩ := (hR1.below (bthen HB2.out hb)).at_ 9 enC9_len (by omega) hy
      have HTK := hid (takeE_snoc hy)
      obtain ⟨yo, yc, yst, ylv, ynet, ytax, yap, ywr, ydep⟩ := y
      have q0 : wr.cell? ⟨b, o + k * 9, none⟩ = some (.int .i64 yo) := hcc 0 _ rfl
      have q1 : wr.cell? ⟨b, o + k * 9 + 1, none⟩ = some (.int .i64 yc) := hcc 1 _ rfl
      have q2 : wr.cell? ⟨b, o + k * 9 + 2, none⟩ = some (.int .i64 yst) := hcc 2 _ rfl
      have q3 : wr.cell? ⟨b, o + k * 9 + 3, none⟩ = some (.int .i64 ylv) := hcc 3 _ rfl
      have q4 : wr.cell? ⟨b, o + k * 9 + 4, none⟩ = some (.int .i64 ynet) := hcc 4 _ rfl
      have q5 : wr.cell? ⟨b, o + k * 9 + 5, none⟩ = some (.int .i64 ytax) := hcc 5 _ rfl
      have q6 : wr.cell? ⟨b, o + k * 9 + 6, none⟩ = some (.int .i64 yap) := hcc 6 _ rfl
      have q7 : wr.cell? ⟨b, o + k * 9 + 7, none⟩ = some (.int .i64 ywr) := hcc 7 _ rfl
      have q8 : wr.cell? ⟨b, o + k * 9 + 8, none⟩ = some (.int .i64 ydep) := hcc 8 _ rfl
      have hwa : Below wr.heap.size wr (wr.alloc (.cells #[.int .i64 yo, .int .i64 yc, .int .i64 yst, .int .i64 ylv, .int .i64 ynet, .int .i64 ytax, .int .i64 yap, .int .i64 ywr, .int .i64 ydep] 35)) := (Below.refl _ _).alloc (Nat.le_refl _) _
      have HZ := hid (And.intro (hO.alloc (.cells #[.int .i64 yo, .int .i64 yc, .int .i64 yst, .int .i64 ylv, .int .i64 ynet, .int .i64 ytax, .int .i64 yap, .int .i64 ywr, .int .i64 ydep] 35)) (And.intro (bthen hb hwa) (Blk.new wr 35 #[.int .i64 yo, .int .i64 yc, .int .i64 yst, .int .i64 ylv, .int .i64 ynet, .int .i64 ytax, .int .i64 yap, .int .i64 ywr, .int .i64 ydep])))
      clear hcc hy hwa hO hb
      go_upto_region 13 with fail
      clear q0 q1 q2 q3 q4 q5 q6 q7 q8
      obtain ⟨wz, hwz⟩ : ∃ wz, wz = wr.alloc (.cells #[.int .i64 yo, .int .i64 yc, .int .i64 yst, .int .i64 ylv, .int .i64 ynet, .int .i64 ytax, .int .i64 yap, .int .i64 ywr, .int .i64 ydep] 35) := ⟨_, rfl⟩
      obtain ⟨G, hG⟩ : ∃ G, G = wr.heap.size := ⟨_, rfl⟩
      rw [← hwz, ← hG] at HZ
      rw [← hwz, ← hG]
      clear hwz hG
      have hB := HZ.out.2.2
      have g0 : wz.cell? ⟨G, 0, none⟩ = some (.int .i64 yo) := hB.cell 0
      have g1 : wz.cell? ⟨G, 1, none⟩ = some (.int .i64 yc) := hB.cell 1
      have g2 : wz.cell? ⟨G, 2, none⟩ = some (.int .i64 yst) := hB.cell 2
      have g3 : wz.cell? ⟨G, 3, none⟩ = some (.int .i64 ylv) := hB.cell 3
      have g4 : wz.cell? ⟨G, 4, none⟩ = some (.int .i64 ynet) := hB.cell 4
      have g5 : wz.cell? ⟨G, 5, none⟩ = some (.int .i64 ytax) := hB.cell 5
      have g6 : wz.cell? ⟨G, 6, none⟩ = some (.int .i64 yap) := hB.cell 6
      have g7 : wz.cell? ⟨G, 7, none⟩ = some (.int .i64 ywr) := hB.cell 7
      have g8 : wz.cell? ⟨G, 8, none⟩ = some (.int .i64 ydep) := hB.cell 8
      have lG := hB.lt
      clear hB
      go_wp2_with fail
      refine (ref_any _ _ _ _ _ _ _ _ _ wz).mono ?_
      rintro e w4 ⟨rfl, hb4⟩
      have HOW := hid (HZ.out.1.kept (grown_of_below hb4 none) (Classical.em _))
      have HB4 := hid (bthen HZ.out.2.1 hb4)
      have hwb : w2.heap.size ≤ w4.heap.size := HB4.out.size
      clear hb4 HZ g0 g1 g2 g3 g4 g5 g6 g7 g8 lG
      go_wp2_with (first
        | (at_builtin; refine wpList_push _ rfl _ _ 45 rfl w2.heap.size 47 i0 _ 9 72 Tryz.underlying45 hi hz0 hz1 hz2 rfl (by decide) _ _ _ (by rfl) HOW.out #[.int .i64 yo, .int .i64 yc, .int .i64 yst, .int .i64 ylv, .int .i64 ynet, .int .i64 ytax, .int .i64 yap, .int .i64 ywr, .int .i64 ydep] w4.heap.size (by simp) (by rfl) (by rfl) (by rfl) (by unfold maxLen; omega) (by omega) hwb ?_; intro v' w5 hO5 hg5))
      have hb5 := (HB4.out.alloc hwb (.cells #[.int .i64 yo, .int .i64 yc, .int .i64 yst, .int .i64 ylv, .int .i64 ynet, .int .i64 ytax, .int .i64 yap, .int .i64 ywr, .int .i64 ydep] 47)).grown hg5 (by simp; omega) (fun kk hkk => (HOW.out.lt kk hkk).1)
      have hO6 : w5.ownsRow w2.heap.size 47 9 v' (k + 1) ((l.take (k + 1)).flatMap enC9) := by rw [HTK.out]; simpa [enC9, celC] using hO5
      have HF := hid (And.intro hO6 hb5)
      clear hO5 hg5 hb5 hO6 HOW HB4 HTK hwb
      go_roundw
      case rel => exact ⟨k + 1, by omega, by go_num, HF.out.1, HF.out.2⟩
      case measure => simp [nOf]; omega
    · have hk' : k = l.length := by omega
      subst hk'
      rw [List.take_length] at hO
      obtain ⟨A9, c9, hv, hRd⟩ := own_slice hO
      subst hv
      have HB3 := hid (bthen HB2.out hb)
      have KC := hid (crest_any HSR.out t l A1 c1 wr (hR1.below HB3.out) (by omega))
      have KD := hid (fun w' (hb' : Below wr.heap.size wr w') => rrest_any t l A9 c9 w' ((own_rd hO).below hb') (by omega))
      clear hO hb hRd hk hlt
      go_wp2_with fail
      refine KC.out.mono ?_
      rintro e w5 ⟨hb5, hh⟩
      replace KD := hid (KD.out _ hb5)
      by_cases hrc : RestC t l
      · obtain ⟨_, X, XL, BL, BA, ac, rfl, hC5, hR5⟩ : RestC t l ∧ ∃ (X XL BL BA : Nat) (ac : List (Int × CP)), e = .returned (.tuple #[.pointer (some ⟨X, 0, none⟩), .int .i64 0]) ∧ IsC wr.heap.size w5 X XL BL BA ac t ∧ RelC (cfind ac) l := by
          rcases hh with h | ⟨h, _⟩
          · exact h
          · exact absurd hrc h
        have HC5 := hid (And.intro hC5 (And.intro hR5 hb5))
        have HRC := hid hrc
        clear hh hC5 hR5 hb5 hrc KC
        go_wp2_with fail
        refine KD.out.mono ?_
        rintro e w6 ⟨hb6, hh⟩
        obtain ⟨_, R, A, cap, rfl, hF6, hlo, hRw⟩ : RestC t l ∧ ∃ (R : Nat) (A : Option Addr) (cap : Nat), e = .returned (.tuple #[.pointer (some ⟨R, 0, none⟩), .int .i64 0]) ∧ IsRf (R + 1) w6 R A cap l t ∧ w5.heap.size ≤ R ∧ R + 1 ≤ w6.heap.size := by
          rcases hh with h | ⟨h, _⟩
          · exact h
          · exact absurd HRC.out h
        have s1 := HB3.out.size
        have s2 := HC5.out.2.2.size
        have hST : St w0 wr.heap.size (R + 1) X XL BL BA R A cap ac l t w6 := ⟨HC5.out.1.next hb6, hF6, HC5.out.2.1, bthen HB3.out (bthen HC5.out.2.2 hb6), hRw, by omega, by omega, by omega⟩
        have hla : ac.length * 72 ≤ 140737488351232 := by rw [← hST.rel.len hST.c.gd hST.c.bk.acs.nodup]; omega
        have KS := hid (state_any HSS.out hST hla)
        have HST := hid hST
        clear hh hF6 hlo hRw hb6 KD HC5 hST hla s1 s2
        go_wp2_with fail
        refine KS.out.mono ?_
        rintro e w7 ⟨rfl, hb7⟩
        have KP := hid (play_any HSS.out os Ao cp hR0 HOK.out (HST.out.next hb7) (by omega))
        clear KS HST hb7
        go_wp2_with fail
        refine KP.out.mono ?_
        rintro e w8 ⟨rfl, ac3, L3, A3, cap3, d3, _, h3⟩
        have HB8 := hid h3.bel
        clear KP h3
        go_wp2_with fail
        go_ret
        exact ⟨by simp, HB8.out⟩
      · obtain rfl : e = .returned (.tuple #[.pointer none, .int .i64 2]) := by
          rcases hh with ⟨h, _⟩ | ⟨_, h⟩
          · exact absurd h hrc
          · exact h
        have HB5 := hid (bthen HB3.out hb5)
        have HRC := hid hrc
        clear hh hb5 hrc KC
        go_wp2_with fail
        refine KD.out.mono ?_
        rintro e w6 ⟨hb6, hh⟩
        obtain rfl : e = .returned (.tuple #[.pointer none, .int .i64 2]) := by
          rcases hh with ⟨h, _⟩ | ⟨_, h⟩
          · exact absurd h HRC.out
          · exact h
        have HB6 := hid (bthen HB5.out hb6)
        clear hh hb6 KD HB5
        go_wp2_with fail
        go_ret
        exact ⟨by simp, HB6.out⟩

end Go.Proofs.YthdmbbfppgenlaaGreat
