/-
  The walk of CashBack.
-/
import Derived.Test.YthdmbbfppgenlaaChW
namespace Go.Proofs.Ythdmbbfppgenlaa
open Go.RowKit Go.WideShapes Go.ChangeShapes Go.ChangeAt Go.Deep
set_option linter.unusedVariables false

def nOfB (v : Value) : Nat := match v with | .int _ n => n.toNat | _ => 0

set_option maxRecDepth 100000 in
set_option maxHeartbeats 16000000 in
theorem cashBack_walk (hS : SortsL) (nt tx : Int) (l : List Int) (A : Option Addr) (cp : Nat) (w : World) (hn : I64 nt) (ht : I64 tx) (hR : Rd w A (l.flatMap en1)) (okL : ∀ x ∈ l, I64 x) (hl : l.length * 8 ≤ 140737488351232) (hc : l.length ≤ cp) (hm : cp ≤ maxLen) :
    Calls Try.prog 5 #[.int .i64 nt, .int .i64 tx, .slice A l.length cp] w (Law w) := by
  have hbn := I64.bd hn
  have hbt := I64.bd ht
  unfold maxLen at hm
  go_enter Try.func5, Try.ntmps5
  go_wp2_with fail
  refine (wakes_any hS _).mono ?_
  rintro e w1 ⟨rfl, hb1⟩
  go_wp2_with fail
  refine (WC.new w w1 hb1).mono ?_
  rintro e w2 ⟨X, XL, BL, BA, rfl, h⟩
  obtain ⟨n0, hn0⟩ : ∃ n0, n0 = w1.heap.size := ⟨_, rfl⟩
  rw [← hn0] at h
  clear hn0 hb1
  have H := hid h
  clear h
  go_upto_region 4 with fail
  go_cut [] (fun wx => ∃ (net tax : Int) (ac : List (Int × CP)), Hid (0 ≤ net ∧ net ≤ 1000000 ∧ 0 ≤ tax ∧ tax ≤ 1000000) ∧ WC w n0 X XL BL BA ac (dB net tax 0) wx ∧ cfind ac = F1 (paidA net tax 0))
  case first =>
    clear hR okL hl hc hm
    have K : Hid (∀ net tax : Int, 0 ≤ net → net ≤ 1000000 → 0 ≤ tax → tax ≤ 1000000 → Calls Try.prog 10 #[.pointer (some ⟨X, 0, none⟩), .int .i64 1, .int .i64 1, .int .i64 net, .int .i64 tax] w2 fun e w' => (∃ b, e = .returned (.tuple #[.bool b, .int .i64 0])) ∧ ∃ ac, WC w n0 X XL BL BA ac (dB net tax 0) w' ∧ cfind ac = F1 (paidA net tax 0)) := hid (fun net tax h1 h2 h3 h4 => (H.out.invoice (F := cfind []) rfl 1 1 net tax (inv_pre acOf_new ⟨⟨h1, h2⟩, ⟨h3, h4⟩, by omega, by omega⟩)).mono fun e w' ⟨g1, ac, g2, g3⟩ => ⟨⟨_, g1⟩, ac, g2, g3⟩)
    clear H
    go_wp2_with fail
    all_goals
      refine (K.out _ _ (by omega) (by omega) (by omega) (by omega)).mono ?_
      rintro e w3 ⟨⟨b, rfl⟩, ac, h, hF⟩
      go_wp2_with fail
      go_meet
      refine ⟨_, _, ac, ?_, h, hF⟩
      refine hid ⟨?_, ?_, ?_, ?_⟩ <;> omega
  case rest =>
    obtain ⟨net, tax, ac, HB, h, hF⟩ := hcut
    clear H hbn hbt hn ht
    have H := hid (And.intro h hF)
    clear h hF
    go_upto_region 6 with fail
    go_cut [29, 30, 31] (fun s n i wx => ∃ N : Nat, N ≤ l.length ∧ N ≤ 50 ∧ s = .slice A N cp ∧ n = .int .i64 N ∧ i = .int .i64 0 ∧ wx = wc)
    case first =>
      by_cases h5 : l.length ≤ 50
      · have hmin : min (l.length : Int) 50 = (l.length : Int) := by omega
        go_wp2_with fail
        all_goals (go_meet; exact ⟨l.length, Nat.le_refl _, h5, rfl, rfl, rfl, rfl⟩)
      · have hmin : min (l.length : Int) 50 = 50 := by omega
        go_wp2_with fail
        all_goals (go_meet; exact ⟨50, by omega, by omega, rfl, rfl, rfl, rfl⟩)
    case rest wc2 =>
      obtain ⟨N, hN, hN50, rfl, rfl, rfl, hwx⟩ := hcut
      rw [hwx]
      clear hwx hc hm
      go_wp2_with fail
      go_loopw [8, 31] (fun s i wr => ∃ (k : Nat) (sm : Int) (ac : List (Int × CP)), k ≤ N ∧ i = .int .i64 k ∧ s = .int .i64 sm ∧ 0 ≤ sm ∧ sm ≤ 1000000 * (k : Int) ∧ WC w n0 X XL BL BA ac (dB net tax sm) wr ∧ cfind ac = F1 (paidA net tax sm)) (fun _ i _ => N - nOfB i)
      case atStart => exact ⟨0, 0, ac, Nat.zero_le _, rfl, rfl, by omega, by omega, H.out.1, H.out.2⟩
      case round =>
        clear H
        obtain ⟨k, sm, ac, hk, rfl, rfl, hs0, hs1, h, hF⟩ := hrel
        by_cases hlt : k < N
        · obtain ⟨x, hx⟩ : ∃ x, l[k]? = some x := ⟨l[k], List.getElem?_eq_getElem (by omega)⟩
          have hbx := I64.bd (okL x (List.mem_of_getElem? hx))
          obtain ⟨b, off, rfl, hbs, hcc⟩ := (hR.below h.bel).at_ 1 en1_len (by omega) hx
          have q0 := hcc 0 _ rfl
          simp only [Nat.add_zero, Nat.mul_one] at q0
          have HS := hid (And.intro hs0 hs1)
          have H := hid (And.intro h hF)
          clear hcc hx h hF hs0 hs1
          go_upto_region 9 with fail
          clear q0 hbs hR okL
          go_cut [10] (fun v wx => ∃ y : Int, 1 ≤ y ∧ y ≤ 1000000 ∧ v = .int .i64 y ∧ wx = wr)
          case first =>
            go_wp2_with fail
            all_goals (go_meet; exact ⟨_, by omega, by omega, rfl, rfl⟩)
          case rest =>
            obtain ⟨y, hy0, hy1, rfl, hwx⟩ := hcut
            rw [hwx]
            clear hwx hbx
            have K := hid (H.out.1.receive H.out.2 1 1 y (by unfold I64; simp [Lit.wf, IntKind.min, IntKind.max, IntKind.signed, IntKind.bits]; omega) (rcv_paid ⟨⟨HB.out.1, HB.out.2.1⟩, ⟨HB.out.2.2.1, HB.out.2.2.2⟩, HS.out.1, by have := HS.out.2; omega⟩ ⟨hy0, hy1⟩))
            have wsm : IntKind.i64.wrap (sm + y) = sm + y := IntWalk.i64_in _ ⟨by have := HS.out.1; omega, by have := HS.out.2; omega⟩
            clear H
            go_wp2_with fail
            refine K.out.mono ?_
            rintro e w5 ⟨rfl, ac5, h, hF⟩
            clear K
            rw [upd_one] at hF
            have H5 := hid (And.intro h hF)
            clear h hF
            go_wp2_with fail
            go_roundw
            case rel => exact ⟨k + 1, sm + y, ac5, by omega, by go_num, rfl, by have := HS.out.1; omega, by have := HS.out.2; omega, H5.out.1, H5.out.2⟩
            case measure => simp [nOfB]; omega
        · have hSm : Sml net tax sm := ⟨⟨HB.out.1, HB.out.2.1⟩, ⟨HB.out.2.2.1, HB.out.2.2.2⟩, hs0, by omega⟩
          have HSM := hid hSm
          obtain ⟨c, xo, u, hw1, hw2, hu0, hu1⟩ := wof_paid hSm
          have K := hid (h.writeOff hF 1 hw1)
          have HU := hid (And.intro hw2 (And.intro hu0 hu1))
          clear h hF hw1 hw2 hu0 hu1 hs0 hs1 hSm hR okL hl
          go_wp2_with fail
          clear hlt hk
          refine K.out.mono ?_
          rintro e w5 ⟨rfl, ac5, h, hF⟩
          simp only at h hF
          rw [HU.out.1] at hF
          replace K := hid (h.memo hF 1 (mem_paid HSM.out HU.out.2))
          clear h hF
          go_wp2_with fail
          refine K.out.mono ?_
          rintro e w6 ⟨rfl, ac6, h, hF⟩
          simp only at h hF
          rw [upd_one] at hF
          have KO := hid (h.open_ hF 1 (n := 0) rfl)
          have H6 := hid (And.intro h hF)
          clear h hF K
          go_wp2_with fail
          refine KO.out.mono ?_
          rintro e w7 ⟨rfl, hb⟩
          have KR := hid ((H6.out.1.next hb).refund H6.out.2 1 (ref_back HSM.out (by have h1 := HSM.out.n; have h2 := HSM.out.t; have h3 := HSM.out.s; have h4 := HU.out.2; unfold dB; omega)))
          clear KO hb H6
          have tsm : (sm != sm) = false := by simp
          go_wp2_with fail
          refine KR.out.mono ?_
          rintro e w8 ⟨rfl, ac8, h, hF⟩
          simp only at h hF
          rw [upd_one] at hF
          have H8 := hid (And.intro h hF)
          clear h hF KR
          go_wp2_with fail
          obtain ⟨d8, hd8⟩ : ∃ d8, d8 = dB net tax sm + u + (net + tax) + sm := ⟨_, rfl⟩
          have H8 := H8.out
          rw [← hd8] at H8
          clear hd8 tsm
          go_loopw [68] (fun i wr => ∃ k : Nat, k ≤ 6 ∧ i = .int .i64 k ∧ WC w n0 X XL BL BA ac8 d8 wr) (fun i _ => 6 - nOfB i)
          case atStart => exact ⟨0, by omega, rfl, H8.1⟩
          case round =>
            have HF8 := hid H8.2
            clear H8
            obtain ⟨j, hj, rfl, h⟩ := hrel
            by_cases hj6 : j < 6
            · have t1 : decide ((j : Int) < 6) = true := decide_eq_true (by omega)
              have KB := cbal_all hS h.c j
              rw [h.c.one (o := 1) (fun o' => by rw [HF8.out]; rfl), con_back] at KB
              replace KB := hid KB
              have H := hid h
              clear h
              go_wp2_with fail
              refine KB.out.mono ?_
              rintro e w9 ⟨rfl, hb⟩
              have h := H.out.next hb
              have KC := cbal_of h.c 1 j (by decide)
              rw [h.c.oneOf (o := 1) (a := backA net tax 0) (fun o' => by rw [HF8.out]; rfl), con_back, show (if (backA net tax 0).c = 1 then (0 : Int) else 0) = 0 from by split <;> rfl] at KC
              replace KC := hid KC
              replace H := hid h
              clear h KB hb
              go_wp2_with fail
              refine KC.out.mono ?_
              rintro e w10 ⟨rfl, hb⟩
              have h10 := hid (H.out.next hb)
              clear KC H hb
              go_wp2_with fail
              go_roundw
              case rel => exact ⟨j + 1, by omega, by go_num, h10.out⟩
              case measure => simp [nOfB]; omega
            · have t1 : decide ((j : Int) < 6) = false := decide_eq_false (by omega)
              have HB := hid h.bel
              clear h
              go_wp2_with fail
              go_ret
              exact ⟨rfl, HB.out⟩

end Go.Proofs.Ythdmbbfppgenlaa
