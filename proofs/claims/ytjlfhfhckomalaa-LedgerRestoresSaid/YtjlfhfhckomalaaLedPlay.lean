/-
  The ledger's laws: play, and the walk of LedgerPlays.
-/
import Derived.Test.YtjlfhfhckomalaaLedState
namespace Go.Proofs.Ytjlfhfhckomalaa
open Go.RowKit Go.WideShapes Go.ChangeShapes Go.ChangeAt Go.Deep
set_option linter.unusedVariables false

/-- Both ledgers, and the posting at hand. -/
structure Pl (w0 : World) (X B R G : Nat) (x : Po) (f : Fn) (d : Int) (f2 : Fn) (d2 : Int) (w : World) : Prop where
  led : IsLed w X B f d
  ref : IsRef w R f2 d2
  blk : Blk w G 28 #[.int .i64 x.c, .slice x.A x.es.length x.cap]
  bel : Below w0.heap.size w0 w
theorem Pl.next {w0 w w' : World} {X B R G : Nat} {x : Po} {f f2 : Fn} {d d2 : Int} (h : Pl w0 X B R G x f d f2 d2 w) (hb : Below w.heap.size w w') : Pl w0 X B R G x f d f2 d2 w' := ⟨h.led.next hb, h.ref.next hb, h.blk.next hb, bthen h.bel hb⟩
theorem Pl.cells {w0 w : World} {X B R G : Nat} {x : Po} {f f2 : Fn} {d d2 : Int} (h : Pl w0 X B R G x f d f2 d2 w) : w.cell? ⟨G, 0, none⟩ = some (.int .i64 x.c) ∧ w.cell? ⟨G, 1, none⟩ = some (.slice x.A x.es.length x.cap) := ⟨h.blk.cell 0, h.blk.cell 1⟩

/-- What play leaves. -/
def PlayE (w0 : World) (X B R : Nat) (e : Ending) (w' : World) : Prop := e = .returned (.bool true) ∧ Below w0.heap.size w0 w' ∧ ∃ f d, IsLed w' X B f d ∧ IsRef w' R f d

set_option maxRecDepth 100000 in
set_option maxHeartbeats 16000000 in
theorem lplay_any (hS : SortsL) (w0 : World) (l : List Po) (A : Option Addr) (cp : Nat) (hR : Rd w0 A (l.flatMap enPo)) (hok : ∀ p ∈ l, OkPo w0 p) (hl : l.length * 32 ≤ 140737488351232) {X B R : Nat} {f : Fn} {d : Int} (w : World) (h : IsLed w X B f d) (hr : IsRef w R f d) (hb : Below w0.heap.size w0 w)
    (hX : w0.heap.size ≤ X) (hB : w0.heap.size ≤ B) (hRR : w0.heap.size ≤ R) :
    Calls Try.prog 13 #[.pointer (some ⟨X, 0, none⟩), .pointer (some ⟨R, 0, none⟩), .slice A l.length cp] w (PlayE w0 X B R) := by
  have hRX : R ≠ X := by
    rintro rfl
    exact absurd rfl (Blk.ne_ hr h.blk (by decide))
  have hRB : R ≠ B := fun e => (h.map.choose_spec.1).notBlk hr e.symm
  have HOK := hid hok
  clear hok
  go_enter Try.func13, Try.ntmps13
  go_wp2_with fail
  go_loopw [11] (fun i wr => ∃ (k : Nat) (f : Fn) (d : Int), k ≤ l.length ∧ i = .int .i64 k ∧ IsLed wr X B f d ∧ IsRef wr R f d ∧ Below w0.heap.size w0 wr) (fun i _ => l.length - (intOf i).toNat)
  case atStart => exact ⟨0, f, d, Nat.zero_le _, rfl, h, hr, hb⟩
  case round =>
    clear h hr hb
    obtain ⟨k, f, d, hk, rfl, h, hr, hb⟩ := hrel
    by_cases hlt : k < l.length
    · obtain ⟨x, hx⟩ : ∃ x, l[k]? = some x := ⟨l[k], List.getElem?_eq_getElem hlt⟩
      have hR1 := hR.below hb
      obtain ⟨b, off, rfl, hbs, hcc⟩ := hR1.at_ 2 enPo_len (by omega) hx
      have hOK0 := HOK.out x (List.mem_of_getElem? hx)
      have q0 : wr.cell? ⟨b, off + k * 2, none⟩ = some (.int .i64 x.c) := hcc 0 _ rfl
      have q1 : wr.cell? ⟨b, off + k * 2 + 1, none⟩ = some (.slice x.A x.es.length x.cap) := hcc 1 _ rfl
      have hwb : Below wr.heap.size wr (wr.alloc (.cells #[.int .i64 x.c, .slice x.A x.es.length x.cap] 28)).drew := ((Below.refl _ _).alloc (Nat.le_refl _) _).drew
      have hP0 : Pl w0 X B R wr.heap.size x f d f d (wr.alloc (.cells #[.int .i64 x.c, .slice x.A x.es.length x.cap] 28)).drew := ⟨h.next hwb, hr.next hwb, Blk.new _ _ _, bthen hb hwb⟩
      have hGX : wr.heap.size ≠ X := by have := h.blk.lt; omega
      have hGB : wr.heap.size ≠ B := by have := (h.map.choose_spec.1).lt; omega
      have hGR : wr.heap.size ≠ R := by have := Blk.lt hr; omega
      have P1 := hid (fun w6 (hp : Pl w0 X B R wr.heap.size x f d f d w6) => lpost_any x.c x.es x.A x.cap w6 hp.led (hOK0.next hp.bel).rd (by have := hOK0.len; omega) (hOK0.far hX hB))
      have P2 := hid (fun w6 f2 d2 (hp : Pl w0 X B R wr.heap.size x f2 d2 f d w6) => lref_any x.es x.A x.cap w6 (hOK0.next hp.bel).rd hOK0.len)
      have P3 := hid (fun w6 f2 d2 A6 c6 (hp : Pl w0 X B R wr.heap.size x f2 d2 f d w6) (hR6 : Rd w6 A6 (x.es.flatMap enE)) (hA6 : ∀ b, A6.map (·.block) = some b → b ≠ R) => rpost_any x.c x.es A6 c6 w6 hp.ref h.inv hR6 (by have := hOK0.len; omega) hA6)
      have hself : ∀ r : Int, (r != r) = false := fun r => by simp
      have hself1 := hself (postC d x.c x.es)
      have HP0 := hid hP0
      clear hcc hx hR1 hwb hOK0 h hr hb hP0 hself
      obtain ⟨G, hG⟩ : ∃ G, G = wr.heap.size := ⟨_, rfl⟩
      rw [← hG] at HP0 P1 P2 P3 hGX hGB hGR
      go_wp2_with fail
      rw [← hG]
      replace HP0 := HP0.out
      clear hG q0 q1
      generalize hrr : postC d x.c x.es = r at *
      have HRR := hid hrr
      clear hrr
      go_region_held3 (fun w' => w'.cell? ⟨G, 0, none⟩ = some (.int .i64 x.c) ∧ w'.cell? ⟨G, 1, none⟩ = some (.slice x.A x.es.length x.cap))
        (exact Pl.cells (by assumption))
        (first
          | (go_at_call 11; refine (P1.out _ HP0).mono ?_; rintro e w6 ⟨rfl, h6, ht6⟩; have hP6 : Pl w0 X B R G x (nextF f d x.c x.es) (nextD d x.c x.es) f d w6 := ⟨h6, HP0.ref.touch ht6 (fun h => h.elim hRX hRB), ht6.blk HP0.blk (fun h => h.elim hGX hGB), touch_below HP0.bel ht6 hX hB⟩; rw [HRR.out]; clear h6 ht6 HP0 P1)
          | (go_at_call 25; refine (P2.out _ _ _ hP6).mono ?_; rintro e w7 ⟨A7, c7, rfl, hO7, hb7⟩; have hP7 := hP6.next hb7; have hR7 := own_rd hO7; have hA7 : Hid (∀ b, A7.map (·.block) = some b → b ≠ R) := hid (fun b hb2 e => by { have h1 := (own_blk hO7 b hb2).1; have h2 := Blk.lt hP6.ref; omega }); clear hO7 hb7 hP6 P2)
          | (go_at_call 24; refine (P3.out _ _ _ _ _ hP7 hR7 hA7.out).mono ?_; rintro e w8 ⟨rfl, h8, ht8⟩; have hP8 : Pl w0 X B R G x (nextF f d x.c x.es) (nextD d x.c x.es) (nextF f d x.c x.es) (nextD d x.c x.es) w8 := ⟨hP7.led.touch ht8 (fun e => hRX e.symm) (fun e => hRB e.symm), h8, ht8.blk hP7.blk hGR, hP7.bel.trans (ht8.below hP7.bel.size (fun k hk => by rw [hk]; exact hRR))⟩; rw [HRR.out]; clear h8 ht8 hP7 hR7 hA7 P3)
          | (go_at_call 15; refine (lstate_any hS _ hP8.led hP8.ref).mono ?_; rintro e w9 ⟨rfl, hb9⟩; have hP9 := hP8.next hb9; clear hb9 hP8))
      all_goals
        go_wp2_with fail
        go_roundw
        case rel => exact ⟨k + 1, _, _, by omega, by go_num, hP9.led, hP9.ref, hP9.bel⟩
        case measure => simp [intOf]; omega
    · clear hk
      go_wp2_with fail
      go_ret
      exact ⟨rfl, hb, f, d, h, hr⟩

set_option maxRecDepth 100000 in
set_option maxHeartbeats 8000000 in
theorem ledgerPlays_walk (hS : SortsL) (l : List Po) (A : Option Addr) (cp : Nat) (w : World) (hR : Rd w A (l.flatMap enPo)) (hok : ∀ p ∈ l, OkPo w p) (hl : l.length * 32 ≤ 140737488351232) :
    Calls Try.prog 4 #[.slice A l.length cp] w (Law w) := by
  go_enter Try.func4, Try.ntmps4
  go_wp2_with fail
  refine (wakes_any hS _).mono ?_
  rintro e w1 ⟨rfl, hb⟩
  go_wp2_with fail
  refine (lnew_any _).mono ?_
  rintro e w2 ⟨X, B, rfl, hB, hX, h, hb1⟩
  have hb2 := bthen hb hb1
  have hwb : Below w2.heap.size w2 (w2.alloc (.cells (cellsR f0 0) 42)) := (Below.refl _ _).alloc (Nat.le_refl _) _
  have s1 := hb.size
  have s2 := hb2.size
  have PL := hid (lplay_any hS w l A cp hR hok hl _ (h.next hwb) (Blk.new w2 42 (cellsR f0 0)) (bthen hb2 hwb) (by omega) (by omega) s2)
  have hz := zero_ref
  clear hwb h hb hb1 hb2 hB hX hR hok s1 s2
  go_wp2_with fail
  refine PL.out.mono ?_
  rintro e w3 ⟨rfl, hb3, _⟩
  clear PL hz
  go_wp2_with fail
  go_ret
  exact ⟨by simp, hb3⟩

end Go.Proofs.Ytjlfhfhckomalaa
