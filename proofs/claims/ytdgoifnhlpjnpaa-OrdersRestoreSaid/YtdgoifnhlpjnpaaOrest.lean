/-
  Layer 19: the walk of OrdersRestore.
-/
import Derived.Test.YtdgoifnhlpjnpaaOplay
import Derived.Test.YtdgoifnhlpjnpaaRstR19
import Derived.Test.YtdgoifnhlpjnpaaRst19
import Derived.Test.YtdgoifnhlpjnpaaOnil
import Derived.Deep.AppendLies
namespace Go.Proofs.Ytdgoifnhlpjnpaa
open Go.RowKit Go.WideShapes Go.ChangeShapes Go.ChangeAt Go.Deep
set_option linter.unusedVariables false

/-- An order of the law's own list: its lines lie in a row of the call's own. -/
def LRow (n : Nat) (w : World) (o : OrdA) : Prop := w.ownsRow n 88 2 (.slice o.A o.ls.length o.cap) o.ls.length (o.ls.flatMap enL)
theorem LRow.next {n : Nat} {w w' : World} {o : OrdA} (h : LRow n w o) (hb : Below w.heap.size w w') : LRow n w' o := World.ownsRow.kept h (grown_of_below hb none) (by cases hv : (Value.slice o.A o.ls.length o.cap).ownBlock <;> simp)
theorem enA_one (o : OrdA) : ∀ u ∈ enA o, u.oneCell' = true := by
  intro u hu
  simp only [enA, List.mem_cons, List.not_mem_nil, or_false] at hu
  rcases hu with rfl | rfl | rfl | rfl | rfl | rfl <;> rfl
theorem ownBlk {w : World} {base n : Nat} {e : TypeId} {size : Nat} {v : Value} {xs : List Value} (h : w.ownsRow base e size v n xs) {b : Nat} (hb : v.ownBlock = some b) : ∃ cs, Blk w b e cs := by
  obtain ⟨A, cap, rfl, _⟩ := own_slice h
  exact rowBlk h (by cases A with | none => simp [Value.ownBlock] at hb | some a => simpa [Value.ownBlock] using hb)
theorem goodR_bare {il : List (Int × Int)} {a b : List OrdA} (h : a.map bareA = b.map bareA) (hg : GoodR il a) : GoodR il b := by
  have at_ : ∀ (k : Nat) (o : OrdA), b[k]? = some o → ∃ o', a[k]? = some o' ∧ o'.i = o.i ∧ o'.c = o.c ∧ o'.f = o.f ∧ o'.ls = o.ls ∧ o'.n = o.n ∧ o'.t = o.t := fun k o ho => by
    have h1 := congrArg (fun x => x[k]?) h
    simp only [List.getElem?_map, ho, Option.map_some] at h1
    cases ha : a[k]? with
    | none => rw [ha] at h1; simp at h1
    | some o' =>
      rw [ha] at h1
      simp only [Option.map_some, Option.some.injEq] at h1
      obtain ⟨e1, e2, e3, e4, e5, e6⟩ := bare_parts (show bare (bareA o') = bare (bareA o) from by rw [h1])
      exact ⟨o', rfl, e1, e2, e3, e4, e5, e6⟩
  refine ⟨hg.1, fun k o ho => ?_⟩
  obtain ⟨o', h1, e1, e2, e3, e4, e5, e6⟩ := at_ k o ho
  obtain ⟨g1, g2, g3, g4, g5⟩ := hg.2 k o' h1
  rw [e1, e2, e3, e4] at g2
  rw [e4] at g3
  rw [e5] at g4
  rw [e6] at g5
  refine ⟨fun p h0 hp => ?_, g2, g3, g4, g5⟩
  obtain ⟨p', hp', f1, _⟩ := at_ (k - 1) p hp
  have := g1 p' h0 hp'
  omega

set_option maxRecDepth 100000 in
set_option maxHeartbeats 16000000 in
theorem ordersRestore_walk (il : List (Int × Int)) (A1 : Option Addr) (cp1 : Nat) (ol : List OrdA) (A2 : Option Addr) (cp2 : Nat) (l : List Opn) (A3 : Option Addr) (cp3 : Nat) (w : World) (hR1 : Rd w A1 (il.flatMap en2)) (hR2 : Rd w A2 (ol.flatMap enA)) (hok2 : ∀ o ∈ ol, OkA w o) (hR3 : Rd w A3 (l.flatMap enOp)) (hok3 : ∀ x ∈ l, OkOp w x)
    (hb1 : il.length * 16 ≤ 140737488351232) (hb2 : ol.length * 72 ≤ 140737488351232) (hb3 : l.length * 72 ≤ 140737488351232) :
    Calls Try.prog 8 #[.slice A1 il.length cp1, .slice A2 ol.length cp2, .slice A3 l.length cp3] w (Law w) := by
  obtain ⟨i0, hi, hz0, hz1, hz2⟩ := info_parts info_ri
  obtain ⟨i1, hj, hy0, hy1, hy2⟩ := info_parts info_ro
  have HA := hid (And.intro hok2 hok3)
  clear hok2 hok3
  go_enter Try.func8, Try.ntmps8
  go_wp2_with (first
    | (go_at_call 15; refine (nil_get _ _).mono ?_; rintro e w1 ⟨rfl, hbg⟩)
    | (go_at_call 9; refine (wakes_any _).mono ?_; rintro e w2 ⟨rfl, hbk⟩)
    | (go_at_call 11; refine (nil_item _ _ _).mono ?_; rintro e w3 ⟨rfl, rfl⟩)
    | (go_at_call 14; refine (nil_add _ _ _ _).mono ?_; rintro e w3 ⟨rfl, rfl⟩)
    | (go_at_call 13; refine (nil_may _ _ _ _).mono ?_; rintro e w3 ⟨rfl, rfl⟩)
    | (go_at_call 16; refine (nil_items _).mono ?_; rintro e w3 ⟨rfl, rfl⟩)
    | (go_at_call 12; refine (nil_all _).mono ?_; rintro e w3 ⟨rfl, rfl⟩))
  have hb : Below w.heap.size w w2 := bthen (hbg.alloc hbg.size _) hbk
  clear hbg hbk
  go_loopw [10, 57] (fun v i wr => ∃ k : Nat, k ≤ il.length ∧ i = .int .i64 k ∧ wr.ownsRow w.heap.size 63 2 v k ((il.take k).flatMap en2) ∧ Below w.heap.size w wr) (fun _ i _ => il.length - nOf i)
  case atStart => exact ⟨0, Nat.zero_le _, rfl, World.ownsRow_nil _ _ _ _, hb⟩
  case round =>
    clear hb
    obtain ⟨k, hk, rfl, hO, hb⟩ := hrel
    have hwz : w.heap.size ≤ wr.heap.size := hb.size
    by_cases hlt : k < il.length
    · obtain ⟨x, hx⟩ : ∃ x, il[k]? = some x := ⟨il[k], List.getElem?_eq_getElem hlt⟩
      obtain ⟨b, off, hAA, hbs, hcc⟩ := (hR1.below hb).at_ 2 en2_len (by omega) hx
      have HS : Hid (il.take (k + 1) = il.take k ++ [x]) := hid (by rw [List.take_add_one, hx]; rfl)
      obtain ⟨xi, xl⟩ := x
      have q0 : wr.cell? ⟨b, off + k * 2, none⟩ = some (.int .i64 xi) := hcc 0 _ rfl
      have q1 : wr.cell? ⟨b, off + k * 2 + 1, none⟩ = some (.int .i64 xl) := hcc 1 _ rfl
      have hO3 := hid (hO.alloc (.cells #[.int .i64 xi, .int .i64 xl] 44))
      have hb3' := hid ((hb.alloc hb.size (.cells #[.int .i64 xi, .int .i64 xl] 44)).alloc (by have := hb.size; simp; omega) (.cells #[.int .i64 xi, .int .i64 xl] 63))
      clear hcc hx hO hb
      subst hAA
      go_wp2_with (first
        | (at_builtin; refine wpList_push _ rfl _ _ 55 rfl w.heap.size 63 i0 _ 2 16 Try.underlying55 hi hz0 hz1 hz2 rfl (by decide) _ _ _ (by rfl) hO3.out #[.int .i64 xi, .int .i64 xl] (wr.heap.size + 1) (by simp) (by rfl) (by rfl) (by rfl) (by unfold maxLen; omega) (by omega) (by simp; omega) ?_; intro v' w3 hO4 hg4))
      have hb4 := hb3'.out.grown hg4 (by simp; omega) (fun k hk => (hO3.out.lt k hk).1)
      have hO5 : w3.ownsRow w.heap.size 63 2 v' (k + 1) ((il.take (k + 1)).flatMap en2) := by
        rw [HS.out, List.flatMap_append]
        simpa [en2] using hO4
      clear hO4 hg4 hO3 hb3'
      go_roundw
      case rel => exact ⟨k + 1, by omega, by go_num, hO5, hb4⟩
      case measure => simp [nOf]; omega
    · have hk' : k = il.length := by omega
      subst hk'
      rw [List.take_length] at hO
      obtain ⟨A4, cp4, rfl, hR4⟩ := own_slice hO
      clear hk hlt hO
      go_wp2_with fail
      generalize wr = wA at *
      have HBA := hid hb
      go_loopw [13, 72] (fun v i wr' => ∃ (k : Nat) (L : List OrdA), k ≤ ol.length ∧ i = .int .i64 k ∧ Hid (L.map bareA = (ol.take k).map bareA ∧ L.length = k) ∧ wr'.ownsRow wA.heap.size 67 6 v k (L.flatMap enA) ∧ Hid (∀ o ∈ L, LRow wA.heap.size wr' o) ∧ Below wA.heap.size wA wr') (fun _ i _ => ol.length - nOf i)
      case atStart => exact ⟨0, [], Nat.zero_le _, rfl, hid ⟨rfl, rfl⟩, World.ownsRow_nil _ _ _ _, hid (fun o ho => by cases ho), Below.refl _ _⟩
      case round =>
        clear hb
        obtain ⟨k, L, hk, rfl, hL, hO, hrows, hb'⟩ := hrel
        by_cases hlt : k < ol.length
        · obtain ⟨o, ho⟩ : ∃ o, ol[k]? = some o := ⟨ol[k], List.getElem?_eq_getElem hlt⟩
          have HX := hid (HA.out.1 o (List.mem_of_getElem? ho))
          obtain ⟨b, off, hAA, hbs, hcc⟩ := (hR2.below (bthen HBA.out hb')).at_ 6 enA_len (by omega) ho
          have HS : Hid ((ol.take (k + 1)).map bareA = (ol.take k).map bareA ++ [bareA o]) := hid (by rw [List.take_add_one, ho, List.map_append]; rfl)
          obtain ⟨oi, oc, of, oA, ocp, ols, on, ot⟩ := o
          have q0 : wr.cell? ⟨b, off + k * 6, none⟩ = some (.int .i64 oi) := hcc 0 _ rfl
          have q1 : wr.cell? ⟨b, off + k * 6 + 1, none⟩ = some (.int .i64 oc) := hcc 1 _ rfl
          have q2 : wr.cell? ⟨b, off + k * 6 + 2, none⟩ = some (.string of) := hcc 2 _ rfl
          have q3 : wr.cell? ⟨b, off + k * 6 + 3, none⟩ = some (.slice oA ols.length ocp) := hcc 3 _ rfl
          have q4 : wr.cell? ⟨b, off + k * 6 + 4, none⟩ = some (.int .i64 on) := hcc 4 _ rfl
          have q5 : wr.cell? ⟨b, off + k * 6 + 5, none⟩ = some (.int .i64 ot) := hcc 5 _ rfl
          have hwb : Below wr.heap.size wr (wr.alloc (.cells #[.int .i64 oi, .int .i64 oc, .string of, .slice oA ols.length ocp, .int .i64 on, .int .i64 ot] 35)) := (Below.refl _ _).alloc (Nat.le_refl _) _
          have hG0 : Blk (wr.alloc (.cells #[.int .i64 oi, .int .i64 oc, .string of, .slice oA ols.length ocp, .int .i64 on, .int .i64 ot] 35)) wr.heap.size 35 #[.int .i64 oi, .int .i64 oc, .string of, .slice oA ols.length ocp, .int .i64 on, .int .i64 ot] := Blk.new _ _ _
          obtain ⟨wz, hwz⟩ : ∃ wz, wz = wr.alloc (.cells #[.int .i64 oi, .int .i64 oc, .string of, .slice oA ols.length ocp, .int .i64 on, .int .i64 ot] 35) := ⟨_, rfl⟩
          obtain ⟨G, hGG⟩ : ∃ G, G = wr.heap.size := ⟨_, rfl⟩
          have HW := hid hwz
          have HGG := hid hGG
          rw [← hwz] at hwb hG0
          rw [← hGG] at hG0
          have hbd := hwb.drew
          have hG1 : Blk wz.drew G 35 #[.int .i64 oi, .int .i64 oc, .string of, .slice oA ols.length ocp, .int .i64 on, .int .i64 ot] := hG0.next (below_drewN (Below.refl _ _) 1)
          have hOz := hO.kept (grown_of_below hbd none) (by cases hv : u13.ownBlock <;> simp)
          have hrz := hid (fun o ho => (hrows.out o ho).next hbd)
          have hbz := bthen hb' hbd
          have hwsz := hbz.size
          have K := hid (lawLines_any ols oA ocp wz.drew (HX.out.rd.below (bthen HBA.out hbz)) (by have := HX.out.len; simp only at this; omega))
          unfold NewRowOf at K
          have hGA : wA.heap.size ≤ G := by have := hb'.size; omega
          have HOz := hid hOz
          have HBz := hid hbz
          clear hcc ho hwb hwz hGG hG0 hO hrows hb' hbd hOz hbz hbs
          subst hAA
          go_wp2_with fail
          rw [← HW.out, ← HGG.out]
          go_region_held3 (fun w' => w'.cell? ⟨G, 0, none⟩ = some (.int .i64 oi) ∧ w'.cell? ⟨G, 1, none⟩ = some (.int .i64 oc) ∧ w'.cell? ⟨G, 2, none⟩ = some (.string of) ∧ w'.cell? ⟨G, 3, none⟩ = some (.slice oA ols.length ocp) ∧ w'.cell? ⟨G, 4, none⟩ = some (.int .i64 on) ∧ w'.cell? ⟨G, 5, none⟩ = some (.int .i64 ot)) (first | exact ⟨hG1.cell 0, hG1.cell 1, hG1.cell 2, hG1.cell 3, hG1.cell 4, hG1.cell 5⟩ | exact ⟨hG7.cell 0, hG7.cell 1, hG7.cell 2, hG7.cell 3, hG7.cell 4, hG7.cell 5⟩ | exact ⟨hG8.cell 0, hG8.cell 1, hG8.cell 2, hG8.cell 3, hG8.cell 4, hG8.cell 5⟩ | exact ⟨hG9.cell 0, hG9.cell 1, hG9.cell 2, hG9.cell 3, hG9.cell 4, hG9.cell 5⟩)
            (first
              | (go_at_call 21; refine K.out.mono ?_; rintro e w7 ⟨A5, c5, rfl, hO5, hb7⟩
                 have hG7 := hG1.next hb7
                 have hwsz7 := hb7.size
                 have hO7 := hid (HOz.out.kept (grown_of_below hb7 none) (by cases hv : u13.ownBlock <;> simp))
                 have hL7 := hid (ownsRow_low hO5 hwsz)
                 have hr7 := hid (fun o ho => (hrz.out o ho).next hb7)
                 have hb8 := hid (bthen HBz.out hb7)
                 have hG8 := hG7.alloc (.cells #[.int .i64 oi, .int .i64 oc, .string of, .slice A5 ols.length c5, .int .i64 on, .int .i64 ot] 67)
                 have hO8 := hid (hO7.out.alloc (.cells #[.int .i64 oi, .int .i64 oc, .string of, .slice A5 ols.length c5, .int .i64 on, .int .i64 ot] 67))
                 clear hO5 hb7 hG1)
              | (refine step_append_lies _ (by rfl) _ _ _ (by rfl) wA.heap.size 67 i1 _ 6 72 Try.underlying56 hj hy0 hy1 hy2 rfl (by decide) _ _ _ (by rfl) hO8.out ⟨w7.heap.size, 0, none⟩ 1 1 [.int .i64 oi, .int .i64 oc, .string of, .slice A5 ols.length c5, .int .i64 on, .int .i64 ot] (by rfl) (by rfl) (World.news_of_block (heap_alloc_new _ _)) (enA_one ⟨oi, oc, of, A5, c5, ols, on, ot⟩) (by omega) (by unfold maxLen; omega) (by omega) (by simp; omega) _ rfl ?_; intro g9 cap9 w9 hO9 hg9 hat9 hlt9
                 have hG9 := hG8.grown hg9 (fun e => by
                   obtain ⟨cs, hb⟩ := ownBlk hO8.out e.symm
                   exact hG8.ne_ hb (by decide) rfl)))
          all_goals
            have hg9' : (w7.alloc (.cells #[.int .i64 oi, .int .i64 oc, .string of, .slice A5 ols.length c5, .int .i64 on, .int .i64 ot] 67)).grownBy w9 u13.ownBlock := hg9
            have hb9 : Below wA.heap.size wA w9 := (hb8.out.alloc hb8.out.size (.cells #[.int .i64 oi, .int .i64 oc, .string of, .slice A5 ols.length c5, .int .i64 on, .int .i64 ot] 67)).grown hg9' (by simp; omega) (fun k hk => (hO8.out.lt k hk).1)
            have hkeep : ∀ o : OrdA, LRow wA.heap.size w7 o → LRow wA.heap.size w9 o := fun o ho => by
              have h1 : (w7.alloc (.cells #[.int .i64 oi, .int .i64 oc, .string of, .slice A5 ols.length c5, .int .i64 on, .int .i64 ot] 67)).ownsRow wA.heap.size 88 2 (.slice o.A o.ls.length o.cap) o.ls.length (o.ls.flatMap enL) := World.ownsRow.alloc ho _
              exact h1.kept hg9' (by
                cases ho' : (Value.slice o.A o.ls.length o.cap).ownBlock with
                | none => exact .inl rfl
                | some gg => exact .inr (fun e => own_other h1 hO8.out (by decide) (g := gg) e.symm ho'))
            have hO10 : w9.ownsRow wA.heap.size 67 6 (.slice (some ⟨g9, 0, none⟩) (k + 1) cap9) (k + 1) ((L ++ [(⟨oi, oc, of, A5, c5, ols, on, ot⟩ : OrdA)]).flatMap enA) := by
              rw [List.flatMap_append]
              simpa [enA] using hO9
            have hrw : ∀ o ∈ L ++ [(⟨oi, oc, of, A5, c5, ols, on, ot⟩ : OrdA)], LRow wA.heap.size w9 o := fun o ho => by
              rcases List.mem_append.1 ho with ho | ho
              · exact hkeep o (hr7.out o ho)
              · simp only [List.mem_singleton] at ho
                subst ho
                exact hkeep _ hL7.out
            have HF := hid (And.intro hO10 (And.intro hrw hb9))
            clear hg9 hg9' hat9 hlt9 hO9 hO10 hrw hb9 hkeep hG9 hG8 hG7 hO8 hO7 hL7 hr7 hb8 K q0 q1 q2 q3 q4 q5
            go_wp2_with fail
            go_roundw
            case rel => exact ⟨k + 1, L ++ [(⟨oi, oc, of, A5, c5, ols, on, ot⟩ : OrdA)], by omega, by go_num, hid ⟨by rw [List.map_append, hL.out.1, HS.out]; rfl, by rw [List.length_append, hL.out.2]; rfl⟩, HF.out.1, hid HF.out.2.1, HF.out.2.2⟩
            case measure => simp [nOf]; omega
        · have hk' : k = ol.length := by omega
          subst hk'
          have hLb : L.map bareA = ol.map bareA := by rw [hL.out.1, List.take_length]
          have hLn : L.length = ol.length := hL.out.2
          obtain ⟨A5, cp5, rfl, hR5⟩ := own_slice hO
          have hBB := hid (bthen HBA.out hb')
          have hR4' := hid (hR4.below hb')
          have hR5' := hid hR5
          have HOKL := hid (fun (w5 : World) (hb5 : Below wr.heap.size wr w5) (o : OrdA) (ho : o ∈ L) => (show OkA w5 o from by
            have h1 := (hrows.out o ho).next hb5
            have h2 : bareA o ∈ ol.map bareA := by rw [← hLb]; exact List.mem_map_of_mem ho
            obtain ⟨o', ho', e⟩ := List.mem_map.1 h2
            obtain ⟨e1, e2, e3, e4, e5, e6⟩ := bare_parts (show bare (bareA o') = bare (bareA o) from by rw [e])
            have h3 := HA.out.1 o' ho'
            have h4 := h3.len
            have h5 := h3.flow
            rw [show o'.ls = o.ls from e4] at h4
            rw [show o'.f = o.f from e3] at h5
            exact ⟨own_rd h1, h4, (own_cap h1).1, (own_cap h1).2, h5⟩))
          have K1 := hid (restore_any il A1 cp1 ol A2 cp2 wr (hR1.below hBB.out) (hR2.below hBB.out) (fun o ho => (HA.out.1 o ho).next hBB.out) (by omega) (by omega))
          have K2 := hid (fun w5 (hb5 : Below wr.heap.size wr w5) => (hLn ▸ rrestore_any il A4 cp4 L A5 cp5 w5 (hR4'.out.below hb5) (hR5'.out.below hb5) (HOKL.out w5 hb5) (by omega) (by omega) : Calls Try.prog 22 #[.slice A4 il.length cp4, .slice A5 ol.length cp5] w5 fun e w' => RestR il L w5 e w' ∧ Below w5.heap.size w5 w'))
          have HLB := hid hLb
          clear hk hlt hO hR5 hb' hR4 hR1 hR2 hi hz0 hz1 hz2 hj hy0 hy1 hy2 hrows hL hLb hLn HOKL
          go_wp2_with fail
          refine K1.out.mono ?_
          rintro e w5 ⟨hP1, hb5⟩
          by_cases hgood : GoodR il ol
          · obtain ⟨X, BP, BO, os, rfl, hB, hOO, hos⟩ := hP1.1 hgood
            have HGd := hid hgood
            clear hP1 hgood K1
            go_wp2_with fail
            refine (K2.out _ hb5).mono ?_
            rintro e w6 ⟨hP2, hb6⟩
            obtain ⟨R, base, A6, c6, A7, c7, rs, rfl, hF, hrs, hwR, hbw6⟩ := hP2.1 (goodR_bare HLB.out.symm HGd.out)
            clear hP2 K2
            have hB6 := hB.next hb6
            have hbw := bthen (bthen hBB.out hb5) hb6
            have h56 := hb5.size
            have h67 := hb6.size
            have hww := hBB.out.size
            have hri : il.Pairwise (fun a b => a.1 < b.1) := by have := goodI_rise (k := il.length) (fun j _ => HGd.out.1 j); rwa [List.take_length] at this
            have hro : ol.Pairwise (fun a b => a.i < b.i) := by have := goodO_rise (k := ol.length) (fun j _ => HGd.out.2 j); rwa [List.take_length] at this
            have hpo : PrOk il := by have := goodI_ok (k := il.length) (fun j _ => HGd.out.1 j); rwa [List.take_length] at this
            have hfi : il.length ≤ 64 := by have := few_good (k := il.length) (fun j _ => HGd.out.1 j); rwa [List.take_length] at this
            have hfo : ol.length ≤ 256 := by have := fewO_good (k := ol.length) (fun j _ => HGd.out.2 j); rwa [List.take_length] at this
            have hlo : os.length = ol.length := by have := congrArg List.length hos; simpa using this
            have hM := rel_of hri hos (hrs.trans HLB.out) hro
            have hS := hid (state_any hB6 hF hM hOO hfi (by omega))
            have hSt : St w wr.heap.size X BP BO il os w6 := ⟨hB6, hpo, hOO, hbw, hww, by omega⟩
            have hPl := hid (fun w7 (h7 : Below w6.heap.size w6 w7) => play_any w l A3 cp3 hR3 HA.out.2 w7 (hSt.next h7) (hF.next h7) hM (Nat.le_trans hbw6 h7.size) (by omega) hb3)
            clear hB hB6 hF hM hb5 hb6 hR3 hR4' hR5' hSt hOO hos hrs HGd hri hro hpo
            go_wp2_with fail
            refine hS.out.mono ?_
            rintro e w7 ⟨rfl, hb7⟩
            go_wp2_with fail
            refine (hPl.out _ hb7).mono ?_
            rintro e w8 ⟨rfl, hb8⟩
            clear hPl hS hb7
            go_wp2_with fail
            go_ret
            exact ⟨by simp, hb8⟩
          · obtain rfl := hP1.2 hgood
            have HGd := hid hgood
            have hbw := bthen hBB.out hb5
            clear hP1 hgood K1
            go_wp2_with fail
            refine (K2.out _ hb5).mono ?_
            rintro e w6 ⟨hP2, hb6⟩
            obtain rfl := hP2.2 (fun h => HGd.out (goodR_bare HLB.out h))
            have hbw := hid (bthen hbw hb6)
            clear hP2 K2 HGd hb5 hb6 hR3 hR4' hR5'
            go_wp2_with fail
            go_ret
            exact ⟨by simp, hbw.out⟩

end Go.Proofs.Ytdgoifnhlpjnpaa
