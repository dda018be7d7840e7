/-
  Definitions of flows: the steps' numbers by their names.
-/
import Derived.Test.YtemhoaapapeilaaSt12
import Derived.Test.YtemhoaapapeilaaGr12
import Derived.Test.YtemhoaapapeilaaMapLen
import Derived.Test.YtemhoaapapeilaaIn
import Derived.Test.YtemhoaapapeilaaOwn
import Derived.Test.YtemhoaapapeilaaPlc
namespace Go.Proofs.Ytemhoaapapeilaa
open Go.RowKit Go.WideShapes Go.ChangeShapes Go.ChangeAt Go.Deep
set_option linter.unusedVariables false

def vN (n : Int) : Value := .int .i64 n
/-- The numbers by the names, as far as k. -/
def mkN (ns : List ByteArray) : Nat → List (ByteArray × Int)
  | 0 => []
  | k + 1 => match ns[k]? with
    | some a => mset (mkN ns k) a (k : Int)
    | none => mkN ns k
theorem mkN_succ {ns : List ByteArray} {k : Nat} {a : ByteArray} (h : ns[k]? = some a) : mkN ns (k + 1) = mset (mkN ns k) a (k : Int) := by
  show (match ns[k]? with | some a => mset (mkN ns k) a (k : Int) | none => mkN ns k) = _
  rw [h]
theorem take_succ_of {α : Type} {l : List α} {k : Nat} {a : α} (h : l[k]? = some a) : l.take (k + 1) = l.take k ++ [a] := by rw [List.take_add_one, h]; rfl
structure MkN (ns : List ByteArray) (k : Nat) : Prop where
  key : ∀ a, a ∈ (mkN ns k).map (·.1) ↔ a ∈ ns.take k
  le : (mkN ns k).length ≤ k
  eq : (mkN ns k).length = k ↔ (ns.take k).Nodup
  get : ∀ a i, mget (mkN ns k) a = some i → ∃ j : Nat, j < k ∧ ns[j]? = some a ∧ i = j
theorem mkN_ok (ns : List ByteArray) : ∀ k, k ≤ ns.length → MkN ns k
  | 0, _ => ⟨fun a => by simp [mkN], by simp [mkN], by simp [mkN], fun a i h => by simp [mkN, mget] at h⟩
  | k + 1, hk => by
    have ih := mkN_ok ns k (by omega)
    obtain ⟨a0, ha0⟩ : ∃ a, ns[k]? = some a := ⟨ns[k], List.getElem?_eq_getElem (by omega)⟩
    have e := mkN_succ ha0
    have et := take_succ_of ha0
    have h1 := congrArg List.length (mset_keys (m := mkN ns k) (a := a0) (b := (k : Int)))
    rw [List.length_map, ← e] at h1
    have hl1 : a0 ∈ (mkN ns k).map (·.1) → (mkN ns (k + 1)).length = (mkN ns k).length := fun hin => by
      rw [h1, if_pos hin, List.length_map]
    have hl2 : a0 ∉ (mkN ns k).map (·.1) → (mkN ns (k + 1)).length = (mkN ns k).length + 1 := fun hin => by
      rw [h1, if_neg hin, List.length_append, List.length_map]; rfl
    clear h1
    refine ⟨fun a => ?_, ?_, ?_, fun a i h => ?_⟩
    · rw [e, et, mset_keys, List.mem_append]
      split
      · rename_i hin
        rw [ih.key]
        constructor
        · exact .inl
        · rintro (h | h)
          · exact h
          · simp at h; subst h; exact (ih.key _).1 hin
      · rw [List.mem_append, ih.key]
    · have := ih.le
      by_cases hin : a0 ∈ (mkN ns k).map (·.1)
      · rw [hl1 hin]; omega
      · rw [hl2 hin]; omega
    · rw [et]
      by_cases hin : a0 ∈ (mkN ns k).map (·.1)
      · rw [hl1 hin]
        have := ih.le
        refine ⟨fun h => by omega, fun h => ?_⟩
        exfalso
        have h2 := (List.nodup_append.1 h).2.2
        exact h2 a0 ((ih.key _).1 hin) a0 (by simp) rfl
      · rw [hl2 hin]
        refine ⟨fun h => ?_, fun h => ?_⟩
        · refine List.nodup_append.2 ⟨ih.eq.1 (by omega), by simp, fun x hx y hy e' => ?_⟩
          simp at hy
          exact hin ((ih.key _).2 (by rw [← hy, ← e']; exact hx))
        · have := ih.eq.2 (List.nodup_append.1 h).1; omega
    · rw [e, mget_mset] at h
      by_cases ea : a = a0
      · rw [if_pos ea] at h
        injection h with h
        exact ⟨k, by omega, by rw [ea]; exact ha0, h.symm⟩
      · rw [if_neg ea] at h
        obtain ⟨j, h1, h2, h3⟩ := ih.get a i h
        exact ⟨j, by omega, h2, h3⟩
/-- Every name stands once, and is there where it is asked. -/
def NamesOk (l : List Stp) : Prop := (l.map Stp.name).Nodup ∧ ∀ s ∈ l, ∀ a ∈ s.after, a ∈ l.map Stp.name
def enB (b : ByteArray) : List Value := [.string b]
theorem enB_len (b : ByteArray) : (enB b).length = 1 := rfl
/-- The steps' own lists are there. -/
structure OkSt (w : World) (s : Stp) : Prop where
  row : Rd w s.A (s.after.flatMap enB)
  len : s.after.length * 16 ≤ 140737488355328
theorem OkSt.next {w w' : World} {s : Stp} (h : OkSt w s) (hb : Below w.heap.size w w') : OkSt w' s := ⟨h.row.below hb, h.len⟩
def NamesR (l : List Stp) (w : World) (e : Ending) (w' : World) : Prop :=
  Below w.heap.size w w' ∧ ((NamesOk l ∧ ∃ B, e = .returned (.tuple #[.map (some B), .bool true]) ∧ IsMap w' B kS vN (mkN (l.map Stp.name) l.length) ∧ w.heap.size ≤ B) ∨ (¬ NamesOk l ∧ e = .returned (.tuple #[.map none, .bool false])))

theorem zeroN (w : World) : (zeroValue 3).run Try.prog w = .ok (vN 0) w := by kernel_rfl
theorem keyStr12 : KeyLaw Try.prog 9 kS := strKey Try.underlying9
set_option maxRecDepth 100000 in
set_option maxHeartbeats 16000000 in
theorem names_any (nm : ByteArray) (l : List Stp) (A : Option Addr) (cp : Nat) (w : World) (hR : Rd w A (l.flatMap enSt)) (hok : ∀ s ∈ l, OkSt w s) (hl : l.length ≤ 140737488355328) :
    Calls Try.prog 43 #[.agg #[.string nm, .slice A l.length cp]] w (NamesR l w) := by
  have hmm := @run_makeMap Try.prog
  have HOK := hid hok
  clear hok
  have hB0 := (Blk.new w 24 #[.string nm, .slice A l.length cp]).alloc (.map #[] 0)
  have hwa : Below w.heap.size w ((w.alloc (.cells #[.string nm, .slice A l.length cp] 24)).alloc (.map #[] 0)) := ((Below.refl _ _).alloc (Nat.le_refl _) _).alloc (by simp) _
  have hM0 := IsMap.made (w.alloc (.cells #[.string nm, .slice A l.length cp] 24)) kS vN
  rw [World.size_alloc] at hM0
  obtain ⟨W, hW⟩ : ∃ W, W = (w.alloc (.cells #[.string nm, .slice A l.length cp] 24)).alloc (.map #[] 0) := ⟨_, rfl⟩
  obtain ⟨D, hD⟩ : ∃ D, D = w.heap.size := ⟨_, rfl⟩
  rw [← hW] at hB0 hwa hM0
  rw [← hD] at hB0 hM0
  have HW := hid hW
  have HD := hid hD
  have HI := hid (And.intro hB0 (And.intro hM0 hwa))
  clear hB0 hwa hM0 hW hD
  go_enter Try.func43, Try.ntmps43
  go_upto_region 2 with fail
  rw [← HW.out, ← HD.out]
  have d1 : W.cell? ⟨D, 1, none⟩ = some (.slice A l.length cp) := HI.out.1.cell 1
  have lD := HI.out.1.lt
  clear hmm
  go_wp2_with fail
  clear d1 lD
  go_loopw [17] (fun i wr => ∃ k : Nat, k ≤ l.length ∧ i = .int .i64 k ∧ Hid (Blk wr D 24 #[.string nm, .slice A l.length cp] ∧ IsMap wr (D + 1) kS vN (mkN (l.map Stp.name) k) ∧ Below w.heap.size w wr)) (fun i _ => l.length - nOf i)
  case atStart => exact ⟨0, Nat.zero_le _, rfl, HI⟩
  case round =>
    clear HI
    obtain ⟨k, hk, rfl, HI⟩ := hrel
    by_cases hlt : k < l.length
    · obtain ⟨x, hx⟩ : ∃ x, l[k]? = some x := ⟨l[k], List.getElem?_eq_getElem hlt⟩
      obtain ⟨b, o, hAA, _, hcc⟩ := (hR.below HI.out.2.2).at_ 9 enSt_len (by omega) hx
      have HMK := hid (show mkN (l.map Stp.name) (k + 1) = mset (mkN (l.map Stp.name) k) x.name (k : Int) from mkN_succ (by rw [List.getElem?_map, hx]; rfl))
      obtain ⟨xn, xv, xu, xe, xf, xr, xy, xw, xA, xc, xl⟩ := x
      subst hAA
      have q0 : wr.cell? ⟨b, o + k * 9, none⟩ = some (.string xn) := hcc 0 _ rfl
      have q1 : wr.cell? ⟨b, o + k * 9 + 1, none⟩ = some (.string xv) := hcc 1 _ rfl
      have q2 : wr.cell? ⟨b, o + k * 9 + 2, none⟩ = some (.string xu) := hcc 2 _ rfl
      have q3 : wr.cell? ⟨b, o + k * 9 + 3, none⟩ = some (.string xe) := hcc 3 _ rfl
      have q4 : wr.cell? ⟨b, o + k * 9 + 4, none⟩ = some (.bool xf) := hcc 4 _ rfl
      have q5 : wr.cell? ⟨b, o + k * 9 + 5, none⟩ = some (.int .i64 xr) := hcc 5 _ rfl
      have q6 : wr.cell? ⟨b, o + k * 9 + 6, none⟩ = some (.int .i64 xy) := hcc 6 _ rfl
      have q7 : wr.cell? ⟨b, o + k * 9 + 7, none⟩ = some (.int .i64 xw) := hcc 7 _ rfl
      have q8 : wr.cell? ⟨b, o + k * 9 + 8, none⟩ = some (.slice xA xl.length xc) := hcc 8 _ rfl
      have hwb : Below wr.heap.size wr (wr.alloc (.cells #[.string xn, .string xv, .string xu, .string xe, .bool xf, .int .i64 xr, .int .i64 xy, .int .i64 xw, .slice xA xl.length xc] 34)) := (Below.refl _ _).alloc (Nat.le_refl _) _
      have HZ := hid (And.intro (HI.out.1.next hwb) (And.intro (HI.out.2.1.next hwb) (And.intro (bthen HI.out.2.2 hwb) (Blk.new wr 34 #[.string xn, .string xv, .string xu, .string xe, .bool xf, .int .i64 xr, .int .i64 xy, .int .i64 xw, .slice xA xl.length xc]))))
      clear hcc hx hwb HI
      go_upto_region 5 with fail
      clear q0 q1 q2 q3 q4 q5 q6 q7 q8
      obtain ⟨wz, hwz⟩ : ∃ wz, wz = wr.alloc (.cells #[.string xn, .string xv, .string xu, .string xe, .bool xf, .int .i64 xr, .int .i64 xy, .int .i64 xw, .slice xA xl.length xc] 34) := ⟨_, rfl⟩
      obtain ⟨G, hG⟩ : ∃ G, G = wr.heap.size := ⟨_, rfl⟩
      rw [← hwz, ← hG] at HZ
      rw [← hwz, ← hG]
      clear hwz hG
      have g0 : wz.cell? ⟨G, 0, none⟩ = some (.string xn) := HZ.out.2.2.2.cell 0
      have lG := HZ.out.2.2.2.lt
      go_wp2_with (first
        | (at_mapUpdate; refine wpList_store _ rfl _ _ _ 30 3 rfl keyStr12 Try.underlying30 (D + 1) (mkN (l.map Stp.name) k) rfl HZ.out.2.1 xn (k : Int) rfl rfl ?_; intro w5 hM5 hg5 hs5))
      have HF := hid (And.intro ((Touch.of_grown hg5).blk HZ.out.1 (fun e => HZ.out.2.1.notBlk HZ.out.1 (by omega))) (And.intro (show IsMap w5 (D + 1) kS vN (mkN (l.map Stp.name) (k + 1)) from by rw [HMK.out]; exact hM5) (grown_below hg5 HZ.out.2.2.1.size (by rw [HD.out]; omega))))
      have HF2 := hid (HZ.out.2.2.1.trans HF.out.2.2)
      clear hM5 hg5 hs5 g0 lG HMK
      go_roundw
      case rel => exact ⟨k + 1, by omega, by go_num, hid ⟨HF.out.1, HF.out.2.1, HF2.out⟩⟩
      case measure => simp [nOf]; omega
    · have hk' : k = l.length := by omega
      subst hk'
      clear hk hlt
      have hmk := mkN_ok (l.map Stp.name) l.length (by simp)
      have htk : (l.map Stp.name).take l.length = l.map Stp.name := List.take_of_length_le (by simp)
      have d1 : wr.cell? ⟨D, 1, none⟩ = some (.slice A l.length cp) := HI.out.1.cell 1
      have lD := HI.out.1.lt
      by_cases hnd : (mkN (l.map Stp.name) l.length).length = l.length
      · have hNn : (l.map Stp.name).Nodup := by have := hmk.eq.1 hnd; rwa [htk] at this
        have HK : Hid (∀ a, (mget (mkN (l.map Stp.name) l.length) a).isSome = true ↔ a ∈ l.map Stp.name) := hid (fun a => by rw [mget_isSome, hmk.key, htk])
        have HNN := hid hNn
        have tl : (((mkN (l.map Stp.name) l.length).length : Int) != (l.length : Int)) = false := by rw [hnd]; simp
        clear hmk htk hnd hNn
        go_wp2_with (first
          | (at_len; refine wpList_maplen _ rfl _ 30 3 rfl Try.underlying30 (D + 1) (mkN (l.map Stp.name) l.length) rfl HI.out.2.1 ?_))
        clear d1 lD tl
        go_loopw [36] (fun i wr => ∃ k : Nat, k ≤ l.length ∧ i = .int .i64 k ∧ Hid (∀ s ∈ l.take k, ∀ a ∈ s.after, a ∈ l.map Stp.name) ∧ Hid (Blk wr D 24 #[.string nm, .slice A l.length cp] ∧ IsMap wr (D + 1) kS vN (mkN (l.map Stp.name) l.length) ∧ Below w.heap.size w wr)) (fun i _ => l.length - nOf i)
        case atStart => exact ⟨0, Nat.zero_le _, rfl, hid (fun s hs => by simp at hs), HI⟩
        case round =>
          clear HI
          obtain ⟨k, hk, rfl, HA, HI⟩ := hrel
          by_cases hlt : k < l.length
          · obtain ⟨x, hx⟩ : ∃ x, l[k]? = some x := ⟨l[k], List.getElem?_eq_getElem hlt⟩
            obtain ⟨b, o, hAA, _, hcc⟩ := (hR.below HI.out.2.2).at_ 9 enSt_len (by omega) hx
            have HTK := hid (take_succ_of hx)
            have HXM := hid (List.mem_of_getElem? hx)
            have hrow := (HOK.out x (List.mem_of_getElem? hx)).row
            have hxl := (HOK.out x (List.mem_of_getElem? hx)).len
            obtain ⟨xn, xv, xu, xe, xf, xr, xy, xw, xA, xc, xl⟩ := x
            simp only at hrow hxl
            subst hAA
            have q0 : wr.cell? ⟨b, o + k * 9, none⟩ = some (.string xn) := hcc 0 _ rfl
            have q1 : wr.cell? ⟨b, o + k * 9 + 1, none⟩ = some (.string xv) := hcc 1 _ rfl
            have q2 : wr.cell? ⟨b, o + k * 9 + 2, none⟩ = some (.string xu) := hcc 2 _ rfl
            have q3 : wr.cell? ⟨b, o + k * 9 + 3, none⟩ = some (.string xe) := hcc 3 _ rfl
            have q4 : wr.cell? ⟨b, o + k * 9 + 4, none⟩ = some (.bool xf) := hcc 4 _ rfl
            have q5 : wr.cell? ⟨b, o + k * 9 + 5, none⟩ = some (.int .i64 xr) := hcc 5 _ rfl
            have q6 : wr.cell? ⟨b, o + k * 9 + 6, none⟩ = some (.int .i64 xy) := hcc 6 _ rfl
            have q7 : wr.cell? ⟨b, o + k * 9 + 7, none⟩ = some (.int .i64 xw) := hcc 7 _ rfl
            have q8 : wr.cell? ⟨b, o + k * 9 + 8, none⟩ = some (.slice xA xl.length xc) := hcc 8 _ rfl
            have hwb : Below wr.heap.size wr (wr.alloc (.cells #[.string xn, .string xv, .string xu, .string xe, .bool xf, .int .i64 xr, .int .i64 xy, .int .i64 xw, .slice xA xl.length xc] 34)) := (Below.refl _ _).alloc (Nat.le_refl _) _
            have HZ := hid (And.intro (HI.out.1.next hwb) (And.intro (HI.out.2.1.next hwb) (And.intro (bthen HI.out.2.2 hwb) (Blk.new wr 34 #[.string xn, .string xv, .string xu, .string xe, .bool xf, .int .i64 xr, .int .i64 xy, .int .i64 xw, .slice xA xl.length xc]))))
            clear hcc hx hwb HI
            go_upto_region 12 with fail
            clear q0 q1 q2 q3 q4 q5 q6 q7 q8
            obtain ⟨wz, hwz⟩ : ∃ wz, wz = wr.alloc (.cells #[.string xn, .string xv, .string xu, .string xe, .bool xf, .int .i64 xr, .int .i64 xy, .int .i64 xw, .slice xA xl.length xc] 34) := ⟨_, rfl⟩
            obtain ⟨G, hG⟩ : ∃ G, G = wr.heap.size := ⟨_, rfl⟩
            rw [← hwz, ← hG] at HZ
            rw [← hwz, ← hG]
            clear hwz hG
            have g8 : wz.cell? ⟨G, 8, none⟩ = some (.slice xA xl.length xc) := HZ.out.2.2.2.cell 8
            have lG := HZ.out.2.2.2.lt
            have HROW := hid hrow
            clear hrow
            go_wp2_with fail
            clear g8 lG
            have lk : ∀ a, (Instr.lookup 30 (.map (some (D + 1))) (.string a) true).run Try.prog wz = .ok (.tuple #[looked (vN 0) vN (mkN (l.map Stp.name) l.length) a, .bool (mget (mkN (l.map Stp.name) l.length) a).isSome]) wz := fun a => HZ.out.2.1.lookOk keyStr12 Try.underlying30 (zeroN _) a
            go_loop [43] (fun i => ∃ j : Nat, j ≤ xl.length ∧ i = .int .i64 j ∧ Hid (∀ a ∈ xl.take j, a ∈ l.map Stp.name)) (fun i => xl.length - nOf i)
            case atStart => exact ⟨0, Nat.zero_le _, rfl, hid (fun a ha => by simp at ha)⟩
            case round =>
              obtain ⟨j, hj, rfl, HJ⟩ := hrel
              by_cases hjl : j < xl.length
              · obtain ⟨y, hy⟩ : ∃ y, xl[j]? = some y := ⟨xl[j], List.getElem?_eq_getElem hjl⟩
                obtain ⟨b2, o2, hA2, _, hc2⟩ := (HROW.out.below HZ.out.2.2.1).at_ 1 enB_len (by omega) hy
                subst hA2
                have q0 : wz.cell? ⟨b2, o2 + j * 1, none⟩ = some (.string y) := hc2 0 _ rfl
                rw [Nat.mul_one] at q0
                have lky := lk y
                have HTJ := hid (take_succ_of hy)
                have HYM := hid (List.mem_of_getElem? hy)
                clear hc2 hy
                cases hs : (mget (mkN (l.map Stp.name) l.length) y).isSome with
                | true =>
                  have HIN := hid ((HK.out y).1 hs)
                  rw [hs] at lky
                  clear hs lk
                  go_wp2_with fail
                  go_round
                  case rel => exact ⟨j + 1, by omega, by go_num, hid (fun a ha => by
                    rw [HTJ.out] at ha
                    rcases List.mem_append.1 ha with ha | ha
                    · exact HJ.out a ha
                    · simp at ha; subst ha; exact HIN.out)⟩
                  case measure => simp [nOf]; omega
                | false =>
                  have HNO := hid (show ¬ NamesOk l from fun h => by
                    have h1 := h.2 _ HXM.out y HYM.out
                    have h2 := (HK.out y).2 h1
                    rw [hs] at h2
                    cases h2)
                  rw [hs] at lky
                  clear hs lk
                  go_wp2_with fail
                  go_ret2
                  exact ⟨HZ.out.2.2.1, .inr ⟨HNO.out, rfl⟩⟩
              · have hj' : j = xl.length := by omega
                subst hj'
                have HAN := hid (show ∀ s ∈ l.take (k + 1), ∀ a ∈ s.after, a ∈ l.map Stp.name from fun s hs a ha => by
                  rw [HTK.out] at hs
                  rcases List.mem_append.1 hs with hs | hs
                  · exact HA.out s hs a ha
                  · simp at hs
                    subst hs
                    have := HJ.out
                    rw [List.take_length] at this
                    exact this a ha)
                clear lk hj hjl
                go_wp2_with fail
                go_roundw
                case rel => exact ⟨k + 1, by omega, by go_num, HAN, hid ⟨HZ.out.1, HZ.out.2.1, HZ.out.2.2.1⟩⟩
                case measure => simp [nOf]; omega
          · have hk' : k = l.length := by omega
            subst hk'
            clear hk hlt
            have HOKN := hid (show NamesOk l from ⟨HNN.out, fun s hs => HA.out s (by rw [List.take_length]; exact hs)⟩)
            go_wp2_with fail
            go_ret2
            exact ⟨HI.out.2.2, .inl ⟨HOKN.out, D + 1, rfl, HI.out.2.1, by have := HD.out; omega⟩⟩
      · have tl : (((mkN (l.map Stp.name) l.length).length : Int) != (l.length : Int)) = true := by simp; omega
        have HNO := hid (show ¬ NamesOk l from fun h => hnd (hmk.eq.2 (by rw [htk]; exact h.1)))
        clear hmk htk hnd
        go_wp2_with (first
          | (at_len; refine wpList_maplen _ rfl _ 30 3 rfl Try.underlying30 (D + 1) (mkN (l.map Stp.name) l.length) rfl HI.out.2.1 ?_))
        go_ret2
        exact ⟨HI.out.2.2, .inr ⟨HNO.out, rfl⟩⟩

end Go.Proofs.Ytemhoaapapeilaa
