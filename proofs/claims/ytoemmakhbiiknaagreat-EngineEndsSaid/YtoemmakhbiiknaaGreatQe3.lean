/-
  Definitions of flows: the steps' numbers by their names.
  Definitions of flows, the document's: the number of the step with a name.
  Definitions of flows: the graph of the steps; a table of n times n.
  What each step comes behind: the program's sets, plainly.
  A region that draws its order: reads, calls and writes that keep to a class of worlds, in whatever order; then what comes last, walked in every world of the class.
  A region that draws its order, and in which ONE operation (a call) turns the world; all others read, or call what leaves the world's kind as it is: two classes of worlds, ahead of it and behind it.
-/
import Derived.Test.YtoemmakhbiiknaaGreatQe2
import Derived.StillTail
namespace Go.Proofs.YtoemmakhbiiknaaGreat
open Go.RowKit Go.WideShapes Go.ChangeShapes Go.ChangeAt Go.Deep
set_option linter.unusedVariables false

def vN (n : Int) : Value := .int .i64 n
/-- The numbers by the names, as far as k. -/
def mkN (ns : List ByteArray) : Nat → List (ByteArray × Int)
  | 0 => []
  | k + 1 => match ns[k]? with
    | some a => mset (mkN ns k) a (k : Int)
    | none => mkN ns k
theorem mkN_succ {ns : List ByteArray} {k : Nat} {a : ByteArray} (h : ns[k]? = some a) : mkN ns (k + 1) = mset (mkN ns k) a (k : Int) := by
  show (match ns[k]? with | some a => mset (mkN ns k) a (k : Int) | none => mkN ns k) = _
  rw [h]
theorem take_succ_of {α : Type} {l : List α} {k : Nat} {a : α} (h : l[k]? = some a) : l.take (k + 1) = l.take k ++ [a] := by rw [List.take_add_one, h]; rfl
structure MkN (ns : List ByteArray) (k : Nat) : Prop where
  key : ∀ a, a ∈ (mkN ns k).map (·.1) ↔ a ∈ ns.take k
  le : (mkN ns k).length ≤ k
  eq : (mkN ns k).length = k ↔ (ns.take k).Nodup
  get : ∀ a i, mget (mkN ns k) a = some i → ∃ j : Nat, j < k ∧ ns[j]? = some a ∧ i = j
theorem mkN_ok (ns : List ByteArray) : ∀ k, k ≤ ns.length → MkN ns k
  | 0, _ => ⟨fun a => by simp [mkN], by simp [mkN], by simp [mkN], fun a i h => by simp [mkN, mget] at h⟩
  | k + 1, hk => by
    have ih := mkN_ok ns k (by omega)
    obtain ⟨a0, ha0⟩ : ∃ a, ns[k]? = some a := ⟨ns[k], List.getElem?_eq_getElem (by omega)⟩
    have e := mkN_succ ha0
    have et := take_succ_of ha0
    have h1 := congrArg List.length (mset_keys (m := mkN ns k) (a := a0) (b := (k : Int)))
    rw [List.length_map, ← e] at h1
    have hl1 : a0 ∈ (mkN ns k).map (·.1) → (mkN ns (k + 1)).length = (mkN ns k).length := fun hin => by
      rw [h1, if_pos hin, List.length_map]
    have hl2 : a0 ∉ (mkN ns k).map (·.1) → (mkN ns (k + 1)).length = (mkN ns k).length + 1 := fun hin => by
      rw [h1, if_neg hin, List.length_append, List.length_map]; rfl
    clear h1
    refine ⟨fun a => ?_, ?_, ?_, fun a i h => ?_⟩
    · rw [e, et, mset_keys, List.mem_append]
      split
      · rename_i hin
        rw [ih.key]
        constructor
        · exact .inl
        · rintro (h | h)
          · exact h
          · simp at h; subst h; exact (ih.key _).1 hin
      · rw [List.mem_append, ih.key]
    · have := ih.le
      by_cases hin : a0 ∈ (mkN ns k).map (·.1)
      · rw [hl1 hin]; omega
      · rw [hl2 hin]; omega
    · rw [et]
      by_cases hin : a0 ∈ (mkN ns k).map (·.1)
      · rw [hl1 hin]
        have := ih.le
        refine ⟨fun h => by omega, fun h => ?_⟩
        exfalso
        have h2 := (List.nodup_append.1 h).2.2
        exact h2 a0 ((ih.key _).1 hin) a0 (by simp) rfl
      · rw [hl2 hin]
        refine ⟨fun h => ?_, fun h => ?_⟩
        · refine List.nodup_append.2 ⟨ih.eq.1 (by omega), by simp, fun x hx y hy e' => ?_⟩
          simp at hy
          exact hin ((ih.key _).2 (by rw [← hy, ← e']; exact hx))
        · have := ih.eq.2 (List.nodup_append.1 h).1; omega
    · rw [e, mget_mset] at h
      by_cases ea : a = a0
      · rw [if_pos ea] at h
        injection h with h
        exact ⟨k, by omega, by rw [ea]; exact ha0, h.symm⟩
      · rw [if_neg ea] at h
        obtain ⟨j, h1, h2, h3⟩ := ih.get a i h
        exact ⟨j, by omega, h2, h3⟩
/-- Every name stands once, and is there where it is asked. -/
def NamesOk (l : List Stp) : Prop := (l.map Stp.name).Nodup ∧ ∀ s ∈ l, ∀ a ∈ s.after, a ∈ l.map Stp.name
def enB (b : ByteArray) : List Value := [.string b]
theorem enB_len (b : ByteArray) : (enB b).length = 1 := rfl
/-- The steps' own lists are there. -/
structure OkSt (w : World) (s : Stp) : Prop where
  row : Rd w s.A (s.after.flatMap enB)
  len : s.after.length * 16 ≤ 140737488355328
theorem OkSt.next {w w' : World} {s : Stp} (h : OkSt w s) (hb : Below w.heap.size w w') : OkSt w' s := ⟨h.row.below hb, h.len⟩
def NamesR (l : List Stp) (w : World) (e : Ending) (w' : World) : Prop :=
  Below w.heap.size w w' ∧ ((NamesOk l ∧ ∃ B, e = .returned (.tuple #[.map (some B), .bool true]) ∧ IsMap w' B kS vN (mkN (l.map Stp.name) l.length) ∧ w.heap.size ≤ B) ∨ (¬ NamesOk l ∧ e = .returned (.tuple #[.map none, .bool false])))

theorem zeroN (w : World) : (zeroValue 3).run Tryz.prog w = .ok (vN 0) w := by kernel_rfl
theorem keyStr12 : KeyLaw Tryz.prog 9 kS := strKey Tryz.underlying9
set_option maxRecDepth 100000 in
set_option maxHeartbeats 16000000 in
theorem names_any (nm : ByteArray) (l : List Stp) (A : Option Addr) (cp : Nat) (w : World) (hR : Rd w A (l.flatMap enSt)) (hok : ∀ s ∈ l, OkSt w s) (hl : l.length ≤ 140737488355328) :
    Calls Tryz.prog 88 #[.agg #[.string nm, .slice A l.length cp]] w (NamesR l w) := by
  have hmm := @run_makeMap Tryz.prog
  have HOK := hid hok
  clear hok
  have hB0 := (Blk.new w 60 #[.string nm, .slice A l.length cp]).alloc (.map #[] 0)
  have hwa : Below w.heap.size w ((w.alloc (.cells #[.string nm, .slice A l.length cp] 60)).alloc (.map #[] 0)) := ((Below.refl _ _).alloc (Nat.le_refl _) _).alloc (by simp) _
  have hM0 := IsMap.made (w.alloc (.cells #[.string nm, .slice A l.length cp] 60)) kS vN
  rw [World.size_alloc] at hM0
  obtain ⟨W, hW⟩ : ∃ W, W = (w.alloc (.cells #[.string nm, .slice A l.length cp] 60)).alloc (.map #[] 0) := ⟨_, rfl⟩
  obtain ⟨D, hD⟩ : ∃ D, D = w.heap.size := ⟨_, rfl⟩
  rw [← hW] at hB0 hwa hM0
  rw [← hD] at hB0 hM0
  have HW := hid hW
  have HD := hid hD
  have HI := hid (And.intro hB0 (And.intro hM0 hwa))
  clear hB0 hwa hM0 hW hD
  go_enter Tryz.func88, Tryz.ntmps88
  go_upto_region 2 with fail
  rw [← HW.out, ← HD.out]
  have d1 : W.cell? ⟨D, 1, none⟩ = some (.slice A l.length cp) := HI.out.1.cell 1
  have lD := HI.out.1.lt
  clear hmm
  go_wp2_with fail
  clear d1 lD
  go_loopw [17] (fun i wr => ∃ k : Nat, k ≤ l.length ∧ i = .int .i64 k ∧ Hid (Blk wr D 60 #[.string nm, .slice A l.length cp] ∧ IsMap wr (D + 1) kS vN (mkN (l.map Stp.name) k) ∧ Below w.heap.size w wr)) (fun i _ => l.length - nOf i)
  case atStart => exact ⟨0, Nat.zero_le _, rfl, HI⟩
  case round =>
    clear HI
    obtain ⟨k, hk, rfl, HI⟩ := hrel
    by_cases hlt : k < l.length
    · obtain ⟨x, hx⟩ : ∃ x, l[k]? = some x := ⟨l[k], List.getElem?_eq_getElem hlt⟩
      obtain ⟨b, o, hAA, _, hcc⟩ := (hR.below HI.out.2.2).at_ 9 enSt_len (by omega) hx
      have HMK := hid (show mkN (l.map Stp.name) (k + 1) = mset (mkN (l.map Stp.name) k) x.name (k : Int) from mkN_succ (by rw [List.getElem?_map, hx]; rfl))
      obtain ⟨xn, xv, xu, xe, xf, xr, xy, xw, xA, xc, xl⟩ := x
      subst hAA
      have q0 : wr.cell? ⟨b, o + k * 9, none⟩ = some (.string xn) := hcc 0 _ rfl
      have q1 : wr.cell? ⟨b, o + k * 9 + 1, none⟩ = some (.string xv) := hcc 1 _ rfl
      have q2 : wr.cell? ⟨b, o + k * 9 + 2, none⟩ = some (.string xu) := hcc 2 _ rfl
      have q3 : wr.cell? ⟨b, o + k * 9 + 3, none⟩ = some (.string xe) := hcc 3 _ rfl
      have q4 : wr.cell? ⟨b, o + k * 9 + 4, none⟩ = some (.bool xf) := hcc 4 _ rfl
      have q5 : wr.cell? ⟨b, o + k * 9 + 5, none⟩ = some (.int .i64 xr) := hcc 5 _ rfl
      have q6 : wr.cell? ⟨b, o + k * 9 + 6, none⟩ = some (.int .i64 xy) := hcc 6 _ rfl
      have q7 : wr.cell? ⟨b, o + k * 9 + 7, none⟩ = some (.int .i64 xw) := hcc 7 _ rfl
      have q8 : wr.cell? ⟨b, o + k * 9 + 8, none⟩ = some (.slice xA xl.length xc) := hcc 8 _ rfl
      have hwb : Below wr.heap.size wr (wr.alloc (.cells #[.string xn, .string xv, .string xu, .string xe, .bool xf, .int .i64 xr, .int .i64 xy, .int .i64 xw, .slice xA xl.length xc] 69)) := (Below.refl _ _).alloc (Nat.le_refl _) _
      have HZ := hid (And.intro (HI.out.1.next hwb) (And.intro (HI.out.2.1.next hwb) (And.intro (bthen HI.out.2.2 hwb) (Blk.new wr 69 #[.string xn, .string xv, .string xu, .string xe, .bool xf, .int .i64 xr, .int .i64 xy, .int .i64 xw, .slice xA xl.length xc]))))
      clear hcc hx hwb HI
      go_upto_region 5 with fail
      clear q0 q1 q2 q3 q4 q5 q6 q7 q8
      obtain ⟨wz, hwz⟩ : ∃ wz, wz = wr.alloc (.cells #[.string xn, .string xv, .string xu, .string xe, .bool xf, .int .i64 xr, .int .i64 xy, .int .i64 xw, .slice xA xl.length xc] 69) := ⟨_, rfl⟩
      obtain ⟨G, hG⟩ : ∃ G, G = wr.heap.size := ⟨_, rfl⟩
      rw [← hwz, ← hG] at HZ
      rw [← hwz, ← hG]
      clear hwz hG
      have g0 : wz.cell? ⟨G, 0, none⟩ = some (.string xn) := HZ.out.2.2.2.cell 0
      have lG := HZ.out.2.2.2.lt
      go_wp2_with (first
        | (at_mapUpdate; refine wpList_store _ rfl _ _ _ 147 3 rfl keyStr12 Tryz.underlying147 (D + 1) (mkN (l.map Stp.name) k) rfl HZ.out.2.1 xn (k : Int) rfl rfl ?_; intro w5 hM5 hg5 hs5))
      have HF := hid (And.intro ((Touch.of_grown hg5).blk HZ.out.1 (fun e => HZ.out.2.1.notBlk HZ.out.1 (by omega))) (And.intro (show IsMap w5 (D + 1) kS vN (mkN (l.map Stp.name) (k + 1)) from by rw [HMK.out]; exact hM5) (grown_below hg5 HZ.out.2.2.1.size (by rw [HD.out]; omega))))
      have HF2 := hid (HZ.out.2.2.1.trans HF.out.2.2)
      clear hM5 hg5 hs5 g0 lG HMK
      go_roundw
      case rel => exact ⟨k + 1, by omega, by go_num, hid ⟨HF.out.1, HF.out.2.1, HF2.out⟩⟩
      case measure => simp [nOf]; omega
    · have hk' : k = l.length := by omega
      subst hk'
      clear hk hlt
      have hmk := mkN_ok (l.map Stp.name) l.length (by simp)
      have htk : (l.map Stp.name).take l.length = l.map Stp.name := List.take_of_length_le (by simp)
      have d1 : wr.cell? ⟨D, 1, none⟩ = some (.slice A l.length cp) := HI.out.1.cell 1
      have lD := HI.out.1.lt
      by_cases hnd : (mkN (l.map Stp.name) l.length).length = l.length
      · have hNn : (l.map Stp.name).Nodup := by have := hmk.eq.1 hnd; rwa [htk] at this
        have HK : Hid (∀ a, (mget (mkN (l.map Stp.name) l.length) a).isSome = true ↔ a ∈ l.map Stp.name) := hid (fun a => by rw [mget_isSome, hmk.key, htk])
        have HNN := hid hNn
        have tl : (((mkN (l.map Stp.name) l.length).length : Int) != (l.length : Int)) = false := by rw [hnd]; simp
        clear hmk htk hnd hNn
        go_wp2_with (first
          | (at_len; refine wpList_maplen _ rfl _ 147 3 rfl Tryz.underlying147 (D + 1) (mkN (l.map Stp.name) l.length) rfl HI.out.2.1 ?_))
        clear d1 lD tl
        go_loopw [36] (fun i wr => ∃ k : Nat, k ≤ l.length ∧ i = .int .i64 k ∧ Hid (∀ s ∈ l.take k, ∀ a ∈ s.after, a ∈ l.map Stp.name) ∧ Hid (Blk wr D 60 #[.string nm, .slice A l.length cp] ∧ IsMap wr (D + 1) kS vN (mkN (l.map Stp.name) l.length) ∧ Below w.heap.size w wr)) (fun i _ => l.length - nOf i)
        case atStart => exact ⟨0, Nat.zero_le _, rfl, hid (fun s hs => by simp at hs), HI⟩
        case round =>
          clear HI
          obtain ⟨k, hk, rfl, HA, HI⟩ := hrel
          by_cases hlt : k < l.length
          · obtain ⟨x, hx⟩ : ∃ x, l[k]? = some x := ⟨l[k], List.getElem?_eq_getElem hlt⟩
            obtain ⟨b, o, hAA, _, hcc⟩ := (hR.below HI.out.2.2).at_ 9 enSt_len (by omega) hx
            have HTK := hid (take_succ_of hx)
            have HXM := hid (List.mem_of_getElem? hx)
            have hrow := (HOK.out x (List.mem_of_getElem? hx)).row
            have hxl := (HOK.out x (List.mem_of_getElem? hx)).len
            obtain ⟨xn, xv, xu, xe, xf, xr, xy, xw, xA, xc, xl⟩ := x
            simp only at hrow hxl
            subst hAA
            have q0 : wr.cell? ⟨b, o + k * 9, none⟩ = some (.string xn) := hcc 0 _ rfl
            have q1 : wr.cell? ⟨b, o + k * 9 + 1, none⟩ = some (.string xv) := hcc 1 _ rfl
            have q2 : wr.cell? ⟨b, o + k * 9 + 2, none⟩ = some (.string xu) := hcc 2 _ rfl
            have q3 : wr.cell? ⟨b, o + k * 9 + 3, none⟩ = some (.string xe) := hcc 3 _ rfl
            have q4 : wr.cell? ⟨b, o + k * 9 + 4, none⟩ = some (.bool xf) := hcc 4 _ rfl
            have q5 : wr.cell? ⟨b, o + k * 9 + 5, none⟩ = some (.int .i64 xr) := hcc 5 _ rfl
            have q6 : wr.cell? ⟨b, o + k * 9 + 6, none⟩ = some (.int .i64 xy) := hcc 6 _ rfl
            have q7 : wr.cell? ⟨b, o + k * 9 + 7, none⟩ = some (.int .i64 xw) := hcc 7 _ rfl
            have q8 : wr.cell? ⟨b, o + k * 9 + 8, none⟩ = some (.slice xA xl.length xc) := hcc 8 _ rfl
            have hwb : Below wr.heap.size wr (wr.alloc (.cells #[.string xn, .string xv, .string xu, .string xe, .bool xf, .int .i64 xr, .int .i64 xy, .int .i64 xw, .slice xA xl.length xc] 69)) := (Below.refl _ _).alloc (Nat.le_refl _) _
            have HZ := hid (And.intro (HI.out.1.next hwb) (And.intro (HI.out.2.1.next hwb) (And.intro (bthen HI.out.2.2 hwb) (Blk.new wr 69 #[.string xn, .string xv, .string xu, .string xe, .bool xf, .int .i64 xr, .int .i64 xy, .int .i64 xw, .slice xA xl.length xc]))))
            clear hcc hx hwb HI
            go_upto_region 12 with fail
            clear q0 q1 q2 q3 q4 q5 q6 q7 q8
            obtain ⟨wz, hwz⟩ : ∃ wz, wz = wr.alloc (.cells #[.string xn, .string xv, .string xu, .string xe, .bool xf, .int .i64 xr, .int .i64 xy, .int .i64 xw, .slice xA xl.length xc] 69) := ⟨_, rfl⟩
            obtain ⟨G, hG⟩ : ∃ G, G = wr.heap.size := ⟨_, rfl⟩
            rw [← hwz, ← hG] at HZ
            rw [← hwz, ← hG]
            clear hwz hG
            have g8 : wz.cell? ⟨G, 8, none⟩ = some (.slice xA xl.length xc) := HZ.out.2.2.2.cell 8
            have lG := HZ.out.2.2.2.lt
            have HROW := hid hrow
            clear hrow
            go_wp2_with fail
            clear g8 lG
            have lk : ∀ a, (Instr.lookup 147 (.map (some (D + 1))) (.string a) true).run Tryz.prog wz = .ok (.tuple #[looked (vN 0) vN (mkN (l.map Stp.name) l.length) a, .bool (mget (mkN (l.map Stp.name) l.length) a).isSome]) wz := fun a => HZ.out.2.1.lookOk keyStr12 Tryz.underlying147 (zeroN _) a
            go_loop [43] (fun i => ∃ j : Nat, j ≤ xl.length ∧ i = .int .i64 j ∧ Hid (∀ a ∈ xl.take j, a ∈ l.map Stp.name)) (fun i => xl.length - nOf i)
            case atStart => exact ⟨0, Nat.zero_le _, rfl, hid (fun a ha => by simp at ha)⟩
            case round =>
              obtain ⟨j, hj, rfl, HJ⟩ := hrel
              by_cases hjl : j < xl.length
              · obtain ⟨y, hy⟩ : ∃ y, xl[j]? = some y := ⟨xl[j], List.getElem?_eq_getElem hjl⟩
                obtain ⟨b2, o2, hA2, _, hc2⟩ := (HROW.out.below HZ.out.2.2.1).at_ 1 enB_len (by omega) hy
                subst hA2
                have q0 : wz.cell? ⟨b2, o2 + j * 1, none⟩ = some (.string y) := hc2 0 _ rfl
                rw [Nat.mul_one] at q0
                have lky := lk y
                have HTJ := hid (take_succ_of hy)
                have HYM := hid (List.mem_of_getElem? hy)
                clear hc2 hy
                cases hs : (mget (mkN (l.map Stp.name) l.length) y).isSome with
                | true =>
                  have HIN := hid ((HK.out y).1 hs)
                  rw [hs] at lky
                  clear hs lk
                  go_wp2_with fail
                  go_round
                  case rel => exact ⟨j + 1, by omega, by go_num, hid (fun a ha => by
                    rw [HTJ.out] at ha
                    rcases List.mem_append.1 ha with ha | ha
                    · exact HJ.out a ha
                    · simp at ha; subst ha; exact HIN.out)⟩
                  case measure => simp [nOf]; omega
                | false =>
                  have HNO := hid (show ¬ NamesOk l from fun h => by
                    have h1 := h.2 _ HXM.out y HYM.out
                    have h2 := (HK.out y).2 h1
                    rw [hs] at h2
                    cases h2)
                  rw [hs] at lky
                  clear hs lk
                  go_wp2_with fail
                  go_ret2
                  exact ⟨HZ.out.2.2.1, .inr ⟨HNO.out, rfl⟩⟩
              · have hj' : j = xl.length := by omega
                subst hj'
                have HAN := hid (show ∀ s ∈ l.take (k + 1), ∀ a ∈ s.after, a ∈ l.map Stp.name from fun s hs a ha => by
                  rw [HTK.out] at hs
                  rcases List.mem_append.1 hs with hs | hs
                  · exact HA.out s hs a ha
                  · simp at hs
                    subst hs
                    have := HJ.out
                    rw [List.take_length] at this
                    exact this a ha)
                clear lk hj hjl
                go_wp2_with fail
                go_roundw
                case rel => exact ⟨k + 1, by omega, by go_num, HAN, hid ⟨HZ.out.1, HZ.out.2.1, HZ.out.2.2.1⟩⟩
                case measure => simp [nOf]; omega
          · have hk' : k = l.length := by omega
            subst hk'
            clear hk hlt
            have HOKN := hid (show NamesOk l from ⟨HNN.out, fun s hs => HA.out s (by rw [List.take_length]; exact hs)⟩)
            go_wp2_with fail
            go_ret2
            exact ⟨HI.out.2.2, .inl ⟨HOKN.out, D + 1, rfl, HI.out.2.1, by have := HD.out; omega⟩⟩
      · have tl : (((mkN (l.map Stp.name) l.length).length : Int) != (l.length : Int)) = true := by simp; omega
        have HNO := hid (show ¬ NamesOk l from fun h => hnd (hmk.eq.2 (by rw [htk]; exact h.1)))
        clear hmk htk hnd
        go_wp2_with (first
          | (at_len; refine wpList_maplen _ rfl _ 147 3 rfl Tryz.underlying147 (D + 1) (mkN (l.map Stp.name) l.length) rfl HI.out.2.1 ?_))
        go_ret2
        exact ⟨HI.out.2.2, .inr ⟨HNO.out, rfl⟩⟩

end Go.Proofs.YtoemmakhbiiknaaGreat

namespace Go.Proofs.YtoemmakhbiiknaaGreat
open Go.RowKit Go.WideShapes Go.ChangeShapes Go.ChangeAt Go.Deep
set_option linter.unusedVariables false

def isNm (a : ByteArray) (s : Stp) : Bool := s.name.toList == a.toList
set_option maxRecDepth 100000 in
set_option maxHeartbeats 16000000 in
theorem rfind12 (nm a : ByteArray) (l : List Stp) (A : Option Addr) (cp : Nat) (w : World) (hR : Rd w A (l.flatMap enSt)) (hl : l.length ≤ 140737488355328) :
    Calls Tryz.prog 96 #[.agg #[.string nm, .slice A l.length cp], .string a] w fun e w' => e = .returned (.int .i64 (plc (isNm a) l)) ∧ Below w.heap.size w w' := by
  have hB0 := Blk.new w 86 #[.string nm, .slice A l.length cp]
  have hwa : Below w.heap.size w (w.alloc (.cells #[.string nm, .slice A l.length cp] 86)) := (Below.refl _ _).alloc (Nat.le_refl _) _
  obtain ⟨W, hW⟩ : ∃ W, W = w.alloc (.cells #[.string nm, .slice A l.length cp] 86) := ⟨_, rfl⟩
  obtain ⟨D, hD⟩ : ∃ D, D = w.heap.size := ⟨_, rfl⟩
  rw [← hW] at hB0 hwa
  rw [← hD] at hB0
  have HW := hid hW
  have HD := hid hD
  have HB := hid hwa
  have hRW := hR.below hwa
  have d1 : W.cell? ⟨D, 1, none⟩ = some (.slice A l.length cp) := hB0.cell 1
  have lD := hB0.lt
  clear hW hD hwa hB0
  go_enter Tryz.func96, Tryz.ntmps96
  go_upto_region 1 with fail
  rw [← HW.out, ← HD.out]
  go_wp2_with fail
  go_loop [5] (fun i => ∃ k : Nat, k ≤ l.length ∧ i = .int .i64 k ∧ Hid (∀ j y, j < k → l[j]? = some y → isNm a y = false)) (fun i => l.length - nOf i)
  case atStart => exact ⟨0, Nat.zero_le _, rfl, hid (fun j y hj => by omega)⟩
  case round =>
    obtain ⟨k, hk, rfl, hP⟩ := hrel
    by_cases hlt : k < l.length
    · obtain ⟨y, hy⟩ : ∃ y, l[k]? = some y := ⟨l[k], List.getElem?_eq_getElem hlt⟩
      obtain ⟨b, o, hAA, _, hcc⟩ := hRW.at_ 9 enSt_len (by omega) hy
      subst hAA
      have q0 : W.cell? ⟨b, o + k * 9, none⟩ = some (.string y.name) := hcc 0 _ rfl
      have HY := hid hy
      clear hcc hy
      cases hs : isNm a y with
      | true =>
        have HV := hid (plc_some (p := isNm a) HY.out hs hP.out)
        have ts : (y.name.toList == a.toList) = true := hs
        clear hs hP HY
        go_wp2_with fail
        go_ret
        exact ⟨by rw [HV.out]; rfl, HB.out⟩
      | false =>
        have ts : (y.name.toList == a.toList) = false := hs
        have HS := hid hs
        clear hs
        go_wp2_with fail
        go_round
        case rel => exact ⟨k + 1, by omega, by go_num, hid (fun j z hj hz => by
          by_cases e : j = k
          · subst e; rw [HY.out] at hz; injection hz with hz; subst hz; exact HS.out
          · exact hP.out j z (by omega) hz)⟩
        case measure => simp [nOf]; omega
    · have HV := hid (plc_none (p := isNm a) (l := l) (fun y hy => by
        obtain ⟨j, hj⟩ := List.mem_iff_getElem?.1 hy
        exact hP.out j y (by have := (List.getElem?_eq_some_iff.1 hj).1; omega) hj))
      clear hP
      go_wp2_with fail
      go_ret
      exact ⟨by rw [HV.out]; rfl, HB.out⟩

end Go.Proofs.YtoemmakhbiiknaaGreat

namespace Go.Proofs.YtoemmakhbiiknaaGreat
open Go.RowKit
set_option linter.unusedVariables false

/-- The steps' numbers for which each waits. -/
def grf (l : List Stp) : List (List Nat) := l.map fun s => s.after.map fun a => l.findIdx (isNm a)
theorem grf_len (l : List Stp) : (grf l).length = l.length := by simp [grf]
theorem bytes_eq_of {a b : ByteArray} (h : (a.toList == b.toList) = true) : a = b := by
  have h1 := bytes_beq a b
  rw [beq_toListBytes, h] at h1
  exact of_decide_eq_true h1.symm
theorem isNm_iff (a : ByteArray) (s : Stp) : isNm a s = true ↔ s.name = a := by
  constructor
  · exact bytes_eq_of
  · intro h; unfold isNm; rw [h]; simp
theorem grf_adj {l : List Stp} {i : Nat} {s : Stp} (h : l[i]? = some s) : adj (grf l) i = s.after.map fun a => l.findIdx (isNm a) := by
  unfold adj grf
  rw [List.getD_eq_getElem?_getD, List.getElem?_map, h]
  rfl
theorem NamesOk.idx {l : List Stp} (h : NamesOk l) {a : ByteArray} (ha : a ∈ l.map Stp.name) : ∃ s, l[l.findIdx (isNm a)]? = some s ∧ s.name = a ∧ l.findIdx (isNm a) < l.length := by
  obtain ⟨s, hs, e⟩ := List.mem_map.1 ha
  have hlt : l.findIdx (isNm a) < l.length := List.findIdx_lt_length_of_exists ⟨s, hs, (isNm_iff a s).2 e⟩
  refine ⟨l[l.findIdx (isNm a)], List.getElem?_eq_getElem hlt, ?_, hlt⟩
  exact (isNm_iff a _).1 (List.findIdx_getElem (w := hlt))
theorem grf_shut {l : List Stp} (h : NamesOk l) : Shut (grf l) := by
  intro i k hk
  rw [grf_len]
  by_cases hi : i < l.length
  · rw [grf_adj (List.getElem?_eq_getElem hi)] at hk
    obtain ⟨a, ha, e⟩ := List.mem_map.1 hk
    obtain ⟨_, _, _, hlt⟩ := h.idx (h.2 _ (List.getElem_mem hi) a ha)
    rw [← e]
    exact hlt
  · rw [adj_out (by rw [grf_len]; omega)] at hk
    cases hk
/-- The number by the name: the program's map and the first that bears the name are one. -/
theorem mkN_idx {l : List Stp} (h : NamesOk l) {a : ByteArray} (ha : a ∈ l.map Stp.name) : mget (mkN (l.map Stp.name) l.length) a = some ((l.findIdx (isNm a) : Nat) : Int) := by
  have hm := mkN_ok (l.map Stp.name) l.length (by simp)
  have htk : (l.map Stp.name).take l.length = l.map Stp.name := List.take_of_length_le (by simp)
  have hs : (mget (mkN (l.map Stp.name) l.length) a).isSome = true := by rw [mget_isSome, hm.key, htk]; exact ha
  obtain ⟨i, hi⟩ := Option.isSome_iff_exists.1 hs
  obtain ⟨j, hj, hja, e⟩ := hm.get a i hi
  obtain ⟨s, h1, h2, h3⟩ := h.idx ha
  have hjn : (l.map Stp.name)[l.findIdx (isNm a)]? = some a := by rw [List.getElem?_map, h1]; simp [h2]
  have : j = l.findIdx (isNm a) := (List.getElem?_inj (by simpa using hj) h.1).1 (by rw [hja, hjn])
  rw [hi, e, this]

/-- The table as cells. -/
def tabC (n : Nat) (T : Nat → Nat → Bool) : Array Value := (Array.range (n * n)).map fun x : Nat => Value.bool (T (x / n) (x % n))
theorem tabC_size (n : Nat) (T : Nat → Nat → Bool) : (tabC n T).size = n * n := by simp [tabC]
theorem tab_lt {n i k : Nat} (hi : i < n) (hk : k < n) : i * n + k < n * n := by
  have : (i + 1) * n ≤ n * n := Nat.mul_le_mul_right n hi
  rw [Nat.add_mul] at this
  omega
theorem tab_div {n i k : Nat} (hk : k < n) : (i * n + k) / n = i ∧ (i * n + k) % n = k := by
  have hn : 0 < n := by omega
  constructor
  · rw [Nat.add_comm, Nat.add_mul_div_right _ _ hn, Nat.div_eq_of_lt hk]; omega
  · rw [Nat.add_comm, Nat.add_mul_mod_self_right, Nat.mod_eq_of_lt hk]
theorem tabC_at {n i k : Nat} (T : Nat → Nat → Bool) (hi : i < n) (hk : k < n) : (tabC n T)[i * n + k]? = some (.bool (T i k)) := by
  unfold tabC
  rw [Array.getElem?_map, Array.getElem?_range, if_pos (tab_lt hi hk)]
  simp only [Option.map_some, (tab_div hk).1, (tab_div hk).2]
theorem tabC_set {n i k : Nat} (T : Nat → Nat → Bool) (hi : i < n) (hk : k < n) : (tabC n T).setIfInBounds (i * n + k) (.bool true) = tabC n (putT T i k) := by
  apply Array.ext
  · simp [tabC]
  · intro x h1 h2
    have hx : x < n * n := by rw [tabC_size] at h2; exact h2
    have hn : 0 < n := by omega
    rw [Array.getElem_setIfInBounds (by rw [tabC_size]; exact hx)]
    · split
      · rename_i e
        subst e
        simp [tabC, putT, (tab_div hk).1, (tab_div hk).2]
      · rename_i e
        have hne : ¬ (x / n = i ∧ x % n = k) := fun hh => e (by rw [← hh.1, ← hh.2, Nat.mul_comm]; exact Nat.div_add_mod x n)
        simp [tabC, putT, hne]

end Go.Proofs.YtoemmakhbiiknaaGreat

namespace Go.Proofs.YtoemmakhbiiknaaGreat
open Go.RowKit Go.Deep
set_option linter.unusedVariables false

abbrev ZMap := List (Int × Int)
theorem sub_lenG {α : Type} [DecidableEq α] : ∀ {a b : List α}, a.Nodup → (∀ x ∈ a, x ∈ b) → a.length ≤ b.length
  | [], b, _, _ => by simp
  | x :: a, b, hd, hs => by
    have hd2 := List.nodup_cons.1 hd
    have h1 := sub_lenG (a := a) (b := b.erase x) hd2.2 (fun y hy => (List.mem_erase_of_ne (fun (e : y = x) => hd2.1 (by rw [← e]; exact hy))).2 (hs y (by simp [hy])))
    have h2 := List.length_erase_of_mem (hs x (by simp))
    have h3 := List.length_pos_of_mem (hs x (by simp))
    simp; omega
/-- The set of step i, whole. -/
structure SetOk (G : List (List Nat)) (i : Nat) (mm : ZMap) : Prop where
  key : ∀ z : Int, z ∈ mm.map (·.1) ↔ ∃ k : Nat, z = (k : Int) ∧ Rch G i k
  pos : ∀ p ∈ mm, 1 ≤ p.2
  clean : Clean G i
theorem SetOk.len {G : List (List Nat)} {i : Nat} {mm : ZMap} (h : SetOk G i mm) (hs : Shut G) (hd : (mm.map (·.1)).Nodup) : mm.length ≤ G.length := by
  have h1 := sub_lenG (b := (List.range G.length).map fun k : Nat => (k : Int)) hd (fun z hz => by
    obtain ⟨k, rfl, hr⟩ := (h.key z).1 hz
    exact List.mem_map.2 ⟨k, List.mem_range.2 (hr.lt hs).2, rfl⟩)
  simpa using h1
/-- .. bs far bs those behind the first few; c bounds its counts. -/
structure SetIn (G : List (List Nat)) (bs : List Nat) (c : Int) (mm : ZMap) : Prop where
  key : ∀ z : Int, z ∈ mm.map (·.1) ↔ ∃ k : Nat, z = (k : Int) ∧ Part G bs k
  bd : ∀ p ∈ mm, 1 ≤ p.2 ∧ p.2 ≤ c
theorem SetIn.nil (G : List (List Nat)) : SetIn G [] 0 [] := ⟨fun z => ⟨fun h => (by cases h), fun ⟨k, _, h⟩ => (part_nil h).elim⟩, fun p h => (by cases h)⟩
theorem SetIn.all {G : List (List Nat)} {i : Nat} {c : Int} {mm : ZMap} (h : SetIn G (adj G i) c mm) (hc : ∀ j ∈ adj G i, Clean G j) : SetOk G i mm :=
  ⟨fun z => by rw [h.key]; exact ⟨fun ⟨k, e, p⟩ => ⟨k, e, part_all.1 p⟩, fun ⟨k, e, p⟩ => ⟨k, e, part_all.2 p⟩⟩, fun p hp => (h.bd p hp).1, clean_of hc⟩
/-- .. while the set behind step k0 is added. -/
structure SetAdd (G : List (List Nat)) (bs : List Nat) (k0 : Nat) (dn : ZMap) (c : Int) (mm : ZMap) : Prop where
  key : ∀ z : Int, z ∈ mm.map (·.1) ↔ (∃ k : Nat, z = (k : Int) ∧ Part G bs k) ∨ z = (k0 : Int) ∨ z ∈ dn.map (·.1)
  bd : ∀ p ∈ mm, 1 ≤ p.2 ∧ p.2 ≤ c + 1 + dn.length
theorem mset_key_iff {m : ZMap} {a b z : Int} : z ∈ (mset m a b).map (·.1) ↔ z = a ∨ z ∈ m.map (·.1) := by
  rw [mset_keys]
  split
  · rename_i h
    exact ⟨.inr, fun h' => h'.elim (fun e => e ▸ h) id⟩
  · rw [List.mem_append]
    simp only [List.mem_cons, List.not_mem_nil, or_false]
    exact Or.comm
theorem getD_bd {m : ZMap} {a lo hi : Int} (h : ∀ p ∈ m, lo ≤ p.2 ∧ p.2 ≤ hi) (hl : lo ≤ 1) (h0 : 0 ≤ hi) (hlo : 0 ≤ lo) : 0 ≤ (mget m a).getD 0 ∧ (mget m a).getD 0 ≤ hi := by
  cases e : mget m a with
  | none => exact ⟨Int.le_refl _, h0⟩
  | some b =>
    have := h _ (mget_mem e)
    simp only [Option.getD_some]
    simp only at this
    omega
theorem SetIn.start {G : List (List Nat)} {bs : List Nat} {c : Int} {mm : ZMap} (h : SetIn G bs c mm) (hc : 0 ≤ c) (k0 : Nat) : SetAdd G bs k0 [] c (mset mm (k0 : Int) ((mget mm (k0 : Int)).getD 0 + 1)) := by
  have hv := getD_bd (a := (k0 : Int)) h.bd (Int.le_refl _) hc (by omega)
  refine ⟨fun z => ?_, fun p hp => ?_⟩
  · rw [mset_key_iff, h.key]
    simp only [List.map_nil, List.not_mem_nil, or_false]
    exact Or.comm
  · simp only [List.length_nil]
    rcases mem_mset hp with rfl | ⟨hp, _⟩
    · simp only; omega
    · have := h.bd p hp; omega
theorem SetAdd.next {G : List (List Nat)} {bs : List Nat} {k0 : Nat} {dn : ZMap} {c : Int} {mm : ZMap} (h : SetAdd G bs k0 dn c mm) (hc : 0 ≤ c) (z v : Int) : SetAdd G bs k0 (dn ++ [(z, v)]) c (mset mm z ((mget mm z).getD 0 + 1)) := by
  have hv := getD_bd (a := z) h.bd (Int.le_refl _) (by omega) (by omega)
  refine ⟨fun y => ?_, fun p hp => ?_⟩
  · rw [mset_key_iff, h.key, List.map_append, List.mem_append]
    simp only [List.map_cons, List.map_nil, List.mem_cons, List.not_mem_nil, or_false]
    constructor
    · rintro (h | h | h | h)
      · exact .inr (.inr (.inr h))
      · exact .inl h
      · exact .inr (.inl h)
      · exact .inr (.inr (.inl h))
    · rintro (h | h | h | h)
      · exact .inr (.inl h)
      · exact .inr (.inr (.inl h))
      · exact .inr (.inr (.inr h))
      · exact .inl h
  · simp only [List.length_append, List.length_cons, List.length_nil]
    rcases mem_mset hp with rfl | ⟨hp, _⟩
    · simp only; omega
    · have := h.bd p hp; omega
theorem SetAdd.done {G : List (List Nat)} {bs : List Nat} {k0 : Nat} {dn mk : ZMap} {c n : Int} {mm : ZMap} (h : SetAdd G bs k0 dn c mm) (hp : dn.Perm mk) (hk : SetOk G k0 mk) (hn : (mk.length : Int) ≤ n) : SetIn G (bs ++ [k0]) (c + 1 + n) mm := by
  refine ⟨fun z => ?_, fun p hp2 => ?_⟩
  · rw [h.key]
    have hm : z ∈ dn.map (·.1) ↔ z ∈ mk.map (·.1) := (hp.map _).mem_iff
    rw [hm, hk.key]
    constructor
    · rintro (⟨k, e, p⟩ | e | ⟨k, e, p⟩)
      · exact ⟨k, e, part_snoc.2 (.inl p)⟩
      · exact ⟨k0, e, part_snoc.2 (.inr (.inl rfl))⟩
      · exact ⟨k, e, part_snoc.2 (.inr (.inr p))⟩
    · rintro ⟨k, e, p⟩
      rcases part_snoc.1 p with p | p | p
      · exact .inl ⟨k, e, p⟩
      · subst p; exact .inr (.inl e)
      · exact .inr (.inr ⟨k, e, p⟩)
  · have h1 := h.bd p hp2
    have h2 := hp.length_eq
    omega
/-! ### n cells, one a step -/
def rngC (n : Nat) (f : Nat → Value) : Array Value := (Array.range n).map f
theorem rngC_size (n : Nat) (f : Nat → Value) : (rngC n f).size = n := by simp [rngC]
theorem rngC_at {n i : Nat} (f : Nat → Value) (hi : i < n) : (rngC n f)[i]? = some (f i) := by
  unfold rngC
  rw [Array.getElem?_map, Array.getElem?_range, if_pos hi]
  rfl
theorem rngC_set {n i : Nat} (f : Nat → Value) (v : Value) (hi : i < n) : (rngC n f).setIfInBounds i v = rngC n (fun j => if j = i then v else f j) := by
  apply Array.ext
  · simp [rngC]
  · intro x h1 h2
    have hx : x < n := by rw [rngC_size] at h2; exact h2
    rw [Array.getElem_setIfInBounds (by rw [rngC_size]; exact hx)]
    simp only [rngC, Array.getElem_map, Array.getElem_range]
    by_cases e : i = x
    · rw [if_pos e, if_pos e.symm]
    · rw [if_neg e, if_neg (fun h => e h.symm)]
/-- How many are not open. -/
def shutN (n : Nat) (O : Nat → Bool) : Nat := ((List.range n).filter fun j => !O j).length
def opn (O : Nat → Bool) (i : Nat) : Nat → Bool := fun j => if j = i then true else O j
theorem shutN_lt {n i : Nat} {O : Nat → Bool} (hi : i < n) (h : O i = false) : shutN n (opn O i) < shutN n O := by
  unfold shutN
  refine filter_lt (a := i) (fun k _ hk => ?_) (List.mem_range.2 hi) (by simp [h]) (by simp [opn])
  simp only [opn] at hk
  by_cases e : k = i
  · simp [e] at hk
  · simpa [e] using hk
/-- What is known of the steps: where a set's map lies, and what it holds. -/
abbrev Sets := Nat → Option (Nat × ZMap)
def setV : Option (Nat × ZMap) → Value
  | none => .map none
  | some (g, _) => .map (some g)
def putS (S : Sets) (i g : Nat) (mm : ZMap) : Sets := fun j => if j = i then some (g, mm) else S j
theorem putS_at (S : Sets) (i g : Nat) (mm : ZMap) : putS S i g mm i = some (g, mm) := by simp [putS]
theorem setC_putS {n i g : Nat} {S : Sets} {mm : ZMap} (hi : i < n) : (rngC n fun j => setV (S j)).setIfInBounds i (.map (some g)) = rngC n fun j => setV (putS S i g mm j) := by
  rw [rngC_set _ _ hi]
  congr 1
  funext j
  unfold putS
  split <;> rfl
theorem opnC_set {n i : Nat} {O : Nat → Bool} (hi : i < n) (b : Bool) : (rngC n fun j => .bool (O j)).setIfInBounds i (.bool b) = rngC n fun j => .bool (if j = i then b else O j) := by
  rw [rngC_set _ _ hi]
  congr 1
  funext j
  split <;> rfl

end Go.Proofs.YtoemmakhbiiknaaGreat

namespace Go.Proofs.YtoemmakhbiiknaaGreat
open Go.RowKit
set_option linter.unusedVariables false

section
variable {P : Program} {ops : Array Oper} {md : Region.Mode} {C : World → Prop}

/-- What an operation does in a world of the class: v, and a world of the class. -/
def inUpon (P : Program) (C : World → Prop) (v : Value) : Result Next → Prop
  | .ok (.value u) w' => C w' ∧ u = v
  | .ok .skip w' => C w' ∧ v = undef
  | .ok (.enter f args) w' => Calls P f args w' (fun e w'' => e = .returned v ∧ C w'')
  | _ => False
def inAt (P : Program) (C : World → Prop) (o : Oper) (a : Act) (v : Value) : Prop := ∀ w, C w → inUpon P C v ((execOp a.eval o).run P w)
def yld (P : Program) (ops : Array Oper) (C : World → Prop) (o : Oper) (v : Value) (a : Act) : Prop :=
  (Region.wanted o (yielded ops a.tmps) = true ∧ inAt P C o a v) ∨ (Region.wanted o (yielded ops a.tmps) = false ∧ v = undef)

theorem yld.same {o : Oper} {v : Value} {a a' : Act} (h : yld P ops C o v a) (he : execOp a'.eval o = execOp a.eval o) (hw : Region.wanted o (yielded ops a'.tmps) = Region.wanted o (yielded ops a.tmps)) : yld P ops C o v a' := by
  unfold yld inAt at *
  rw [he, hw]
  exact h

/-- Any order of the operations ahead of number n. -/
def anyC (P : Program) (md : Region.Mode) (ops : Array Oper) (C : World → Prop) (n : Nat) (L : Array Bool → Act → Prop) : Nat → Array Bool → Act → Prop
  | 0, listed, a => L listed a
  | f + 1, listed, a => Region.ready md ops listed ≠ [] ∧ ∀ i ∈ Region.ready md ops listed, i < n ∧ ∃ o v, ops[i]? = some o ∧ yld P ops C o v a ∧ anyC P md ops C n L f (listed.setIfInBounds i true) (a.put o.dst v)

theorem wp_of_yld {o : Oper} {v : Value} {a : Act} {w : World} {i : Nat} {K : Act → World → Prop} {Q' : Exit → Act → World → Prop} (hi : ops[i]? = some o) (hC : C w) (hy : yld P ops C o v a) (hK : ∀ w', C w' → K (a.put o.dst v) w') : wpOp P ops Q' i K a w := by
  unfold wpOp
  simp only [hi]
  rcases hy with ⟨hw, hv⟩ | ⟨hw, rfl⟩
  · simp only [hw, if_true]
    left
    have h1 := hv w hC
    unfold Oper.wp
    generalize (execOp a.eval o).run P w = r at *
    cases r with
    | ok n w' =>
      cases n <;> simp only [inUpon] at h1 <;> simp only [Oper.upon]
      case value u => obtain ⟨c1, rfl⟩ := h1; exact hK _ c1
      case skip => obtain ⟨c1, rfl⟩ := h1; exact hK _ c1
      case enter f args => exact h1.mono fun e w'' ⟨he, hw''⟩ => by subst he; exact hK _ hw''
    | halt x w' => simp only [inUpon] at h1
  · simp only [hw, Bool.false_eq_true, if_false]
    exact hK _ hC

theorem any_of_anyC {n g : Nat} {L : Array Bool → Act → Prop} {Q' : Exit → Act → World → Prop} (hL : ∀ listed a w, C w → L listed a → wpAny P md ops Q' g listed a w) :
    ∀ (f : Nat) (listed : Array Bool) (a : Act) (w : World), C w → anyC P md ops C n L f listed a → wpAny P md ops Q' (f + g) listed a w := by
  intro f
  induction f with
  | zero => intro listed a w hC h; rw [Nat.zero_add]; exact hL _ _ _ hC h
  | succ f ih =>
    intro listed a w hC h
    rw [show f + 1 + g = (f + g) + 1 from by omega]
    refine ⟨fun h0 => absurd h0 h.1, fun i hi => ?_⟩
    obtain ⟨_, o, v, h1, h2, h3⟩ := h.2 i hi
    exact wp_of_yld h1 hC h2 (fun w' hw' => ih _ _ _ hw' h3)

theorem anyC_first {n i : Nat} {oi : Oper} {v : Value} {L : Array Bool → Act → Prop} (hi : ops[i]? = some oi) (hsel : ∀ (j : Nat) (o : Oper) cs b, ops[j]? = some o → o.op ≠ .select cs b)
    (hs : Region.sinkB md ops n = true) (hc : Region.chainB md ops n = true) (hn : n < ops.size) (hin : i < n) (hdone : ∀ listed a, L listed a → ∀ j ∈ Region.ready md ops listed, n ≤ j) :
    ∀ (f : Nat) (listed : Array Bool) (a : Act), HeadInv md ops n listed →
      (∀ j oj, ops[j]? = some oj → j ≠ i → listed.getD j true = false → (∀ e ∈ oj.after, Region.binds md e = true → e.on ≠ i) → oi.apart ops oj = true) →
      i ∈ Region.ready md ops listed → yld P ops C oi v a → anyC P md ops C n L f (listed.setIfInBounds i true) (a.put oi.dst v) → anyC P md ops C n L (f + 1) listed a := by
  intro f
  induction f with
  | zero =>
    intro listed a inv _ hr hy H
    have hun := (mem_ready.1 hr).1
    refine ⟨fun h => (by rw [h] at hr; cases hr), fun j hj => ?_⟩
    have hjn : j < n := Nat.lt_of_not_le fun h => tail_waits hs hc hn inv _ i rfl hin hun j h hj
    by_cases hji : j = i
    · subst hji
      exact ⟨hjn, oi, v, hi, hy, H⟩
    · have := hdone _ _ H j (ready_mono hj hji)
      omega
  | succ f ih =>
    intro listed a inv hfree hr hy H
    have hun := (mem_ready.1 hr).1
    refine ⟨fun h => (by rw [h] at hr; cases hr), fun j hj => ?_⟩
    have hjn : j < n := Nat.lt_of_not_le fun h => tail_waits hs hc hn inv _ i rfl hin hun j h hj
    by_cases hji : j = i
    · subst hji
      exact ⟨hjn, oi, v, hi, hy, H⟩
    · obtain ⟨_, oj', vj, hoj, hyj, hrest⟩ := H.2 j (ready_mono hj hji)
      obtain ⟨hjun, oj, hoj2, hall⟩ := mem_ready.1 hj
      obtain rfl : oj' = oj := Option.some.inj (hoj.symm.trans hoj2)
      have hno : ∀ e ∈ oj'.after, Region.binds md e = true → e.on ≠ i := fun e he hb heq => by
        have h1 := hall e he hb
        rw [heq, getD_both hun] at h1
        cases h1
      obtain ⟨a1, a2, a3⟩ := Oper.apart_spec (hfree j oj' hoj hji hjun hno)
      have hyj' : yld P ops C oj' vj a := by
        refine hyj.same ?_ ?_
        · rw [execOp_put oj' (fun cs b => hsel j oj' cs b hoj) a oi.dst v a1]
        · rw [wanted_put oj' a oi.dst v a1]
      have hyi' : yld P ops C oi v (a.put oj'.dst vj) := by
        refine hy.same ?_ ?_
        · exact execOp_put oi (fun cs b => hsel i oi cs b hi) a oj'.dst vj a3
        · exact wanted_put oi a oj'.dst vj a3
      refine ⟨hjn, oj', vj, hoj, hyj', ih (listed.setIfInBounds j true) (a.put oj'.dst vj) (inv.set hj hjn) (fun k ok hk hki hun' hno' => ?_) (ready_mono hr (Ne.symm hji)) hyi' ?_⟩
      · refine hfree k ok hk hki ?_ hno'
        by_cases hjk : j = k
        · subst hjk; exact hjun
        · rw [getD_set_ne true hjk] at hun'; exact hun'
      · rw [Array.setIfInBounds_comm _ _ hji, ← Act.put_comm a v vj a2]
        exact hrest

/-- The walk in the text's order. -/
def wpIn (P : Program) (ops : Array Oper) (C : World → Prop) (Q : Act → Prop) : List Oper → Act → Prop
  | [], a => Q a
  | o :: rest, a => ∃ v, yld P ops C o v a ∧ wpIn P ops C Q rest (a.put o.dst v)

theorem wpIn_of_quiet {Q : Act → Prop} {r : List Oper} : ∀ (l : List Oper) (a : Act), wpQuiet P ops C (wpIn P ops C Q r) l a → wpIn P ops C Q (l ++ r) a := by
  intro l
  induction l with
  | nil => intro a h; exact h
  | cons o l ih =>
    intro a h
    simp only [wpQuiet] at h
    by_cases hw : Region.wanted o (yielded ops a.tmps) = true
    · simp only [hw, if_true] at h
      obtain ⟨v, h1, h2⟩ := h
      refine ⟨v, .inl ⟨hw, fun w hC => ?_⟩, ih _ h2⟩
      have h3 := h1 w hC
      unfold Oper.quietAt at h3
      generalize (execOp a.eval o).run P w = r' at *
      cases r' with
      | ok n w' =>
        cases n <;> simp only [Oper.quietUpon] at h3 <;> simp only [inUpon]
        case value u => obtain ⟨rfl, rfl⟩ := h3; exact ⟨hC, rfl⟩
        case skip => obtain ⟨rfl, rfl⟩ := h3; exact ⟨hC, rfl⟩
        case enter f args => obtain ⟨rfl, h4⟩ := h3; exact h4
      | halt x w' => simp only [Oper.quietUpon] at h3
    · simp only [hw] at h
      exact ⟨undef, .inr ⟨by simpa using hw, rfl⟩, ih _ h⟩

theorem anyC_lex {n g : Nat} {Lq : Act → Prop} (hsel : Region.noSelect ops = true) (hs : Region.sinkB md ops n = true) (hc : Region.chainB md ops n = true) (hn : n < ops.size) :
    ∀ (l : List Oper) (k : Nat) (listed : Array Bool) (a : Act), (∀ j, j < l.length → l[j]? = ops[k + j]?) → k + l.length = n → HeadInv md ops n listed → Region.lexHead md ops g l.length k listed = true → wpIn P ops C Lq l a →
    anyC P md ops C n (fun listed' a' => Region.seqB md ops g n listed' = true ∧ Lq a') l.length listed a := by
  intro l
  induction l with
  | nil =>
    intro k listed a _ hk _ hB h
    obtain rfl : k = n := by simpa using hk
    exact ⟨by simpa [Region.lexHead] using hB, h⟩
  | cons o l ih =>
    intro k listed a hl hk inv hB h
    have h0 : ops[k]? = some o := by simpa using (hl 0 (by simp)).symm
    simp only [List.length_cons, Region.lexHead, Bool.and_eq_true] at hB
    obtain ⟨⟨hr, hf⟩, hB'⟩ := hB
    have hkn : k < n := by simp only [List.length_cons] at hk; omega
    have hr' : k ∈ Region.ready md ops listed := by simpa using hr
    obtain ⟨v, hy, hK⟩ := h
    exact anyC_first h0 (Region.noSelect_spec hsel) hs hc hn hkn (fun listed' a' hL => seqB_ready hL.1) l.length listed a inv (Region.free_spec h0 hf) hr' hy
      (ih (k + 1) _ _ (fun j hj => by have := hl (j + 1) (by simp; omega); simpa [Nat.add_assoc, Nat.add_comm 1 j] using this) (by simp only [List.length_cons] at hk; omega) (inv.set hr' hkn) hB' hK)

/-- The region: ahead of number n all keeps to the class; from n on one behind the other. -/
theorem wp_region_in_tail {id : Nat} {Q : Exit → Act → World → Prop} {a : Act} {w : World} {l : List Oper} (C : World → Prop) (n : Nat) (hm : P.follows .mixedOrders = true) (hB : Region.lexTailB .any l.toArray n = true) (hC : C w.drew)
    (h : Nonempty (In C) → wpIn P l.toArray (fun w' => ∃ p : In C, w' = p.w) (fun a' => ∀ w', C w' → wpList P l.toArray Q (l.drop n) a' w') (l.take n) a) : (Code.region id l.toArray true).wp P Q a w := by
  have h1 := h ⟨⟨w.drew, hC⟩⟩
  simp only [Region.lexTailB, Bool.and_eq_true, decide_eq_true_eq] at hB
  obtain ⟨⟨⟨⟨hsel, hn⟩, hs⟩, hc⟩, hlex⟩ := hB
  have hn' : n < l.length := by simpa using hn
  have htl : (l.take n).length = n := by simp; omega
  have hdl : (l.drop n).length = l.toArray.size - n := by simp
  have inv0 : HeadInv .any l.toArray n (Array.replicate l.toArray.size false) :=
    ⟨by simp, fun j oj _ hl => (by rw [getD_replicate_false] at hl; cases hl), fun t _ ht => getD_in (by simpa using ht) (getD_replicate_false _ _)⟩
  have H := anyC_lex (md := .any) (g := l.toArray.size - n) hsel hs hc hn (l.take n) 0 _ a (fun j hj => by
    have hj' : j < n := by rw [htl] at hj; exact hj
    simp [hj']) (by simpa using htl) inv0 (by rw [htl]; exact hlex) h1
  refine wp_region_any hm ?_
  have := any_of_anyC (Q' := Q) (g := l.toArray.size - n) (fun listed a' w' hw' hL => by
    obtain ⟨p, rfl⟩ := hw'
    have := wpAny_of_seq (md := .any) (Q' := Q) (l.drop n) n listed a' p.w (fun j => by simp [List.getElem?_drop]) (by rw [hdl]; exact hL.1) (hL.2 _ p.h)
    rwa [hdl] at this) _ _ _ _ ⟨⟨w.drew, hC⟩, rfl⟩ H
  rw [htl, show n + (l.toArray.size - n) = l.toArray.size from by omega] at this
  exact this

theorem wpIn_nil {Q : Act → Prop} {a : Act} (h : Q a) : wpIn P ops C Q [] a := h
/-- One operation of the walk by a law: in every world of the class v, and a world of the class. -/
theorem wpIn_law {Q : Act → Prop} {a : Act} {o : Oper} {rest : List Oper} (hg : o.guard = none) (v : Value) (h : ∀ w, C w → ∃ w', C w' ∧ (execOp a.eval o).run P w = .ok (.value v) w') (hK : wpIn P ops C Q rest (a.put o.dst v)) : wpIn P ops C Q (o :: rest) a :=
  ⟨v, .inl ⟨by simp [Region.wanted, hg], fun w hC => by obtain ⟨w', h1, h2⟩ := h w hC; rw [h2]; exact ⟨h1, rfl⟩⟩, hK⟩
/-- A store: it gives nothing, and keeps to the class. -/
theorem wpIn_skip {Q : Act → Prop} {a : Act} {o : Oper} {rest : List Oper} (hg : o.guard = none) (h : ∀ w, C w → ∃ w', C w' ∧ (execOp a.eval o).run P w = .ok .skip w') (hK : wpIn P ops C Q rest (a.put o.dst undef)) : wpIn P ops C Q (o :: rest) a :=
  ⟨undef, .inl ⟨by simp [Region.wanted, hg], fun w hC => by obtain ⟨w', h1, h2⟩ := h w hC; rw [h2]; exact ⟨h1, rfl⟩⟩, hK⟩
/-- All ahead of the tail by quiet steps. -/
theorem wpIn_quiet {Q : Act → Prop} {a : Act} {l : List Oper} (h : wpQuiet P ops C Q l a) : wpIn P ops C Q l a := by
  have := wpIn_of_quiet (r := []) (Q := Q) l a h
  rwa [List.append_nil] at this
theorem wpIn_part {Q : Act → Prop} {a : Act} {l : List Oper} (k : Nat) (h : wpQuiet P ops C (wpIn P ops C Q (l.drop k)) (l.take k) a) : wpIn P ops C Q l a := by
  have := wpIn_of_quiet (r := l.drop k) (Q := Q) (l.take k) a h
  rwa [List.take_append_drop] at this
end

end Go.Proofs.YtoemmakhbiiknaaGreat

namespace Go.Proofs.YtoemmakhbiiknaaGreat
open Go.RowKit
set_option linter.unusedVariables false

section
variable {P : Program} {ops : Array Oper} {md : Region.Mode} {CB : Bool → World → Prop} {m : Nat}

def yldT (P : Program) (md : Region.Mode) (ops : Array Oper) (CB : Bool → World → Prop) (m i : Nat) (o : Oper) (v : Value) (a : Act) : Prop :=
  (Region.wanted o (yielded ops a.tmps) = true ∧ if i = m then (∀ w, CB false w → inUpon P (CB true) v ((execOp a.eval o).run P w)) else ∀ b w, (b = true → Region.waitsFor md ops m i = false) → CB b w → inUpon P (CB b) v ((execOp a.eval o).run P w)) ∨
  (i ≠ m ∧ Region.wanted o (yielded ops a.tmps) = false ∧ v = undef)

theorem yldT.same {i : Nat} {o : Oper} {v : Value} {a a' : Act} (h : yldT P md ops CB m i o v a) (he : execOp a'.eval o = execOp a.eval o) (hw : Region.wanted o (yielded ops a'.tmps) = Region.wanted o (yielded ops a.tmps)) : yldT P md ops CB m i o v a' := by
  unfold yldT at *
  rw [he, hw]
  exact h

def anyT (P : Program) (md : Region.Mode) (ops : Array Oper) (CB : Bool → World → Prop) (m n : Nat) (L : Array Bool → Act → Prop) : Nat → Array Bool → Act → Prop
  | 0, listed, a => L listed a
  | f + 1, listed, a => Region.ready md ops listed ≠ [] ∧ ∀ i ∈ Region.ready md ops listed, i < n ∧ ∃ o v, ops[i]? = some o ∧ yldT P md ops CB m i o v a ∧ anyT P md ops CB m n L f (listed.setIfInBounds i true) (a.put o.dst v)

theorem wp_of_upon {o : Oper} {v : Value} {a : Act} {w : World} {C : World → Prop} {K : Act → World → Prop} {Q' : Exit → Act → World → Prop} (h1 : inUpon P C v ((execOp a.eval o).run P w)) (hK : ∀ w', C w' → K (a.put o.dst v) w') : Oper.wp P o a w K Q' := by
  unfold Oper.wp
  generalize (execOp a.eval o).run P w = r at *
  cases r with
  | ok n w' =>
    cases n <;> simp only [inUpon] at h1 <;> simp only [Oper.upon]
    case value u => obtain ⟨c1, rfl⟩ := h1; exact hK _ c1
    case skip => obtain ⟨c1, rfl⟩ := h1; exact hK _ c1
    case enter f args => exact h1.mono fun e w'' ⟨he, hw''⟩ => by subst he; exact hK _ hw''
  | halt x w' => simp only [inUpon] at h1

theorem any_of_anyT {n g : Nat} {L : Array Bool → Act → Prop} {Q' : Exit → Act → World → Prop} (hL : ∀ listed a w, HeadInv md ops n listed → CB (listed.getD m false) w → L listed a → wpAny P md ops Q' g listed a w) :
    ∀ (f : Nat) (listed : Array Bool) (a : Act) (w : World), HeadInv md ops n listed → CB (listed.getD m false) w → anyT P md ops CB m n L f listed a → wpAny P md ops Q' (f + g) listed a w := by
  intro f
  induction f with
  | zero => intro listed a w inv hC h; rw [Nat.zero_add]; exact hL _ _ _ inv hC h
  | succ f ih =>
    intro listed a w inv hC h
    rw [show f + 1 + g = (f + g) + 1 from by omega]
    refine ⟨fun h0 => absurd h0 h.1, fun i hi => ?_⟩
    obtain ⟨hin, o, v, h1, h2, h3⟩ := h.2 i hi
    have h4 := fun w' hC' => ih _ _ w' (inv.set hi hin) hC' h3
    have hun := (mem_ready.1 hi).1
    have hsz : i < listed.size := by rw [inv.size]; exact (Array.getElem?_eq_some_iff.1 h1).1
    unfold wpOp
    simp only [h1]
    rcases h2 with ⟨hw, hv⟩ | ⟨hne, hw, rfl⟩
    · simp only [hw, if_true]
      left
      by_cases him : i = m
      · rw [if_pos him] at hv
        subst him
        rw [getD_both hun] at hC
        rw [show (listed.setIfInBounds i true).getD i false = true from by simp [hsz]] at h4
        exact wp_of_upon (hv w hC) h4
      · rw [if_neg him] at hv
        rw [getD_set_ne false him] at h4
        refine wp_of_upon (hv _ w (fun hb => ?_) hC) h4
        cases hwf : Region.waitsFor md ops m i with
        | false => rfl
        | true =>
          obtain ⟨oj, hoj, e, he, hbd, hon⟩ := Region.waitsFor_spec hwf
          have := inv.closed m oj hoj hb e he hbd
          rw [hon, getD_both hun] at this
          cases this
    · simp only [hw, Bool.false_eq_true, if_false]
      rw [getD_set_ne false hne] at h4
      exact h4 w hC

theorem anyT_first {n i : Nat} {oi : Oper} {v : Value} {L : Array Bool → Act → Prop} (hi : ops[i]? = some oi) (hsel : ∀ (j : Nat) (o : Oper) cs b, ops[j]? = some o → o.op ≠ .select cs b)
    (hs : Region.sinkB md ops n = true) (hc : Region.chainB md ops n = true) (hn : n < ops.size) (hin : i < n) (hdone : ∀ listed a, L listed a → ∀ j ∈ Region.ready md ops listed, n ≤ j) :
    ∀ (f : Nat) (listed : Array Bool) (a : Act), HeadInv md ops n listed →
      (∀ j oj, ops[j]? = some oj → j ≠ i → listed.getD j true = false → (∀ e ∈ oj.after, Region.binds md e = true → e.on ≠ i) → oi.apart ops oj = true) →
      i ∈ Region.ready md ops listed → yldT P md ops CB m i oi v a → anyT P md ops CB m n L f (listed.setIfInBounds i true) (a.put oi.dst v) → anyT P md ops CB m n L (f + 1) listed a := by
  intro f
  induction f with
  | zero =>
    intro listed a inv _ hr hy H
    have hun := (mem_ready.1 hr).1
    refine ⟨fun h => (by rw [h] at hr; cases hr), fun j hj => ?_⟩
    have hjn : j < n := Nat.lt_of_not_le fun h => tail_waits hs hc hn inv _ i rfl hin hun j h hj
    by_cases hji : j = i
    · subst hji
      exact ⟨hjn, oi, v, hi, hy, H⟩
    · have := hdone _ _ H j (ready_mono hj hji)
      omega
  | succ f ih =>
    intro listed a inv hfree hr hy H
    have hun := (mem_ready.1 hr).1
    refine ⟨fun h => (by rw [h] at hr; cases hr), fun j hj => ?_⟩
    have hjn : j < n := Nat.lt_of_not_le fun h => tail_waits hs hc hn inv _ i rfl hin hun j h hj
    by_cases hji : j = i
    · subst hji
      exact ⟨hjn, oi, v, hi, hy, H⟩
    · obtain ⟨_, oj', vj, hoj, hyj, hrest⟩ := H.2 j (ready_mono hj hji)
      obtain ⟨hjun, oj, hoj2, hall⟩ := mem_ready.1 hj
      obtain rfl : oj' = oj := Option.some.inj (hoj.symm.trans hoj2)
      have hno : ∀ e ∈ oj'.after, Region.binds md e = true → e.on ≠ i := fun e he hb heq => by
        have h1 := hall e he hb
        rw [heq, getD_both hun] at h1
        cases h1
      obtain ⟨a1, a2, a3⟩ := Oper.apart_spec (hfree j oj' hoj hji hjun hno)
      have hyj' : yldT P md ops CB m j oj' vj a := by
        refine hyj.same ?_ ?_
        · rw [execOp_put oj' (fun cs b => hsel j oj' cs b hoj) a oi.dst v a1]
        · rw [wanted_put oj' a oi.dst v a1]
      have hyi' : yldT P md ops CB m i oi v (a.put oj'.dst vj) := by
        refine hy.same ?_ ?_
        · exact execOp_put oi (fun cs b => hsel i oi cs b hi) a oj'.dst vj a3
        · exact wanted_put oi a oj'.dst vj a3
      refine ⟨hjn, oj', vj, hoj, hyj', ih (listed.setIfInBounds j true) (a.put oj'.dst vj) (inv.set hj hjn) (fun k ok hk hki hun' hno' => ?_) (ready_mono hr (Ne.symm hji)) hyi' ?_⟩
      · refine hfree k ok hk hki ?_ hno'
        by_cases hjk : j = k
        · subst hjk; exact hjun
        · rw [getD_set_ne true hjk] at hun'; exact hun'
      · rw [Array.setIfInBounds_comm _ _ hji, ← Act.put_comm a v vj a2]
        exact hrest

/-- The walk in the text's order, from operation number i on. -/
def wpT (P : Program) (md : Region.Mode) (ops : Array Oper) (CB : Bool → World → Prop) (m : Nat) (Q : Act → Prop) : Nat → List Oper → Act → Prop
  | _, [], a => Q a
  | i, o :: rest, a => ∃ v, yldT P md ops CB m i o v a ∧ wpT P md ops CB m Q (i + 1) rest (a.put o.dst v)

theorem anyT_lex {n g : Nat} {Lq : Act → Prop} (hsel : Region.noSelect ops = true) (hs : Region.sinkB md ops n = true) (hc : Region.chainB md ops n = true) (hn : n < ops.size) :
    ∀ (l : List Oper) (k : Nat) (listed : Array Bool) (a : Act), (∀ j, j < l.length → l[j]? = ops[k + j]?) → k + l.length = n → HeadInv md ops n listed → Region.lexHead md ops g l.length k listed = true → wpT P md ops CB m Lq k l a →
    anyT P md ops CB m n (fun listed' a' => Region.seqB md ops g n listed' = true ∧ Lq a') l.length listed a := by
  intro l
  induction l with
  | nil =>
    intro k listed a _ hk _ hB h
    obtain rfl : k = n := by simpa using hk
    exact ⟨by simpa [Region.lexHead] using hB, h⟩
  | cons o l ih =>
    intro k listed a hl hk inv hB h
    have h0 : ops[k]? = some o := by simpa using (hl 0 (by simp)).symm
    simp only [List.length_cons, Region.lexHead, Bool.and_eq_true] at hB
    obtain ⟨⟨hr, hf⟩, hB'⟩ := hB
    have hkn : k < n := by simp only [List.length_cons] at hk; omega
    have hr' : k ∈ Region.ready md ops listed := by simpa using hr
    obtain ⟨v, hy, hK⟩ := h
    exact anyT_first h0 (Region.noSelect_spec hsel) hs hc hn hkn (fun listed' a' hL => seqB_ready hL.1) l.length listed a inv (Region.free_spec h0 hf) hr' hy
      (ih (k + 1) _ _ (fun j hj => by have := hl (j + 1) (by simp; omega); simpa [Nat.add_assoc, Nat.add_comm 1 j] using this) (by simp only [List.length_cons] at hk; omega) (inv.set hr' hkn) hB' hK)

/-- The region: operation m (ahead of n) turns a world of the first class into one of the second; from n on one behind the other, in each world of the second. -/
theorem wp_region_turn {id : Nat} {Q : Exit → Act → World → Prop} {a : Act} {w : World} {l : List Oper} (CB : Bool → World → Prop) (m n : Nat) (hmn : m < n) (hm : P.follows .mixedOrders = true) (hB : Region.lexTailB .any l.toArray n = true) (hC : CB false w.drew)
    (h : wpT P .any l.toArray CB m (fun a' => ∀ w', CB true w' → wpList P l.toArray Q (l.drop n) a' w') 0 (l.take n) a) : (Code.region id l.toArray true).wp P Q a w := by
  simp only [Region.lexTailB, Bool.and_eq_true, decide_eq_true_eq] at hB
  obtain ⟨⟨⟨⟨hsel, hn⟩, hs⟩, hc⟩, hlex⟩ := hB
  have hn' : n < l.length := by simpa using hn
  have htl : (l.take n).length = n := by simp; omega
  have hdl : (l.drop n).length = l.toArray.size - n := by simp
  have inv0 : HeadInv .any l.toArray n (Array.replicate l.toArray.size false) :=
    ⟨by simp, fun j oj _ hl => (by rw [getD_replicate_false] at hl; cases hl), fun t _ ht => getD_in (by simpa using ht) (getD_replicate_false _ _)⟩
  have H := anyT_lex (md := .any) (g := l.toArray.size - n) hsel hs hc hn (l.take n) 0 _ a (fun j hj => by
    have hj' : j < n := by rw [htl] at hj; exact hj
    simp [hj']) (by simpa using htl) inv0 (by rw [htl]; exact hlex) h
  refine wp_region_any hm ?_
  have := any_of_anyT (Q' := Q) (g := l.toArray.size - n) (fun listed a' w' inv hCw hL => by
    have hd : listed.getD m false = true := by
      cases hh : listed.getD m false with
      | true => rfl
      | false =>
        exfalso
        have hms : m < listed.size := by rw [inv.size]; omega
        have h1 := hL.1
        rw [← hdl] at h1
        have hg : (l.drop n).length ≠ 0 := by rw [List.length_drop]; omega
        obtain ⟨g, hg'⟩ := Nat.exists_eq_succ_of_ne_zero hg
        rw [hg'] at h1
        simp only [Region.seqB, Bool.and_eq_true, decide_eq_true_eq] at h1
        exact tail_waits hs hc hn inv _ m rfl hmn (getD_in hms hh) n (Nat.le_refl _) (by rw [h1.1]; simp)
    rw [hd] at hCw
    have := wpAny_of_seq (md := .any) (Q' := Q) (l.drop n) n listed a' w' (fun j => by simp [List.getElem?_drop]) (by rw [hdl]; exact hL.1) (hL.2 _ hCw)
    rwa [hdl] at this) _ _ _ _ inv0 (by rw [getD_replicate_false]; exact hC) H
  rw [htl, show n + (l.toArray.size - n) = l.toArray.size from by omega] at this
  exact this

/-- An operation that enters no function. -/
def plainB : Op → Bool
  | .move _ | .assign _ | .pick _ _ _ | .load _ _ | .fieldAddr _ _ _ | .indexAddr _ _ _ | .binOp _ _ _ _ _ | .unOp _ _ _ | .extract _ _ | .build _ _ => true
  | _ => false
theorem val_only {α : Type} {s : Sem α} {g : α → Value} {w w' : World} {n : Next} (e : (s >>= fun x => pure (Next.value (g x)) : Sem Next).run P w = .ok n w') : ∃ u, n = .value u := by
  rw [Sem.run_bind] at e
  cases hs : s.run P w with
  | ok u w1 => rw [hs] at e; simp [Result.andThen] at e; exact ⟨_, e.1.symm⟩
  | halt x w1 => rw [hs] at e; simp [Result.andThen] at e
theorem plain_value {o : Oper} (h : plainB o.op = true) {ρ : Operand → Value} {w w' : World} {n : Next} (e : (execOp ρ o).run P w = .ok n w') : ∃ u, n = .value u := by
  unfold execOp at e
  cases ho : o.op <;> rw [ho] at h e <;> first | (simp only [plainB, Bool.false_eq_true] at h; done) | exact val_only e | (simp at e; exact ⟨_, e.1.symm⟩)

theorem wpT_of_quiet {Q : Act → Prop} {r : List Oper} (C : World → Prop) (hCC : ∀ b w, CB b w → C w) : ∀ (l : List Oper) (i : Nat) (a : Act), l.all (fun o => plainB o.op) = true → (i + l.length ≤ m ∨ m < i) → wpQuiet P ops (fun w => ∃ p : In C, w = p.w) (wpT P md ops CB m Q (i + l.length) r) l a → wpT P md ops CB m Q i (l ++ r) a := by
  intro l
  induction l with
  | nil => intro i a _ _ h; exact h
  | cons o l ih =>
    intro i a hp him h
    simp only [List.all_cons, Bool.and_eq_true] at hp
    have him' : i ≠ m := by simp only [List.length_cons] at him; omega
    have hnext : i + 1 + l.length ≤ m ∨ m < i + 1 := by simp only [List.length_cons] at him; omega
    have hlen : i + (o :: l).length = i + 1 + l.length := by simp only [List.length_cons]; omega
    rw [hlen] at h
    simp only [wpQuiet] at h
    by_cases hw : Region.wanted o (yielded ops a.tmps) = true
    · simp only [hw, if_true] at h
      obtain ⟨v, h1, h2⟩ := h
      have hall : ∀ b w, CB b w → inUpon P (CB b) v ((execOp a.eval o).run P w) := by
        intro b w hC
        have h3 := h1 w ⟨⟨w, hCC b w hC⟩, rfl⟩
        unfold Oper.quietAt at h3
        cases hr : (execOp a.eval o).run P w with
        | ok n w' =>
          rw [hr] at h3
          obtain ⟨u, rfl⟩ := plain_value hp.1 hr
          simp only [Oper.quietUpon] at h3
          obtain ⟨rfl, rfl⟩ := h3
          exact ⟨hC, rfl⟩
        | halt x w' => rw [hr] at h3; simp only [Oper.quietUpon] at h3
      exact ⟨v, .inl ⟨hw, by rw [if_neg him']; exact fun b w _ hC => hall b w hC⟩, ih (i + 1) _ hp.2 hnext h2⟩
    · simp only [hw] at h
      exact ⟨undef, .inr ⟨him', by simpa using hw, rfl⟩, ih (i + 1) _ hp.2 hnext h⟩
/-- k operations that read. -/
theorem wpT_part {Q : Act → Prop} {a : Act} {l : List Oper} {i : Nat} (C : World → Prop) (hCC : ∀ b w, CB b w → C w) (k j : Nat) (hp : (l.take k).all (fun o => plainB o.op) = true) (hj : i + (l.take k).length = j) (him : j ≤ m ∨ m < i) (h : wpQuiet P ops (fun w => ∃ p : In C, w = p.w) (wpT P md ops CB m Q j (l.drop k)) (l.take k) a) : wpT P md ops CB m Q i l a := by
  subst hj
  have := wpT_of_quiet (r := l.drop k) (Q := Q) C hCC (l.take k) i a hp him h
  rwa [List.take_append_drop] at this
/-- k operations that the turning one waits for: they are walked in the first class alone. -/
theorem wpT_of_quiet0 {Q : Act → Prop} {r : List Oper} (C : World → Prop) (hCC : ∀ w, CB false w → C w) : ∀ (l : List Oper) (i : Nat) (a : Act), l.all (fun o => plainB o.op) = true → i + l.length ≤ m → (List.range l.length).all (fun j => Region.waitsFor md ops m (i + j)) = true → wpQuiet P ops (fun w => ∃ p : In C, w = p.w) (wpT P md ops CB m Q (i + l.length) r) l a → wpT P md ops CB m Q i (l ++ r) a := by
  intro l
  induction l with
  | nil => intro i a _ _ _ h; exact h
  | cons o l ih =>
    intro i a hp him hwt h
    simp only [List.all_cons, Bool.and_eq_true] at hp
    have him' : i ≠ m := by simp only [List.length_cons] at him; omega
    have hnext : i + 1 + l.length ≤ m := by simp only [List.length_cons] at him; omega
    have hlen : i + (o :: l).length = i + 1 + l.length := by simp only [List.length_cons]; omega
    have hw0 : Region.waitsFor md ops m i = true := by
      have := List.all_eq_true.1 hwt 0 (by simp)
      simpa using this
    have hwn : (List.range l.length).all (fun j => Region.waitsFor md ops m (i + 1 + j)) = true := by
      rw [List.all_eq_true]
      intro j hj
      have := List.all_eq_true.1 hwt (j + 1) (by simp at hj ⊢; omega)
      rw [show i + 1 + j = i + (j + 1) from by omega]
      exact this
    rw [hlen] at h
    simp only [wpQuiet] at h
    by_cases hw : Region.wanted o (yielded ops a.tmps) = true
    · simp only [hw, if_true] at h
      obtain ⟨v, h1, h2⟩ := h
      have hall : ∀ b w, (b = true → Region.waitsFor md ops m i = false) → CB b w → inUpon P (CB b) v ((execOp a.eval o).run P w) := by
        intro b w hb hC
        cases b with
        | true => rw [hw0] at hb; exact absurd (hb rfl) (by simp)
        | false =>
          have h3 := h1 w ⟨⟨w, hCC w hC⟩, rfl⟩
          unfold Oper.quietAt at h3
          cases hr : (execOp a.eval o).run P w with
          | ok n w' =>
            rw [hr] at h3
            obtain ⟨u, rfl⟩ := plain_value hp.1 hr
            simp only [Oper.quietUpon] at h3
            obtain ⟨rfl, rfl⟩ := h3
            exact ⟨hC, rfl⟩
          | halt x w' => rw [hr] at h3; simp only [Oper.quietUpon] at h3
      exact ⟨v, .inl ⟨hw, by rw [if_neg him']; exact hall⟩, ih (i + 1) _ hp.2 hnext hwn h2⟩
    · simp only [hw] at h
      exact ⟨undef, .inr ⟨him', by simpa using hw, rfl⟩, ih (i + 1) _ hp.2 hnext hwn h⟩
theorem wpT_part0 {Q : Act → Prop} {a : Act} {l : List Oper} {i : Nat} (C : World → Prop) (hCC : ∀ w, CB false w → C w) (k j : Nat) (hp : (l.take k).all (fun o => plainB o.op) = true) (hj : i + (l.take k).length = j) (him : j ≤ m) (hwt : (List.range (l.take k).length).all (fun j => Region.waitsFor md ops m (i + j)) = true) (h : wpQuiet P ops (fun w => ∃ p : In C, w = p.w) (wpT P md ops CB m Q j (l.drop k)) (l.take k) a) : wpT P md ops CB m Q i l a := by
  subst hj
  have := wpT_of_quiet0 (r := l.drop k) (Q := Q) C hCC (l.take k) i a hp him hwt h
  rwa [List.take_append_drop] at this
theorem wpT_nil {Q : Act → Prop} {a : Act} {i : Nat} (h : Q a) : wpT P md ops CB m Q i [] a := h
/-- The operation that turns the world. -/
theorem wpT_turn {Q : Act → Prop} {a : Act} {o : Oper} {rest : List Oper} (v : Value) (hw : Region.wanted o (yielded ops a.tmps) = true) (h : ∀ w, CB false w → inUpon P (CB true) v ((execOp a.eval o).run P w)) (hK : wpT P md ops CB m Q (m + 1) rest (a.put o.dst v)) : wpT P md ops CB m Q m (o :: rest) a :=
  ⟨v, .inl ⟨hw, by rw [if_pos rfl]; exact h⟩, hK⟩
/-- A call that keeps to each class. -/
theorem wpT_call {Q : Act → Prop} {a : Act} {o : Oper} {rest : List Oper} {i : Nat} (him : (i == m) = false) (v : Value) (hw : Region.wanted o (yielded ops a.tmps) = true) (h : ∀ b w, CB b w → inUpon P (CB b) v ((execOp a.eval o).run P w)) (hK : wpT P md ops CB m Q (i + 1) rest (a.put o.dst v)) : wpT P md ops CB m Q i (o :: rest) a :=
  ⟨v, .inl ⟨hw, by rw [if_neg (by simpa using him)]; exact fun b w _ hC => h b w hC⟩, hK⟩
/-- What does not come up. -/
theorem wpT_skip {Q : Act → Prop} {a : Act} {o : Oper} {rest : List Oper} {i : Nat} (him : (i == m) = false) (hw : Region.wanted o (yielded ops a.tmps) = false) (hK : wpT P md ops CB m Q (i + 1) rest (a.put o.dst undef)) : wpT P md ops CB m Q i (o :: rest) a :=
  ⟨undef, .inr ⟨by simpa using him, hw, rfl⟩, hK⟩
end

end Go.Proofs.YtoemmakhbiiknaaGreat
