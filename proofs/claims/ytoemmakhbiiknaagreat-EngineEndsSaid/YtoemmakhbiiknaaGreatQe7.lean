/-
  plan.Compile of the program.
  A plan's methods: Len, Name, has, Step, Before.
  sync.Once and atomic.Int64 in the run of one goroutine: the parts.
  What stands behind each step, gathered: plainly; and what lies where meanwhile.
-/
import Derived.Test.YtoemmakhbiiknaaGreatQe6
import Derived.Deep.RegionHeldLaw
import Derived.Deep.AppendLies
import Derived.Defers
import Derived.Laws.Pointers
import Derived.Laws.LoneSync
import Derived.RegionTactic
import Derived.RegionCalls
import Derived.ChangeAlike
import Derived.Laws.NewBlocks
namespace Go.Proofs.YtoemmakhbiiknaaGreat
open Go.RowKit Go.WideShapes Go.ChangeShapes Go.ChangeAt Go.Deep
set_option linter.unusedVariables false

/-- A plan, made. -/
structure PlB (base : Nat) (nm : ByteArray) (P : Nat) (vS vB : Value) (Ls : List Stp) (Bs : List IRow) (w : World) : Prop where
  p : Blk w P 126 (planC nm vS vB)
  os : w.ownsRow base 69 9 vS Ls.length (Ls.flatMap enSt)
  ob : w.ownsRow base 38 1 vB Bs.length (Bs.flatMap enR)
  st : ∀ s ∈ Ls, OwnSt base w s
  rw : ∀ b ∈ Bs, OwnR base w b
  lo : base ≤ P
def CompR (nm : ByteArray) (l : List Stp) (w : World) (e : Ending) (w' : World) : Prop :=
  Below w.heap.size w w' ∧ ((checkN l ≠ 0 ∧ e = .returned (.tuple #[.pointer none, .int .i64 (checkN l)])) ∨ (checkN l = 0 ∧ ∃ P vS vB Ls Bs, e = .returned (.tuple #[.pointer (some ⟨P, 0, none⟩), .int .i64 0]) ∧ PlB w.heap.size nm P vS vB Ls Bs w' ∧ PlG l (ordN (grf l) l.length) Ls Bs))
/-- How long the slice in a cell is. -/
def lenAt (w : World) (P i : Nat) : Nat := match w.cell? ⟨P, i, none⟩ with | some (.slice _ n _) => n | _ => 0
theorem lenAt_of {w : World} {P i n c : Nat} {A : Option Addr} (h : w.cell? ⟨P, i, none⟩ = some (.slice A n c)) : lenAt w P i = n := by unfold lenAt; rw [h]
/-- The numbers that the names stand for. -/
def posL (am : List (ByteArray × Int)) (bs : List ByteArray) : List Int := bs.map fun a => (mget am a).getD 0
theorem posL_eq {l : List Stp} {ds : List Nat} {am : List (ByteArray × Int)} (hN : NamesOk l) (h : AtM l ds am) {i : Nat} {s : Stp} (hs : l[i]? = some s) (hi : ∀ k ∈ adj (grf l) i, k ∈ ds) : posL am s.after = (adj (grf l) i).map fun k => ((ds.idxOf k : Nat) : Int) := by
  rw [grf_adj hs]
  unfold posL
  rw [List.map_map]
  refine List.map_congr_left fun a ha => ?_
  have hin := hN.2 s (List.mem_of_getElem? hs) a ha
  rw [h.name hN hin, if_pos (hi _ (by rw [grf_adj hs]; exact List.mem_map_of_mem ha))]
  rfl
theorem touch_own {w w' : World} {v : Value} (h : w.grownBy w' v.ownBlock) : Touch (fun b => v.ownBlock = some b) w w' := ⟨h.os, h.tape, h.output, h.size, fun k hk hn => h.block k hk (fun e => hn e.symm)⟩
theorem enSt_one (s : Stp) : ∀ u ∈ enSt s, u.oneCell' = true := by
  intro u hu
  simp only [enSt, List.mem_cons, List.not_mem_nil, or_false] at hu
  rcases hu with rfl | rfl | rfl | rfl | rfl | rfl | rfl | rfl | rfl <;> rfl
theorem looked_vN (m : List (ByteArray × Int)) (a : ByteArray) : looked (vN 0) vN m a = .int .i64 ((mget m a).getD 0) := by
  unfold looked
  cases mget m a <;> rfl
theorem info_irow12 : (Tryz.prog.info? 38).map (fun i => (i.zero, i.size, i.bytes)) = some (some (.slice none 0 0), 1, 24) := by kernel_rfl

set_option maxRecDepth 100000 in
set_option maxHeartbeats 64000000 in
theorem compile_any (nm : ByteArray) (l : List Stp) (A : Option Addr) (cp : Nat) (w : World) (hR : Rd w A (l.flatMap enSt)) (hok : ∀ s ∈ l, OkSt w s) (hl : l.length ≤ 1000) :
    Calls Tryz.prog 25 #[.agg #[.string nm, .slice A l.length cp]] w (CompR nm l w) := by
  have HOK := hid hok
  have HR := hid hR
  clear hok hR
  have hB0 := Blk.new w 60 #[.string nm, .slice A l.length cp]
  have hwa : Below w.heap.size w (w.alloc (.cells #[.string nm, .slice A l.length cp] 60)) := (Below.refl _ _).alloc (Nat.le_refl _) _
  have HB0 := hid (And.intro hB0 hwa)
  have KN := hid (check_any nm l A cp (w.alloc (.cells #[.string nm, .slice A l.length cp] 60)) (HR.out.below hwa) (fun s hs => (HOK.out s hs).next hwa) hl)
  obtain ⟨c, hc⟩ : ∃ c, c = checkN l := ⟨_, rfl⟩
  rw [← hc] at KN
  have HC := hid hc
  have hmm := @run_makeMap Tryz.prog
  clear hB0 hwa hc
  go_enter Tryz.func25, Tryz.ntmps25
  go_wp2_with fail
  refine KN.out.mono ?_
  rintro e w1 ⟨rfl, hb1⟩
  have hb01 := bthen HB0.out.2 hb1
  by_cases hc0 : c = 0
  · have hd1 := HB0.out.1.next hb1
    have tc : (c != 0) = false := by simp [hc0]
    have HCO := hid (checkN_zero (l := l) (by rw [← HC.out]; exact hc0))
    have HC0 := hid hc0
    obtain ⟨D0, hD0⟩ : ∃ D0, D0 = w.heap.size := ⟨_, rfl⟩
    rw [← hD0] at hd1
    have HD0 := hid hD0
    have d0 : w1.cell? ⟨D0, 0, none⟩ = some (.string nm) := hd1.cell 0
    rw [hD0] at d0
    have hwb : Below w1.heap.size w1 (((w1.alloc (.cells (planC nm (.slice none 0 0) (.slice none 0 0)) 126)).alloc (.map #[] 0)).alloc (.cells #[.map (some (w1.heap.size + 1))] 147)) := (((Below.refl _ _).alloc (Nat.le_refl _) _).alloc (by simp) _).alloc (by simp; omega) _
    have hM0 := IsMap.made (w1.alloc (.cells (planC nm (.slice none 0 0) (.slice none 0 0)) 126)) kS vN
    rw [World.size_alloc] at hM0
    have hM1 := hM0.alloc (.cells #[.map (some (w1.heap.size + 1))] 147)
    have hP0 := ((Blk.new w1 126 (planC nm (.slice none 0 0) (.slice none 0 0))).alloc (.map #[] 0)).alloc (.cells #[.map (some (w1.heap.size + 1))] 147)
    have hV0 := Blk.new ((w1.alloc (.cells (planC nm (.slice none 0 0) (.slice none 0 0)) 126)).alloc (.map #[] 0)) 147 #[.map (some (w1.heap.size + 1))]
    rw [World.size_alloc, World.size_alloc] at hV0
    have hwl := hb01.size
    have hCS : CmS w nm l A cp D0 (w1.heap.size + 1 + 1) w1.heap.size (w1.heap.size + 1) [] (.slice none 0 0) (.slice none 0 0) [] [] (((w1.alloc (.cells (planC nm (.slice none 0 0) (.slice none 0 0)) 126)).alloc (.map #[] 0)).alloc (.cells #[.map (some (w1.heap.size + 1))] 147)) :=
      ⟨hd1.next hwb, hV0, hM1, hP0, World.ownsRow_nil _ _ _ _, World.ownsRow_nil _ _ _ _, fun s hs => by simp at hs, fun b hb => by simp at hb, bthen hb01 hwb, ⟨by omega, by omega⟩⟩
    have HS := hid hCS
    clear hb1 hd1 hc0 hwb hM0 hM1 hP0 hV0 hCS hb01 KN HB0 hD0 hwl
    go_upto_region 6 with fail
    have hpc : planC nm (.slice none 0 0) (.slice none 0 0) = #[.string nm, .slice none 0 0, .slice none 0 0, .int .u32 0, .int .i32 0, .int .u32 0, .slice none 0 0, .int .i64 0] := rfl
    rw [← hpc]
    obtain ⟨P, hP⟩ : ∃ P, P = w1.heap.size := ⟨_, rfl⟩
    obtain ⟨W, hW⟩ : ∃ W, W = ((w1.alloc (.cells (planC nm (.slice none 0 0) (.slice none 0 0)) 126)).alloc (.map #[] 0)).alloc (.cells #[.map (some (w1.heap.size + 1))] 147) := ⟨_, rfl⟩
    rw [← hW] at HS
    rw [← hW, ← HD0.out]
    rw [← hP] at HS ⊢
    obtain ⟨M, hM⟩ : ∃ M, M = P + 1 := ⟨_, rfl⟩
    obtain ⟨V6, hV6⟩ : ∃ V6, V6 = P + 1 + 1 := ⟨_, rfl⟩
    rw [← hV6] at HS ⊢
    rw [← hM] at HS
    clear d0 hP hW hM hV6 hmm hpc
    go_loopw [] (fun wr => ∃ (k : Nat) (SA BA : Option Addr) (sc bc : Nat) (am : List (ByteArray × Int)) (Ls : List Stp) (Bs : List IRow), k ≤ l.length ∧ Hid (CmS w nm l A cp D0 V6 P M am (.slice SA k sc) (.slice BA k bc) Ls Bs wr) ∧ Hid (AtM l (ordN (grf l) k) am ∧ PlG l (ordN (grf l) k) Ls Bs)) (fun wr => l.length - lenAt wr P 1)
    case atStart => exact ⟨0, none, none, 0, 0, [], [], [], Nat.zero_le _, HS, hid ⟨AtM.nil l, PlG.nil l⟩⟩
    case round =>
      clear HS
      obtain ⟨k, SA, BA, sc, bc, am, Ls, Bs, hk, HS, HG⟩ := hrel
      have p1 : wr.cell? ⟨P, 1, none⟩ = some (.slice SA k sc) := HS.out.p.cell 1
      have lP := HS.out.p.lt
      have d1 : wr.cell? ⟨D0, 1, none⟩ = some (.slice A l.length cp) := HS.out.d.cell 1
      have lD := HS.out.d.lt
      have HLEN := hid (lenAt_of p1)
      go_wp2_with fail
      go_quiet (fail)
      by_cases hlt : k < l.length
      · have HOL := hid (ordN_len HCO.out.2.1 (grf_shut HCO.out.1) k (by rw [grf_len]; omega))
        have HOO := hid (ordN_ok (grf l) k)
        obtain ⟨i, hi⟩ : ∃ i, nextN (grf l) (ordN (grf l) k) = some i := by
          have h1 := ordN_len HCO.out.2.1 (grf_shut HCO.out.1) (k + 1) (by rw [grf_len]; omega)
          unfold ordN at h1
          cases h : nextN (grf l) (ordN (grf l) k) with
          | some i => exact ⟨i, rfl⟩
          | none => rw [h] at h1; simp only at h1; rw [HOL.out] at h1; omega
        have HON := hid (show ordN (grf l) (k + 1) = ordN (grf l) k ++ [i] from by rw [ordN, hi])
        obtain ⟨hi1, hi2, hi3, _⟩ := nextN_some hi
        have HI := hid (And.intro hi2 hi3)
        rw [grf_len] at hi1
        obtain ⟨s, hs, hpl⟩ := plc_next HCO.out.1 HG.out.1 hi
        have KI := fun w' (hb : Below wr.heap.size wr w') => hid (indexS1_any l A cp 63 (.pointer (some ⟨V6, 0, none⟩)) (nxtB am) w' (HR.out.below (bthen HS.out.bel hb)) (by omega) (fun _ _ => by go_simp) (fun y hy w2 hb2 => cmp1_any am V6 M y w2 ((HOK.out y hy).next (bthen (bthen HS.out.bel hb) hb2)) (HS.out.v.next (bthen hb hb2)) (HS.out.m.next (bthen hb hb2))))
        rw [hpl] at KI
        have HSI := hid hs
        have HMEM := hid (List.mem_of_getElem? hs)
        obtain ⟨wq, hwq⟩ : ∃ wq, wq = wr.drewN nq := ⟨_, rfl⟩
        have hbq : Below wr.heap.size wr wq := by rw [hwq]; exact below_drewN (Below.refl _ _) nq
        rw [← hwq]
        have KQ := KI wq hbq
        have HBQ := hid hbq
        have hdq := (HS.out.next hbq).d
        clear KI hwq hi hpl p1 lP d1 lD hi2 hi3 hbq
        have d1 : wq.cell? ⟨D0, 1, none⟩ = some (.slice A l.length cp) := hdq.cell 1
        have lD := hdq.lt
        clear hdq
        go_wp2_with fail
        refine KQ.out.mono ?_
        rintro e w3 ⟨rfl, hb3⟩
        have HB3 := hid (bthen HBQ.out hb3)
        have hd3 := (HS.out.next HB3.out).d
        clear d1 lD KQ hb3
        have d1 : w3.cell? ⟨D0, 1, none⟩ = some (.slice A l.length cp) := hd3.cell 1
        have lD := hd3.lt
        obtain ⟨b, o, hAA, _, hcc⟩ := (HR.out.below (bthen HS.out.bel HB3.out)).at_ 9 enSt_len (by omega) hs
        have HOS := hid (HOK.out s HMEM.out)
        have HPO := hid (posL_eq HCO.out.1 HG.out.1 hs HI.out.2)
        have HAN := hid (fun a (ha : a ∈ s.after) => HCO.out.1.2 s HMEM.out a ha)
        clear hd3 hs
        obtain ⟨xn, xv, xu, xe, xf, xr, xy, xw, xA, xc, xl⟩ := s
        simp only at HPO HAN
        subst hAA
        have q0 : w3.cell? ⟨b, o + i * 9, none⟩ = some (.string xn) := hcc 0 _ rfl
        have q1 : w3.cell? ⟨b, o + i * 9 + 1, none⟩ = some (.string xv) := hcc 1 _ rfl
        have q2 : w3.cell? ⟨b, o + i * 9 + 2, none⟩ = some (.string xu) := hcc 2 _ rfl
        have q3 : w3.cell? ⟨b, o + i * 9 + 3, none⟩ = some (.string xe) := hcc 3 _ rfl
        have q4 : w3.cell? ⟨b, o + i * 9 + 4, none⟩ = some (.bool xf) := hcc 4 _ rfl
        have q5 : w3.cell? ⟨b, o + i * 9 + 5, none⟩ = some (.int .i64 xr) := hcc 5 _ rfl
        have q6 : w3.cell? ⟨b, o + i * 9 + 6, none⟩ = some (.int .i64 xy) := hcc 6 _ rfl
        have q7 : w3.cell? ⟨b, o + i * 9 + 7, none⟩ = some (.int .i64 xw) := hcc 7 _ rfl
        have q8 : w3.cell? ⟨b, o + i * 9 + 8, none⟩ = some (.slice xA xl.length xc) := hcc 8 _ rfl
        clear hcc
        have hwb : Below w3.heap.size w3 (w3.alloc (.cells #[.string xn, .string xv, .string xu, .string xe, .bool xf, .int .i64 xr, .int .i64 xy, .int .i64 xw, .slice xA xl.length xc] 69)) := (Below.refl _ _).alloc (Nat.le_refl _) _
        have HS4 := hid (And.intro (HS.out.next (bthen HB3.out hwb)) (Blk.new w3 69 #[.string xn, .string xv, .string xu, .string xe, .bool xf, .int .i64 xr, .int .i64 xy, .int .i64 xw, .slice xA xl.length xc]))
        have HBT := hid (bthen HB3.out hwb)
        clear hwb
        go_upto_region 9 with fail
        clear q0 q1 q2 q3 q4 q5 q6 q7 q8 d1 lD
        obtain ⟨wz, hwz⟩ : ∃ wz, wz = w3.alloc (.cells #[.string xn, .string xv, .string xu, .string xe, .bool xf, .int .i64 xr, .int .i64 xy, .int .i64 xw, .slice xA xl.length xc] 69) := ⟨_, rfl⟩
        obtain ⟨G, hGe⟩ : ∃ G, G = w3.heap.size := ⟨_, rfl⟩
        have HGL := hid (show ∀ b, (Value.slice SA k sc).ownBlock = some b → b < G from fun b hb => by have h1 := (HS.out.os.lt b hb).2; have h2 := HB3.out.size; omega)
        have HWZ := hid (show w.heap.size ≤ wz.heap.size from by have h1 := HS.out.bel.size; have h2 := HBT.out.size; rw [hwz]; omega)
        have HBZ := hid (show ∀ q, (Value.slice BA k bc).ownBlock = some q → q < wz.heap.size from fun q hq => by have h1 := (HS.out.ob.lt q hq).2; have h2 := HBT.out.size; rw [hwz]; omega)
        have HBL := hid (show ∀ b ∈ Bs, ∀ q, (Value.slice b.A b.xs.length b.cap).ownBlock = some q → q < wz.heap.size from fun b hb q hq => by have h1 := ((HS.out.rw b hb).lt q hq).2; have h2 := HBT.out.size; rw [hwz]; omega)
        rw [← hwz, ← hGe] at HS4
        rw [← hwz] at HBT
        rw [← hwz, ← hGe]
        clear hwz hGe
        have g8 : wz.cell? ⟨G, 8, none⟩ = some (.slice xA xl.length xc) := HS4.out.2.cell 8
        have lG := HS4.out.2.lt
        have hxl : xl.length * 16 ≤ 140737488355328 := HOS.out.len
        go_wp2_with fail
        clear g8 lG
        obtain ⟨ii, hii, hz0, hz1, hz2⟩ := info_parts info_int12
        go_loopw [9, 43] (fun v i wq => ∃ j : Nat, j ≤ xl.length ∧ i = .int .i64 j ∧ wq.ownsRow wz.heap.size 3 1 v j ((posL am (xl.take j)).flatMap en1) ∧ Below wz.heap.size wz wq) (fun _ i _ => xl.length - nOf i)
        case atStart => exact ⟨0, Nat.zero_le _, rfl, World.ownsRow_nil _ _ _ _, Below.refl _ _⟩
        case round =>
          obtain ⟨j, hj, rfl, hO, hb⟩ := hrel
          by_cases hjl : j < xl.length
          · obtain ⟨a, ha⟩ : ∃ a, xl[j]? = some a := ⟨xl[j], List.getElem?_eq_getElem hjl⟩
            obtain ⟨b2, o2, hA2, _, hc2⟩ := ((HOS.out.row.below HS4.out.1.bel).below hb).at_ 1 enB_len (by omega) ha
            have q0 : wr.cell? ⟨b2, o2 + j * 1, none⟩ = some (.string a) := hc2 0 _ rfl
            rw [Nat.mul_one] at q0
            have c6 : wr.cell? ⟨V6, 0, none⟩ = some (.map (some M)) := (HS4.out.1.v.next hb).cell 0
            have l6 := (HS4.out.1.v.next hb).lt
            obtain ⟨v, hv⟩ : ∃ v, v = (mget am a).getD 0 := ⟨_, rfl⟩
            have lk : (Instr.lookup 147 (.map (some M)) (.string a) false).run Tryz.prog wr = .ok (.int .i64 v) wr := by
              have := (HS4.out.1.m.next hb).look keyStr12 Tryz.underlying147 (zeroN _) a
              rw [looked_vN, ← hv] at this
              exact this
            have HTP := hid (show posL am (xl.take (j + 1)) = posL am (xl.take j) ++ [v] from by rw [take_succ_of ha]; unfold posL; rw [List.map_append, List.map_cons, List.map_nil, ← hv])
            have hO6 := hid hO
            have hO9 := hid (hO.alloc (.cells #[.int .i64 v] 3))
            have hb9 := hid (hb.alloc hb.size (.cells #[.int .i64 v] 3))
            have hws := hb.size
            clear hc2 ha hv hO
            generalize xA = sA at HOS hA2
            subst hA2
            go_wp2_with (first
              | (at_builtin; refine wpList_push _ rfl _ _ 38 rfl wz.heap.size 3 ii _ 1 8 Tryz.underlying38 hii hz0 hz1 hz2 rfl (by decide) _ _ _ (by rfl) hO6.out #[.int .i64 v] wr.heap.size (by simp) (by rfl) (by rfl) (by rfl) (by unfold maxLen; omega) (by omega) (by omega) ?_; intro v' w5 hO4 hg4))
            have hb4 := hb9.out.grown hg4 (by simp; omega) (fun k hk => (hO9.out.lt k hk).1)
            have hO5 : w5.ownsRow wz.heap.size 3 1 v' (j + 1) ((posL am (xl.take (j + 1))).flatMap en1) := by
              rw [HTP.out, List.flatMap_append]
              simpa [en1] using hO4
            clear hO4 hg4 hO6 hO9 hb9 lk c6 l6 q0
            go_roundw
            case rel => exact ⟨j + 1, by omega, by go_num, hO5, hb4⟩
            case measure => simp [nOf]; omega
          · have hj' : j = xl.length := by omega
            subst hj'
            rw [List.take_length] at hO
            have HPL := hid (show (posL am xl).length = xl.length from by unfold posL; rw [List.length_map])
            have KS := hid (sortI_owned HPL.out hO (by omega))
            clear hj hjl
            go_wp2_with fail
            refine KS.out.mono ?_
            rintro e w5 ⟨rfl, hO5, hg5⟩
            have hb5 := hb.grown hg5 hb.size (fun k hk => (hO.lt k hk).1)
            have HS5 := hid (And.intro (HS4.out.1.next hb5) (And.intro (HS4.out.2.next hb5) (bthen HBT.out hb5)))
            have HO5 := hid hO5
            have HZL := hid hb5.size
            clear hO hg5 hb KS hO5 hb5 HS4 HBT
            have c6 : w5.cell? ⟨V6, 0, none⟩ = some (.map (some M)) := HS5.out.1.v.cell 0
            have l6 := HS5.out.1.v.lt
            have g0 : w5.cell? ⟨G, 0, none⟩ = some (.string xn) := HS5.out.2.1.cell 0
            have lG := HS5.out.2.1.lt
            have p1 : w5.cell? ⟨P, 1, none⟩ = some (.slice SA k sc) := HS5.out.1.p.cell 1
            have lP := HS5.out.1.p.lt
            go_wp2_with fail
            refine wp_tail 8 (by kernel_rfl) (by kernel_rfl) ?_
            simp only [List.take_succ_cons, List.take_zero, List.drop_succ_cons, List.drop_zero]
            repeat still_step
            refine wpStill_nil ?_
            go_wp2_with (first
              | (at_mapUpdate; refine wpList_store _ rfl _ _ _ 147 3 rfl keyStr12 Tryz.underlying147 M am rfl (HS5.out.1.m.drew) xn (k : Int) rfl rfl ?_; intro w6 hM6 hg6 hs6; (have hT6 : Touch (· = M) w5 w6 := (Touch.of_below (Below.refl _ _).drew).then (Touch.of_grown hg6)); (have HS6 := hid (HS5.out.1.map hT6 hM6)); (have HG6 := hid (hT6.blk HS5.out.2.1 (fun e => HS5.out.1.m.notBlk HS5.out.2.1 e.symm))); (have HO6 := hid (own_touch HO5.out hT6 (fun g hg e => HS5.out.1.m.notOwn HO5.out (by rw [hg, e])))); clear hM6 hg6 hs6 hT6 c6 l6 g0 lG p1 lP HO5))
            go_frame
            have HT9 := hid (show (∀ A2 c2, enSt (twn (⟨xn, xv, xu, xe, xf, xr, xy, xw, xA, xc, xl⟩ : Stp) A2 c2) = [.string xn, .string xv, .string xu, .string xe, .bool xf, .int .i64 xr, .int .i64 xy, .int .i64 xw, .slice A2 xl.length c2]) from fun _ _ => rfl)
            obtain ⟨E, hE⟩ : ∃ E : World → World → Prop, ∀ w w', E w w' ↔ Touch (fun b => (Value.slice SA k sc).ownBlock = some b) w w' := ⟨_, fun _ _ => Iff.rfl⟩
            obtain ⟨CB, hCF, hCT⟩ : ∃ CB : Bool → Bool → World → Prop, (∀ b' w', CB false b' w' ↔ Below w6.heap.size w6 w') ∧ (∀ b' w', CB true b' w' ↔ E w6 w') := ⟨fun b _ w' => match b with | false => Below w6.heap.size w6 w' | true => E w6 w', fun _ _ => Iff.rfl, fun _ _ => Iff.rfl⟩
            have hEB : ∀ w w', Below w.heap.size w w' → E w w' := fun w w' hb => (hE _ _).2 (Touch.of_below hb)
            obtain ⟨C, hCd⟩ : ∃ C : World → Prop, ∀ w', C w' ↔ E w6 w' := ⟨_, fun _ => Iff.rfl⟩
            have HCC := hid (show ∀ b b' w', CB b b' w' → C w' from fun b b' w' h => (hCd _).2 (by
              cases b with
              | false => exact hEB _ _ ((hCF _ _).1 h)
              | true => exact (hCT _ _).1 h))
            have HCF := hid (show ∀ b', CB false b' w6.drew from fun b' => (hCF _ _).2 (Below.refl _ _).drew)
            have hall : ∀ p : In C, Blk p.w P 126 (planC nm (.slice SA k sc) (.slice BA k bc)) ∧ Blk p.w G 69 #[.string xn, .string xv, .string xu, .string xe, .bool xf, .int .i64 xr, .int .i64 xy, .int .i64 xw, .slice xA xl.length xc] := fun p => by
              have hT := (hE _ _).1 ((hCd _).1 p.h)
              exact ⟨hT.blk HS6.out.p (fun e => own_notBlk HS6.out.os HS6.out.p (by decide) e), hT.blk HG6.out (fun e => by have := HGL.out G e; omega)⟩
            have hne : Nonempty (In C) := ⟨⟨_, HCC.out _ _ _ (HCF.out false)⟩⟩
            have p1 : ∀ p : In C, p.w.cell? ⟨P, 1, none⟩ = some (.slice SA k sc) := fun p => (hall p).1.cell 1
            have lP : ∀ p : In C, P < p.w.heap.size := fun p => (hall p).1.lt
            have lG : ∀ p : In C, G < p.w.heap.size := fun p => (hall p).2.lt
            have g0 : ∀ p : In C, p.w.cell? ⟨G, 0, none⟩ = some (.string xn) := fun p => (hall p).2.cell 0
            have g1 : ∀ p : In C, p.w.cell? ⟨G, 1, none⟩ = some (.string xv) := fun p => (hall p).2.cell 1
            have g2 : ∀ p : In C, p.w.cell? ⟨G, 2, none⟩ = some (.string xu) := fun p => (hall p).2.cell 2
            have g3 : ∀ p : In C, p.w.cell? ⟨G, 3, none⟩ = some (.string xe) := fun p => (hall p).2.cell 3
            have g4 : ∀ p : In C, p.w.cell? ⟨G, 4, none⟩ = some (.bool xf) := fun p => (hall p).2.cell 4
            have g5 : ∀ p : In C, p.w.cell? ⟨G, 5, none⟩ = some (.int .i64 xr) := fun p => (hall p).2.cell 5
            have g6 : ∀ p : In C, p.w.cell? ⟨G, 6, none⟩ = some (.int .i64 xy) := fun p => (hall p).2.cell 6
            have g7 : ∀ p : In C, p.w.cell? ⟨G, 7, none⟩ = some (.int .i64 xw) := fun p => (hall p).2.cell 7
            have g8 : ∀ p : In C, p.w.cell? ⟨G, 8, none⟩ = some (.slice xA xl.length xc) := fun p => (hall p).2.cell 8
            have HE := hid hE
            have HEB := hid hEB
            have HFF := hid hCF
            have HFT := hid hCT
            have HVB := hid (show ∀ b, (Value.slice SA k sc).ownBlock = some b → b < w6.heap.size from fun b hb => (HS6.out.os.lt b hb).2)
            obtain ⟨R6, hR6⟩ : ∃ R6 : Value → World → Prop, ∀ u w', R6 u w' ↔ ∃ A2 c2, u = .agg (enSt (twn (⟨xn, xv, xu, xe, xf, xr, xy, xw, xA, xc, xl⟩ : Stp) A2 c2)).toArray ∧ OwnSt w6.heap.size w' (twn (⟨xn, xv, xu, xe, xf, xr, xy, xw, xA, xc, xl⟩ : Stp) A2 c2) := ⟨_, fun _ _ => Iff.rfl⟩
            obtain ⟨KM, hKM⟩ : ∃ KM : Value → World → Prop, ∀ u w', KM u w' ↔ ∃ g A2 c2, u = .slice (some ⟨g, 0, none⟩) 1 1 ∧ Blk w' g 69 (enSt (twn (⟨xn, xv, xu, xe, xf, xr, xy, xw, xA, xc, xl⟩ : Stp) A2 c2)).toArray ∧ w6.heap.size ≤ g := ⟨_, fun _ _ => Iff.rfl⟩
            have GR : Grow E E 99 (fun i => if i = 6 then some R6 else none) KM := by
              refine ⟨fun u w w' hk he => ?_, hEB, fun _ _ h => h, fun w w' w'' h1 h2 => (hE _ _).2 (((hE _ _).1 h1).then ((hE _ _).1 h2)), fun i R hi _ u w w' hr he => ?_, fun R hi => by simp at hi⟩
              · obtain ⟨g, A2, c2, h1, h2, h3⟩ := (hKM _ _).1 hk
                exact (hKM _ _).2 ⟨g, A2, c2, h1, ((hE _ _).1 he).blk h2 (fun e => by have := HVB.out g e; omega), h3⟩
              · split at hi
                · injection hi with hi
                  subst hi
                  obtain ⟨A2, c2, h1, h2⟩ := (hR6 _ _).1 hr
                  exact (hR6 _ _).2 ⟨A2, c2, h1, own_touch h2 ((hE _ _).1 he) (fun g hg e => by have := HVB.out g e; have := (h2.lt g hg).1; omega)⟩
                · cases hi
            have HR6 := hid hR6
            have HKM := hid hKM
            clear hCd hall hE hEB hCF hCT hR6 hKM
            refine wp_region_grow CB E E (fun i => if i = 6 then some R6 else none) KM 8 99 9 7 71 (by decide) GR (by kernel_rfl) (by simp) (by kernel_rfl) (by kernel_rfl) (HCF.out false) ⟨_, HCF.out true⟩ ?_
            simp only [List.take_succ_cons, List.take_zero, List.drop_succ_cons, List.drop_zero]
            refine wpG_part (fun a D D' hd h w' hC hD' => h w' hC (hd w' hD')) C HCC.out ⟨_, HCF.out false⟩ 2 2 (by kernel_rfl) (by kernel_rfl) (by kernel_rfl) ?_
            simp only [List.take_succ_cons, List.take_zero, List.drop_succ_cons, List.drop_zero]
            repeat (first | go_big_quiet_step (fail) | quiet_step (fail))
            refine wpQuiet_nil ?_
            refine wpG_one (fun a D D' hd h w' hC hD' => h w' hC (hd w' hD')) (by kernel_rfl) (by kernel_rfl) (by kernel_rfl) (.pointer (some ⟨P, 0, none⟩)) (fun b1 b2 w' _ hb' => by go_simp) ?_
            refine wpG_part (fun a D D' hd h w' hC hD' => h w' hC (hd w' hD')) C HCC.out ⟨_, HCF.out false⟩ 3 6 (by kernel_rfl) (by kernel_rfl) (by kernel_rfl) ?_
            simp only [List.take_succ_cons, List.take_zero, List.drop_succ_cons, List.drop_zero]
            repeat (first | go_big_quiet_step (fail) | quiet_step (fail))
            refine wpQuiet_nil ?_
            clear p1 lP lG g0 g1 g2 g3 g4 g5 g6 g7 g8 hne
            refine wpG_call (R := R6) (by kernel_rfl) (by rfl) (by kernel_rfl) (fun b' b2 w' hb' hw' => ⟨49, #[.agg #[.string xn, .string xv, .string xu, .string xe, .bool xf, .int .i64 xr, .int .i64 xy, .int .i64 xw, .slice xA xl.length xc]], by go_simp, ?_⟩) ?_
            · have hbf : b' = false := by
                cases b' with
                | false => rfl
                | true => exact absurd (hb'.1 rfl) (by simp only [Bool.not_eq_false]; kernel_rfl)
              subst hbf
              have hbw := (HFF.out _ _).1 hw'
              refine (twin_any (⟨xn, xv, xu, xe, xf, xr, xy, xw, xA, xc, xl⟩ : Stp) w' (HOS.out.next (bthen HS6.out.bel hbw))).mono ?_
              rintro e w'' ⟨A2, c2, rfl, hO, hb2⟩
              exact ⟨_, rfl, (HFF.out _ _).2 (bthen hbw hb2), hb2, (HR6.out _ _).2 ⟨A2, c2, rfl, own_base hO hbw.size⟩⟩
            rintro u ⟨wu, hu⟩
            obtain ⟨A2, c2, rfl, _⟩ := (HR6.out _ _).1 hu
            clear hu
            rw [show (enSt (twn (⟨xn, xv, xu, xe, xf, xr, xy, xw, xA, xc, xl⟩ : Stp) A2 c2)).toArray = #[.string xn, .string xv, .string xu, .string xe, .bool xf, .int .i64 xr, .int .i64 xy, .int .i64 xw, .slice A2 xl.length c2] from rfl]
            refine wpG_key (fun a D D' hd h w' hC hD' => h w' hC (hd w' hD')) (by kernel_rfl) (by kernel_rfl) (by kernel_rfl) (by kernel_rfl) (by kernel_rfl) (fun u w' => ∃ g, u = .slice (some ⟨g, 0, none⟩) 1 1 ∧ Blk w' g 69 #[.string xn, .string xv, .string xu, .string xe, .bool xf, .int .i64 xr, .int .i64 xy, .int .i64 xw, .slice A2 xl.length c2] ∧ w6.heap.size ≤ g) (fun u w' w'' ⟨g, h1, h2, h3⟩ he => ⟨g, h1, ((HE.out _ _).1 he).blk h2 (fun e => by have := HVB.out g e; omega), h3⟩) (fun w' hw' => ⟨.slice (some ⟨w'.heap.size, 0, none⟩) 1 1, w'.alloc (.cells #[.string xn, .string xv, .string xu, .string xe, .bool xf, .int .i64 xr, .int .i64 xy, .int .i64 xw, .slice A2 xl.length c2] 69), by go_simp, (HFF.out _ _).2 (((HFF.out _ _).1 hw').alloc ((HFF.out _ _).1 hw').size _), (Below.refl _ _).alloc (Nat.le_refl _) _, (HKM.out _ _).2 ⟨w'.heap.size, A2, c2, rfl, Blk.new _ _ _, ((HFF.out _ _).1 hw').size⟩, ⟨w'.heap.size, rfl, Blk.new _ _ _, ((HFF.out _ _).1 hw').size⟩⟩) (fun w' h _ => (HFF.out _ _).2 ((HFF.out _ _).1 h)) (fun w' h _ => (HFF.out _ _).2 ((HFF.out _ _).1 h)) ?_
            rintro u ⟨wu, hu1, hu2, g, rfl, hu3, hu4⟩
            obtain ⟨ist, hsi, hsz0, hsz1, hsz2⟩ := info_parts info_step12
            refine wpG_turn (fun a D D' hd h w' hC hD' => h w' hC (hd w' hD')) (v0 := .slice (some ⟨g, 0, none⟩) 1 1) (by rfl) ⟨wu, hu1, hu2⟩ (by kernel_rfl) (fun u w' => ∃ A3 c3, w'.ownsRow w.heap.size 69 9 u (Ls.length + 1) (Ls.flatMap enSt ++ enSt (twn (⟨xn, xv, xu, xe, xf, xr, xy, xw, xA, xc, xl⟩ : Stp) A3 c3)) ∧ Blk w' g 69 (enSt (twn (⟨xn, xv, xu, xe, xf, xr, xy, xw, xA, xc, xl⟩ : Stp) A3 c3)).toArray) (fun u w' w'' ⟨A3, c3, h1, h2⟩ hb => ⟨A3, c3, own_next h1 hb, h2.next hb⟩) (fun w' hw' hk' => ?_) ?_
            · obtain ⟨g', A3, c3, e1, h2, h3⟩ := (HKM.out _ _).1 hk'
              simp only [Value.slice.injEq, Option.some.injEq, Addr.mk.injEq, and_true] at e1
              subst e1
              have hbw := (HFF.out _ _).1 hw'
              have hS' := HS6.out.next hbw
              have hkl : Ls.length = k := by rw [HG.out.2.ls, HOL.out]
              refine exec_append_then (Operand.tmp 68) (Operand.tmp 71) 58 (by rfl) w.heap.size 69 ist _ 9 120 Tryz.underlying58 hsi hsz0 hsz1 hsz2 rfl (by decide) _ Ls.length (Ls.flatMap enSt) (by rfl) hS'.os ⟨g, 0, none⟩ 1 1 (enSt (twn (⟨xn, xv, xu, xe, xf, xr, xy, xw, xA, xc, xl⟩ : Stp) A3 c3)) (by rfl) (by rw [enSt_len]) (blk_news h2) (enSt_one _) (by unfold maxLen; omega) (by omega) hS'.bel.size ?_
              intro u w'' hO hgr
              have hTo := touch_own hgr
              exact ⟨(HFT.out _ _).2 ((HE.out _ _).2 ((Touch.of_below hbw).then hTo)), (HE.out _ _).2 hTo, A3, c3, hO, hTo.blk h2 (fun e => by have := HVB.out g e; omega)⟩
            rintro u ⟨wu2, hu5⟩
            clear hu5 hu1 hu2 hu3 hu4
            refine wpG_nil ?_
            intro wf hCf hDf
            obtain ⟨⟨⟨_, hD6⟩, ⟨g', e1, hD7, _⟩⟩, A3, c3, hD8, hD9⟩ := hDf
            have hTf := (HE.out _ _).1 ((HFT.out _ _).1 hCf)
            obtain ⟨A5, c5, e5, hD5⟩ := (HR6.out _ _).1 hD6
            simp only [Value.slice.injEq, Option.some.injEq, Addr.mk.injEq, and_true] at e1
            subst e1
            have e6 : A2 = A3 ∧ c2 = c3 := by
              unfold Blk at hD7 hD9
              rw [hD7] at hD9
              simp only [Option.some.injEq, Obj.cells.injEq] at hD9
              have := hD9.1
              simpa [enSt, twn] using this
            have e7 : A2 = A5 ∧ c2 = c5 := by simpa [enSt, twn] using e5
            obtain ⟨rfl, rfl⟩ := e6
            obtain ⟨rfl, rfl⟩ := e7
            have hls : Ls.length = k := by rw [HG.out.2.ls, HOL.out]
            have hS7 := HS6.out.grewS hTf (twn (⟨xn, xv, xu, xe, xf, xr, xy, xw, xA, xc, xl⟩ : Stp) A2 c2) hD8 (own_base hD5 HS6.out.bel.size)
            obtain ⟨SA', sc', e8, _⟩ := own_slice hD8
            rw [hls] at e8
            subst e8
            have hO7 := own_touch (own_touch HO6.out hTf (fun g hg e => own_other HS6.out.os HO6.out (by decide) hg e)) (Touch.setCell wf P 1 (.slice SA' (k + 1) sc')) (fun g hg e => own_notBlk (own_touch HO6.out hTf (fun g hg e => own_other HS6.out.os HO6.out (by decide) hg e)) (hTf.blk HS6.out.p (fun e => own_notBlk HS6.out.os HS6.out.p (by decide) e)) (by decide) (by rw [hg, e]))
            have hP7 := hTf.blk HS6.out.p (fun e => own_notBlk HS6.out.os HS6.out.p (by decide) e)
            have p1 : wf.cell? ⟨P, 1, none⟩ = some (.slice SA k sc) := hP7.cell 1
            have f1 := hP7.free 1
            have lP := hP7.lt
            have HS7 := hid hS7
            have HO7 := hid hO7
            clear hS7 hO7 hP7 hTf hD5 hD6 hD7 hD8 hD9 e5 hCf HE HEB HFF HFT HVB HR6 HKM HCC HCF GR HT9 HS6 HG6 HO6 HZL
            go_wp2_with fail
            obtain ⟨w7, hw7⟩ : ∃ w7, w7 = wf.setCell ⟨P, 1, none⟩ (.slice SA' (k + 1) sc') := ⟨_, rfl⟩
            rw [← hw7] at HS7 HO7
            rw [← hw7]
            clear hw7 p1 f1 lP
            obtain ⟨irw, hri, hrz0, hrz1, hrz2⟩ := info_parts info_irow12
            obtain ⟨cs, hcs⟩ : ∃ cs, cs = Lib.compact (srtI (posL am xl)) := ⟨_, rfl⟩
            have hOd : w7.drew.ownsRow wz.heap.size 3 1 u9 xl.length ((srtI (posL am xl)).flatMap en1) := own_next HO7.out (Below.refl _ _).drew
            have KC := hid (compI_owned (by rw [srtI_len, HPL.out]) hOd (by omega))
            rw [← hcs] at KC
            have HCS := hid hcs
            have HNP := hid (show ∀ b, u9.ownBlock = some b → b ≠ P from fun b hb e => own_notBlk HO7.out HS7.out.p (by decide) (by rw [hb, e]))
            have hls : Ls.length = k := by rw [HG.out.2.ls, HOL.out]
            have hbs : Bs.length = k := by rw [HG.out.2.bs, HOL.out]
            have HBS := hid hbs
            have HKI := hid hlt
            have hb8 : (Bs.length + 1) * 24 ≤ 140737488355328 := by omega
            have hb9 : Bs.length + 1 ≤ maxLen := by unfold maxLen; omega
            have HVN := hid (show ∀ q, u9.ownBlock = some q → q < w7.heap.size from fun q hq => (HO7.out.lt q hq).2)
            have HBN := hid (show ∀ q, (Value.slice BA k bc).ownBlock = some q → q < w7.heap.size from fun q hq => (HS7.out.ob.lt q hq).2)
            obtain ⟨F, hF⟩ : ∃ F : World → World → Prop, ∀ w w', F w w' ↔ Touch (fun b => (Value.slice BA k bc).ownBlock = some b) w w' := ⟨_, fun _ _ => Iff.rfl⟩
            obtain ⟨E, hE⟩ : ∃ E : World → World → Prop, ∀ w w', E w w' ↔ Touch (fun b => (Value.slice BA k bc).ownBlock = some b ∨ u9.ownBlock = some b) w w' := ⟨_, fun _ _ => Iff.rfl⟩
            obtain ⟨CB, hC0, hC1, hC2⟩ : ∃ CB : Bool → Bool → World → Prop, (∀ w', CB false false w' ↔ Below w7.heap.size w7 w') ∧ (∀ w', CB false true w' ↔ Touch (fun b => u9.ownBlock = some b) w7 w') ∧ (∀ b' w', CB true b' w' ↔ E w7 w') := ⟨fun b b' w' => match b, b' with | false, false => Below w7.heap.size w7 w' | false, true => Touch (fun b => u9.ownBlock = some b) w7 w' | true, _ => E w7 w', fun _ => Iff.rfl, fun _ => Iff.rfl, fun _ _ => Iff.rfl⟩
            have hFB : ∀ w w', Below w.heap.size w w' → F w w' := fun w w' hb => (hF _ _).2 (Touch.of_below hb)
            have hFE : ∀ w w', F w w' → E w w' := fun w w' hf => (hE _ _).2 (((hF _ _).1 hf).mono (fun _ h => .inl h))
            obtain ⟨C, hCd⟩ : ∃ C : World → Prop, ∀ w', C w' ↔ E w7 w' := ⟨_, fun _ => Iff.rfl⟩
            have HCC := hid (show ∀ b b' w', CB b b' w' → C w' from fun b b' w' h => (hCd _).2 (by
              cases b with
              | false =>
                cases b' with
                | false => exact hFE _ _ (hFB _ _ ((hC0 _).1 h))
                | true => exact (hE _ _).2 (((hC1 _).1 h).mono (fun _ h => .inr h))
              | true => exact (hC2 _ _).1 h))
            have HCF := hid (show CB false false w7.drew from (hC0 _).2 (Below.refl _ _).drew)
            have HCT := hid (show CB false true w7 from (hC1 _).2 (Touch.refl _ _))
            have hall : ∀ p : In C, Blk p.w P 126 (planC nm (.slice SA' (k + 1) sc') (.slice BA k bc)) := fun p => ((hE _ _).1 ((hCd _).1 p.h)).blk HS7.out.p (fun e => e.elim (fun e => own_notBlk HS7.out.ob HS7.out.p (by decide) e) (fun e => HNP.out P e rfl))
            have hne : Nonempty (In C) := ⟨⟨_, HCC.out _ _ _ HCF.out⟩⟩
            have p2 : ∀ p : In C, p.w.cell? ⟨P, 2, none⟩ = some (.slice BA k bc) := fun p => (hall p).cell 2
            have lP : ∀ p : In C, P < p.w.heap.size := fun p => (hall p).lt
            obtain ⟨R6, hR6⟩ : ∃ R6 : Value → World → Prop, ∀ u w', R6 u w' ↔ ∃ A8 cap8, u = .slice A8 cs.length cap8 ∧ w'.ownsRow wz.heap.size 3 1 (.slice A8 cs.length cap8) cs.length (cs.flatMap en1) := ⟨_, fun _ _ => Iff.rfl⟩
            obtain ⟨KM, hKM⟩ : ∃ KM : Value → World → Prop, ∀ u w', KM u w' ↔ ∃ g A8 cap8, u = .slice (some ⟨g, 0, none⟩) 1 1 ∧ Blk w' g 38 #[.slice A8 cs.length cap8] ∧ w7.heap.size ≤ g := ⟨_, fun _ _ => Iff.rfl⟩
            have GR : Grow E F 6 (fun i => if i = 6 then some R6 else none) KM := by
              refine ⟨fun u w w' hk he => ?_, hFB, hFE, fun w w' w'' h1 h2 => (hE _ _).2 (((hE _ _).1 h1).then ((hE _ _).1 h2)), fun i R hi hn => ?_, fun R hi u w w' hr he => ?_⟩
              · obtain ⟨g, A8, cap8, h1, h2, h3⟩ := (hKM _ _).1 hk
                exact (hKM _ _).2 ⟨g, A8, cap8, h1, ((hE _ _).1 he).blk h2 (fun e => e.elim (fun e => by have := HBN.out g e; omega) (fun e => by have := HVN.out g e; omega)), h3⟩
              · simp [hn] at hi
              · simp only [if_true, Option.some.injEq] at hi
                subst hi
                obtain ⟨A8, cap8, h1, h2⟩ := (hR6 _ _).1 hr
                exact (hR6 _ _).2 ⟨A8, cap8, h1, own_touch h2 ((hF _ _).1 he) (fun g hg e => by have h8 := HBZ.out g e; have h9 := (h2.lt g hg).1; omega)⟩
            have HE := hid hE
            have HF := hid hF
            have H0 := hid hC0
            have H1 := hid hC1
            have H2 := hid hC2
            have HR6 := hid hR6
            have HKM := hid hKM
            clear hCd hall hE hF hC0 hC1 hC2 hR6 hKM hFB hFE
            refine wp_region_grow CB E F (fun i => if i = 6 then some R6 else none) KM 8 6 9 7 82 (by decide) GR (by kernel_rfl) (by simp) (by kernel_rfl) (by kernel_rfl) HCF.out ⟨_, HCT.out⟩ ?_
            simp only [List.take_succ_cons, List.take_zero, List.drop_succ_cons, List.drop_zero]
            refine wpG_part (fun a D D' hd h w' hC hD' => h w' hC (hd w' hD')) C HCC.out ⟨_, HCF.out⟩ 2 2 (by kernel_rfl) (by kernel_rfl) (by kernel_rfl) ?_
            simp only [List.take_succ_cons, List.take_zero, List.drop_succ_cons, List.drop_zero]
            repeat (first | go_big_quiet_step (fail) | quiet_step (fail))
            refine wpQuiet_nil ?_
            refine wpG_one (fun a D D' hd h w' hC hD' => h w' hC (hd w' hD')) (by kernel_rfl) (by kernel_rfl) (by kernel_rfl) (.pointer (some ⟨P, 0, none⟩)) (fun b1 b2 w' _ hb' => by go_simp) ?_
            refine wpG_part (fun a D D' hd h w' hC hD' => h w' hC (hd w' hD')) C HCC.out ⟨_, HCF.out⟩ 3 6 (by kernel_rfl) (by kernel_rfl) (by kernel_rfl) ?_
            simp only [List.take_succ_cons, List.take_zero, List.drop_succ_cons, List.drop_zero]
            repeat (first | go_big_quiet_step (fail) | quiet_step (fail))
            refine wpQuiet_nil ?_
            clear p2 lP hne
            refine wpG_turnc (R := R6) (by kernel_rfl) (by rfl) (by kernel_rfl) (fun w' hw' => ⟨67, #[u9], by go_simp, ?_⟩) ?_
            · have hbw := (H0.out _).1 hw'
              have hO' : w'.ownsRow wz.heap.size 3 1 u9 xl.length ((srtI (posL am xl)).flatMap en1) := own_next HO7.out hbw
              have hKC := compI_owned (w := w') (by rw [srtI_len, HPL.out]) hO' (by omega)
              rw [← HCS.out] at hKC
              refine hKC.mono ?_
              rintro e w'' ⟨A8, cap8, rfl, hO8, hg8⟩
              have hT := touch_own hg8
              exact ⟨_, rfl, (H1.out _).2 ((Touch.of_below hbw).then hT), (HE.out _ _).2 (hT.mono (fun _ h => .inr h)), (HR6.out _ _).2 ⟨A8, cap8, rfl, hO8⟩⟩
            rintro u ⟨wu, hu⟩
            obtain ⟨A8, cap8, rfl, _⟩ := (HR6.out _ _).1 hu
            clear hu
            refine wpG_key (fun a D D' hd h w' hC hD' => h w' hC (hd w' hD')) (by kernel_rfl) (by kernel_rfl) (by kernel_rfl) (by kernel_rfl) (by kernel_rfl) (fun u w' => ∃ g, u = .slice (some ⟨g, 0, none⟩) 1 1 ∧ Blk w' g 38 #[.slice A8 cs.length cap8] ∧ w7.heap.size ≤ g) (fun u w' w'' ⟨g, h1, h2, h3⟩ he => ⟨g, h1, ((HE.out _ _).1 he).blk h2 (fun e => e.elim (fun e => by have := HBN.out g e; omega) (fun e => by have := HVN.out g e; omega)), h3⟩) (fun w' hw' => ⟨.slice (some ⟨w'.heap.size, 0, none⟩) 1 1, w'.alloc (.cells #[.slice A8 cs.length cap8] 38), by go_simp, (H1.out _).2 (((H1.out _).1 hw').alloc _), (Below.refl _ _).alloc (Nat.le_refl _) _, (HKM.out _ _).2 ⟨w'.heap.size, A8, cap8, rfl, Blk.new _ _ _, ((H1.out _).1 hw').size⟩, ⟨w'.heap.size, rfl, Blk.new _ _ _, ((H1.out _).1 hw').size⟩⟩) (fun _ _ h => by cases h) (fun _ _ h => by cases h) ?_
            rintro u ⟨wu, hu1, hu2, g, rfl, hu3, hu4⟩
            refine wpG_turn (fun a D D' hd h w' hC hD' => h w' hC (hd w' hD')) (v0 := .slice (some ⟨g, 0, none⟩) 1 1) (by rfl) ⟨wu, hu1, hu2⟩ (by kernel_rfl) (fun u w' => ∃ A9 cap9, w'.ownsRow w.heap.size 38 1 u (Bs.length + 1) (Bs.flatMap enR ++ [.slice A9 cs.length cap9]) ∧ Blk w' g 38 #[.slice A9 cs.length cap9]) (fun u w' w'' ⟨A3, c3, h1, h2⟩ hb => ⟨A3, c3, own_next h1 hb, h2.next hb⟩) (fun w' hw' hk' => ?_) ?_
            · obtain ⟨g', A9, cap9, e1, h2, h3⟩ := (HKM.out _ _).1 hk'
              simp only [Value.slice.injEq, Option.some.injEq, Addr.mk.injEq, and_true] at e1
              subst e1
              have hT := (H1.out _).1 hw'
              have hob := own_touch HS7.out.ob hT (fun g hg e => own_other HO7.out HS7.out.ob (by decide) hg e)
              refine exec_append_then (Operand.tmp 79) (Operand.tmp 82) 109 (by rfl) w.heap.size 38 irw _ 1 24 Tryz.underlying109 hri hrz0 hrz1 hrz2 rfl (by decide) _ Bs.length (Bs.flatMap enR) (by rfl) hob ⟨g, 0, none⟩ 1 1 [.slice A9 cs.length cap9] (by rfl) (by rfl) (blk_news h2) (by intro u hu; simp at hu; subst hu; rfl) hb9 hb8 (Nat.le_trans HS7.out.bel.size hT.size) ?_
              intro u w'' hO hgr
              have hTo := touch_own hgr
              exact ⟨(H2.out _ _).2 ((HE.out _ _).2 ((hT.mono (fun _ h => .inr h)).then (hTo.mono (fun _ h => .inl h)))), (HF.out _ _).2 hTo, A9, cap9, hO, hTo.blk h2 (fun e => by have := HBN.out g e; omega)⟩
            rintro u ⟨wu2, hu5⟩
            clear hu5 hu1 hu2 hu3 hu4
            refine wpG_nil ?_
            intro wf hCf hDf
            obtain ⟨⟨⟨_, hD6⟩, ⟨g', e1, hD7, _⟩⟩, A9, cap9, hD8, hD9⟩ := hDf
            have hTf := (HE.out _ _).1 ((H2.out _ _).1 hCf)
            obtain ⟨A5, c5, e5, hD5⟩ := (HR6.out _ _).1 hD6
            simp only [Value.slice.injEq, Option.some.injEq, Addr.mk.injEq, and_true] at e1
            subst e1
            have e6 : A8 = A9 ∧ cap8 = cap9 := by
              unfold Blk at hD7 hD9
              rw [hD7] at hD9
              simp only [Option.some.injEq, Obj.cells.injEq] at hD9
              have := hD9.1
              simpa using this
            have e7 : A8 = A5 ∧ cap8 = c5 := by simpa using e5
            obtain ⟨rfl, rfl⟩ := e6
            obtain ⟨rfl, rfl⟩ := e7
            obtain ⟨BA', bc', e8, _⟩ := own_slice hD8
            rw [HBS.out] at e8
            subst e8
            have hS8 := HS7.out.grewB hTf (fun q hq => by have h1 := (HO7.out.lt q hq).1; have h2 := HWZ.out; omega) (own_notBlk HO7.out HS7.out.d (by decide)) (own_notBlk HO7.out HS7.out.v (by decide)) (own_notBlk HO7.out HS7.out.p (by decide)) (fun e => HS7.out.m.notOwn HO7.out e.symm) (fun q hq => own_other HO7.out HS7.out.os (by decide) hq) (fun s hs q hq => own_other HO7.out (HS7.out.st s hs) (by decide) hq) (fun b hb q hq e => by have h1 := HBL.out b hb q hq; have h2 := (HO7.out.lt q e).1; omega) ⟨A8, cap8, cs⟩ hD8 (own_base hD5 HWZ.out)
            have hP8 := hTf.blk HS7.out.p (fun e => e.elim (fun e => own_notBlk HS7.out.ob HS7.out.p (by decide) e) (fun e => HNP.out P e rfl))
            have p2 : wf.cell? ⟨P, 2, none⟩ = some (.slice BA k bc) := hP8.cell 2
            have f2 := hP8.free 2
            have lP := hP8.lt
            have HL8 := hid (lenAt_of (hS8.p.cell 1))
            have HS8 := hid hS8
            have HG8 := hid (show AtM l (ordN (grf l) (k + 1)) (mset am xn (k : Int)) ∧ PlG l (ordN (grf l) (k + 1)) (Ls ++ [twn (⟨xn, xv, xu, xe, xf, xr, xy, xw, xA, xc, xl⟩ : Stp) A2 c2]) (Bs ++ [⟨A8, cap8, cs⟩]) from by
              rw [HON.out]
              refine ⟨?_, HG.out.2.snoc HOO.out HSI.out HI.out.2 A2 c2 _ ?_⟩
              · have := HG.out.1.snoc HCO.out.1 HSI.out HI.out.1
                rw [HOL.out] at this
                exact this
              · rw [HCS.out, HPO.out]
                exact bfOk_made _ _ _)
            have HKL := hid hlt
            clear hS8 hP8 hTf hD5 hD6 hD7 hD8 hD9 e5 hCf HE HF H0 H1 H2 HR6 HKM HCC HCF HCT GR HS7 HO7 HVN HBN HBS hbs hls hb8 hb9 HNP HCS KC
            go_wp2_with fail
            go_roundw
            case rel => exact ⟨k + 1, SA', BA', sc', bc', _, _, _, by omega, HS8, HG8⟩
            case measure => rw [HL8.out, HLEN.out]; have := HKL.out; omega
      · have hk' : k = l.length := by omega
        obtain ⟨wq, hwq⟩ : ∃ wq, wq = wr.drewN nq := ⟨_, rfl⟩
        have hbq : Below wr.heap.size wr wq := by rw [hwq]; exact below_drewN (Below.refl _ _) nq
        rw [← hwq]
        have HS9 := hid (HS.out.next hbq)
        subst hk'
        clear hk hlt hwq hbq p1 lP d1 lD HS
        go_wp2_with fail
        go_ret2
        refine ⟨HS9.out.bel, .inr ⟨by rw [← HC.out]; exact HC0.out, P, _, _, Ls, Bs, rfl, ⟨HS9.out.p, HS9.out.os, HS9.out.ob, HS9.out.st, HS9.out.rw, HS9.out.lo.1⟩, HG.out.2⟩⟩
  · have tc : (c != 0) = true := by simp [hc0]
    have HC0 := hid hc0
    have HB := hid hb01
    clear hc0 hb1 hb01 KN HB0
    go_wp2_with fail
    go_ret2
    exact ⟨HB.out, .inl ⟨by rw [← HC.out]; exact HC0.out, by rw [← HC.out]; rfl⟩⟩

end Go.Proofs.YtoemmakhbiiknaaGreat

namespace Go.Proofs.YtoemmakhbiiknaaGreat
open Go.RowKit Go.WideShapes Go.ChangeShapes Go.ChangeAt Go.Deep
set_option linter.unusedVariables false

def onceV (dn : Bool) : Value := .int .u32 (if dn then 1 else 0)
def rowsC (Hs : List IRow) : Array Value := (Hs.flatMap enR).toArray
/-- A plan, as it is asked. -/
structure PlW (base : Nat) (nm : ByteArray) (P : Nat) (vS vB vH : Value) (Ls : List Stp) (Bs Hs : List IRow) (dn : Bool) (ask : Int) (w : World) : Prop where
  p : Blk w P 126 #[.string nm, vS, vB, onceV dn, .int .i32 0, .int .u32 0, vH, .int .i64 ask]
  os : w.ownsRow base 69 9 vS Ls.length (Ls.flatMap enSt)
  ob : w.ownsRow base 38 1 vB Bs.length (Bs.flatMap enR)
  st : ∀ s ∈ Ls, OwnSt base w s
  rw : ∀ b ∈ Bs, OwnR base w b
  hs : dn = true → ∃ H, vH = .slice (some ⟨H, 0, none⟩) Ls.length Ls.length ∧ Blk w H 38 (rowsC Hs) ∧ base ≤ H ∧ ∀ b ∈ Hs, OwnR base w b
  hl : dn = true → Hs.length = Ls.length
  lo : base ≤ P
theorem PlB.plw {base : Nat} {nm : ByteArray} {P : Nat} {vS vB : Value} {Ls : List Stp} {Bs : List IRow} {w : World} (h : PlB base nm P vS vB Ls Bs w) : PlW base nm P vS vB (.slice none 0 0) Ls Bs [] false 0 w := ⟨h.p, h.os, h.ob, h.st, h.rw, (fun e => by cases e), (fun e => by cases e), h.lo⟩
section
variable {base : Nat} {nm : ByteArray} {P : Nat} {vS vB vH : Value} {Ls : List Stp} {Bs Hs : List IRow} {dn : Bool} {ask : Int} {w w' : World}
theorem PlW.next (h : PlW base nm P vS vB vH Ls Bs Hs dn ask w) (hb : Below w.heap.size w w') : PlW base nm P vS vB vH Ls Bs Hs dn ask w' :=
  ⟨h.p.next hb, own_next h.os hb, own_next h.ob hb, fun s hs => own_next (h.st s hs) hb, fun b hbb => own_next (h.rw b hbb) hb, fun e => by obtain ⟨H, h1, h2, h3, h4⟩ := h.hs e; exact ⟨H, h1, h2.next hb, h3, fun b hbb => own_next (h4 b hbb) hb⟩, h.hl, h.lo⟩

set_option maxRecDepth 100000 in
theorem len_nil (w : World) : Calls Tryz.prog 17 #[.pointer none] w fun e w' => e = .returned (.int .i64 0) ∧ w' = w := by
  go_enter Tryz.func17, Tryz.ntmps17
  go_wp2_with fail
  go_ret
  exact ⟨rfl, rfl⟩
set_option maxRecDepth 100000 in
theorem len_some (h : PlW base nm P vS vB vH Ls Bs Hs dn ask w) : Calls Tryz.prog 17 #[.pointer (some ⟨P, 0, none⟩)] w fun e w' => e = .returned (.int .i64 (Ls.length : Int)) ∧ w' = w := by
  obtain ⟨A, cap, hv, _⟩ := own_slice h.os
  have p1 : w.cell? ⟨P, 1, none⟩ = some (.slice A Ls.length cap) := by rw [h.p.cell, ← hv]; rfl
  have lP := h.p.lt
  clear h hv
  go_enter Tryz.func17, Tryz.ntmps17
  go_wp2_with fail
  go_ret
  exact ⟨rfl, rfl⟩
set_option maxRecDepth 100000 in
theorem name_nil (w : World) : Calls Tryz.prog 60 #[.pointer none] w fun e w' => e = .returned (.string ⟨#[]⟩) ∧ w' = w := by
  go_enter Tryz.func60, Tryz.ntmps60
  go_wp2_with fail
  go_ret
  exact ⟨rfl, rfl⟩
set_option maxRecDepth 100000 in
theorem name_some (h : PlW base nm P vS vB vH Ls Bs Hs dn ask w) : Calls Tryz.prog 60 #[.pointer (some ⟨P, 0, none⟩)] w fun e w' => e = .returned (.string nm) ∧ w' = w := by
  have p0 : w.cell? ⟨P, 0, none⟩ = some (.string nm) := h.p.cell 0
  have lP := h.p.lt
  clear h
  go_enter Tryz.func60, Tryz.ntmps60
  go_wp2_with fail
  go_ret
  exact ⟨rfl, rfl⟩
/-- Is there a step with this number? -/
def hasN (n : Nat) (i : Int) : Bool := decide (0 ≤ i) && decide (i < (n : Int))
set_option maxRecDepth 100000 in
set_option maxHeartbeats 4000000 in
theorem has_any (pv : Value) (n : Nat) (i : Int) (w : World) (KL : Calls Tryz.prog 17 #[pv] w fun e w' => e = .returned (.int .i64 (n : Int)) ∧ w' = w) : Calls Tryz.prog 47 #[pv, .int .i64 i] w fun e w' => e = .returned (.bool (hasN n i)) ∧ w' = w := by
  have HK := hid KL
  clear KL
  by_cases h0 : 0 ≤ i
  · have HV := hid (show hasN n i = decide (i < (n : Int)) from by simp [hasN, h0])
    go_enter Tryz.func47, Tryz.ntmps47
    go_wp2_with fail
    refine HK.out.mono ?_
    rintro e w2 ⟨rfl, rfl⟩
    go_wp2_with fail
    go_ret
    exact ⟨by rw [HV.out]; rfl, rfl⟩
  · have HV := hid (show hasN n i = false from by simp [hasN, h0])
    go_enter Tryz.func47, Tryz.ntmps47
    go_wp2_with fail
    go_ret
    exact ⟨by rw [HV.out]; rfl, rfl⟩
def zeroSt : Stp := ⟨⟨#[]⟩, ⟨#[]⟩, ⟨#[]⟩, ⟨#[]⟩, false, 0, 0, 0, none, 0, []⟩
/-- The step with a number; none: a step without anything. -/
def stepAt (Ls : List Stp) (i : Int) : Stp := if 0 ≤ i then (Ls[i.toNat]?).getD zeroSt else zeroSt
theorem stepAt_out {Ls : List Stp} {i : Int} (h : hasN Ls.length i = false) : stepAt Ls i = zeroSt := by
  unfold stepAt
  split
  · rename_i h0
    unfold hasN at h
    simp only [h0, decide_true, Bool.true_and, decide_eq_false_iff_not] at h
    rw [List.getElem?_eq_none (by omega)]
    rfl
  · rfl
theorem hasN_in {n : Nat} {i : Int} (h : hasN n i = true) : ∃ q : Nat, i = (q : Int) ∧ q < n := by
  unfold hasN at h
  simp only [Bool.and_eq_true, decide_eq_true_eq] at h
  exact ⟨i.toNat, by omega, by omega⟩
theorem stepAt_in {Ls : List Stp} {q : Nat} {s : Stp} (h : Ls[q]? = some s) : stepAt Ls (q : Int) = s := by
  unfold stepAt
  rw [if_pos (by omega)]
  simp [h]
/-- What Step leaves. -/
def StepR (s : Stp) (w : World) (e : Ending) (w' : World) : Prop := ∃ A cap, e = .returned (.agg (enSt (twn s A cap)).toArray) ∧ OwnSt w.heap.size w' (twn s A cap) ∧ Below w.heap.size w w'
set_option maxRecDepth 100000 in
set_option maxHeartbeats 8000000 in
theorem step_out (pv : Value) (n : Nat) (i : Int) (w : World) (KL : ∀ w, Calls Tryz.prog 17 #[pv] w fun e w' => e = .returned (.int .i64 (n : Int)) ∧ w' = w) (hi : hasN n i = false) : Calls Tryz.prog 19 #[pv, .int .i64 i] w (StepR zeroSt w) := by
  have hwa : Below w.heap.size w (w.alloc (.cells #[.string ⟨#[]⟩, .string ⟨#[]⟩, .string ⟨#[]⟩, .string ⟨#[]⟩, .bool false, .int .i64 0, .int .i64 0, .int .i64 0, .slice none 0 0] 69)) := (Below.refl _ _).alloc (Nat.le_refl _) _
  have hB := Blk.new w 69 #[.string ⟨#[]⟩, .string ⟨#[]⟩, .string ⟨#[]⟩, .string ⟨#[]⟩, .bool false, .int .i64 0, .int .i64 0, .int .i64 0, .slice none 0 0]
  obtain ⟨W, hW⟩ : ∃ W, W = w.alloc (.cells #[.string ⟨#[]⟩, .string ⟨#[]⟩, .string ⟨#[]⟩, .string ⟨#[]⟩, .bool false, .int .i64 0, .int .i64 0, .int .i64 0, .slice none 0 0] 69) := ⟨_, rfl⟩
  obtain ⟨G, hG⟩ : ∃ G, G = w.heap.size := ⟨_, rfl⟩
  rw [← hW] at hwa hB
  rw [← hG] at hB
  have HK := hid (has_any pv n i W (KL W))
  rw [hi] at HK
  have HWG := hid (And.intro hW hG)
  have HB := hid hB
  have hT5 := Touch.setRow W G #[.string ⟨#[]⟩, .string ⟨#[]⟩, .string ⟨#[]⟩, .string ⟨#[]⟩, .bool false, .int .i64 0, .int .i64 0, .int .i64 0, .slice none 0 0]
  have hC5 := hB.setRow #[.string ⟨#[]⟩, .string ⟨#[]⟩, .string ⟨#[]⟩, .string ⟨#[]⟩, .bool false, .int .i64 0, .int .i64 0, .int .i64 0, .slice none 0 0]
  have hb5 := hwa.trans (hT5.below hwa.size (fun k hk => by rw [hk]; omega))
  obtain ⟨w5, hw5⟩ : ∃ w5, w5 = W.setRow G #[.string ⟨#[]⟩, .string ⟨#[]⟩, .string ⟨#[]⟩, .string ⟨#[]⟩, .bool false, .int .i64 0, .int .i64 0, .int .i64 0, .slice none 0 0] := ⟨_, rfl⟩
  rw [← hw5] at hC5 hb5
  have HW5 := hid hw5
  have HF := hid hb5
  have r0 : w5.cell? ⟨G, 0, none⟩ = some (.string ⟨#[]⟩) := hC5.cell 0
  have r1 : w5.cell? ⟨G, 1, none⟩ = some (.string ⟨#[]⟩) := hC5.cell 1
  have r2 : w5.cell? ⟨G, 2, none⟩ = some (.string ⟨#[]⟩) := hC5.cell 2
  have r3 : w5.cell? ⟨G, 3, none⟩ = some (.string ⟨#[]⟩) := hC5.cell 3
  have r4 : w5.cell? ⟨G, 4, none⟩ = some (.bool false) := hC5.cell 4
  have r5 : w5.cell? ⟨G, 5, none⟩ = some (.int .i64 0) := hC5.cell 5
  have r6 : w5.cell? ⟨G, 6, none⟩ = some (.int .i64 0) := hC5.cell 6
  have r7 : w5.cell? ⟨G, 7, none⟩ = some (.int .i64 0) := hC5.cell 7
  have r8 : w5.cell? ⟨G, 8, none⟩ = some (.slice none 0 0) := hC5.cell 8
  have lG5 := hC5.lt
  clear hwa hB hW hG hT5 hC5 hb5 hw5 KL
  go_enter Tryz.func19, Tryz.ntmps19
  go_upto_region 1 with fail
  rw [← HWG.out.1, ← HWG.out.2]
  go_wp2_with fail
  refine HK.out.mono ?_
  rintro e w2 ⟨rfl, rfl⟩
  go_wp2_with (first
    | (refine wpList_store_row rfl 69 _ _ rfl G #[.string ⟨#[]⟩, .string ⟨#[]⟩, .string ⟨#[]⟩, .string ⟨#[]⟩, .bool false, .int .i64 0, .int .i64 0, .int .i64 0, .slice none 0 0] rfl rfl 69 _ HB.out (by kernel_rfl) (by rfl) (by simp [Value.oneCell']) ?_; rw [← HW5.out]))
  refine bodyPost_ret (v := .agg #[.string ⟨#[]⟩, .string ⟨#[]⟩, .string ⟨#[]⟩, .string ⟨#[]⟩, .bool false, .int .i64 0, .int .i64 0, .int .i64 0, .slice none 0 0]) (by simp [results, Tryz.results19, go_sem, r0, r1, r2, r3, r4, r5, r6, r7, r8]) rfl ?_
  exact ⟨none, 0, rfl, World.ownsRow_nil _ _ _ _, HF.out⟩
set_option maxRecDepth 100000 in
set_option maxHeartbeats 8000000 in
theorem step_in (h : PlW base nm P vS vB vH Ls Bs Hs dn ask w) (q : Nat) (s : Stp) (hq : Ls[q]? = some s) (hok : s.after.length * 16 ≤ 140737488355328) : Calls Tryz.prog 19 #[.pointer (some ⟨P, 0, none⟩), .int .i64 (q : Int)] w (StepR s w) := by
  have hql : q < Ls.length := (List.getElem?_eq_some_iff.1 hq).1
  have hwa : Below w.heap.size w (w.alloc (.cells #[.string ⟨#[]⟩, .string ⟨#[]⟩, .string ⟨#[]⟩, .string ⟨#[]⟩, .bool false, .int .i64 0, .int .i64 0, .int .i64 0, .slice none 0 0] 69)) := (Below.refl _ _).alloc (Nat.le_refl _) _
  have hB := Blk.new w 69 #[.string ⟨#[]⟩, .string ⟨#[]⟩, .string ⟨#[]⟩, .string ⟨#[]⟩, .bool false, .int .i64 0, .int .i64 0, .int .i64 0, .slice none 0 0]
  have h2 := h.next hwa
  obtain ⟨W, hW⟩ : ∃ W, W = w.alloc (.cells #[.string ⟨#[]⟩, .string ⟨#[]⟩, .string ⟨#[]⟩, .string ⟨#[]⟩, .bool false, .int .i64 0, .int .i64 0, .int .i64 0, .slice none 0 0] 69) := ⟨_, rfl⟩
  obtain ⟨G, hG⟩ : ∃ G, G = w.heap.size := ⟨_, rfl⟩
  rw [← hW] at hwa hB h2
  rw [← hG] at hB
  have HK := hid (has_any (.pointer (some ⟨P, 0, none⟩)) Ls.length (q : Int) W (len_some h2))
  rw [show hasN Ls.length (q : Int) = true from by simp [hasN]; exact hql] at HK
  have HWG := hid (And.intro hW hG)
  have HB := hid hB
  have HBW := hid hwa
  obtain ⟨A, cap, hv, hRd⟩ := own_slice h2.os
  obtain ⟨b, o, hAA, _, hcc⟩ := hRd.at_ 9 enSt_len (by omega) hq
  have KT := hid (twin_any s W ⟨own_rd (h2.st s (List.mem_of_getElem? hq)), hok⟩)
  have p1 : W.cell? ⟨P, 1, none⟩ = some (.slice A Ls.length cap) := by rw [h2.p.cell, ← hv]; rfl
  have lP := h2.p.lt
  clear h hwa hB hW hG h2 hv hRd hq
  obtain ⟨xn, xv, xu, xe, xf, xr, xy, xw, xA, xc, xl⟩ := s
  subst hAA
  have q0 : W.cell? ⟨b, o + q * 9, none⟩ = some (.string xn) := hcc 0 _ rfl
  have q1 : W.cell? ⟨b, o + q * 9 + 1, none⟩ = some (.string xv) := hcc 1 _ rfl
  have q2 : W.cell? ⟨b, o + q * 9 + 2, none⟩ = some (.string xu) := hcc 2 _ rfl
  have q3 : W.cell? ⟨b, o + q * 9 + 3, none⟩ = some (.string xe) := hcc 3 _ rfl
  have q4 : W.cell? ⟨b, o + q * 9 + 4, none⟩ = some (.bool xf) := hcc 4 _ rfl
  have q5 : W.cell? ⟨b, o + q * 9 + 5, none⟩ = some (.int .i64 xr) := hcc 5 _ rfl
  have q6 : W.cell? ⟨b, o + q * 9 + 6, none⟩ = some (.int .i64 xy) := hcc 6 _ rfl
  have q7 : W.cell? ⟨b, o + q * 9 + 7, none⟩ = some (.int .i64 xw) := hcc 7 _ rfl
  have q8 : W.cell? ⟨b, o + q * 9 + 8, none⟩ = some (.slice xA xl.length xc) := hcc 8 _ rfl
  have KT2 : Hid (Calls Tryz.prog 49 #[.agg #[.string xn, .string xv, .string xu, .string xe, .bool xf, .int .i64 xr, .int .i64 xy, .int .i64 xw, .slice xA xl.length xc]] W fun e w' => ∃ A cap, e = .returned (.agg (enSt (twn (⟨xn, xv, xu, xe, xf, xr, xy, xw, xA, xc, xl⟩ : Stp) A cap)).toArray) ∧ OwnSt W.heap.size w' (twn (⟨xn, xv, xu, xe, xf, xr, xy, xw, xA, xc, xl⟩ : Stp) A cap) ∧ Below W.heap.size W w') := KT
  clear hcc KT
  go_enter Tryz.func19, Tryz.ntmps19
  go_upto_region 1 with fail
  rw [← HWG.out.1, ← HWG.out.2]
  go_wp2_with fail
  refine HK.out.mono ?_
  rintro e w2 ⟨rfl, rfl⟩
  go_wp2_with fail
  refine KT2.out.mono ?_
  rintro e w3 ⟨A2, c2, rfl, hO, hb3⟩
  rw [show (enSt (twn (⟨xn, xv, xu, xe, xf, xr, xy, xw, xA, xc, xl⟩ : Stp) A2 c2)).toArray = #[.string xn, .string xv, .string xu, .string xe, .bool xf, .int .i64 xr, .int .i64 xy, .int .i64 xw, .slice A2 xl.length c2] from rfl]
  have hB3 := HB.out.next hb3
  have hb03 := bthen HBW.out hb3
  have hT5 := Touch.setRow w3 G #[.string xn, .string xv, .string xu, .string xe, .bool xf, .int .i64 xr, .int .i64 xy, .int .i64 xw, .slice A2 xl.length c2]
  have hC5 := hB3.setRow #[.string xn, .string xv, .string xu, .string xe, .bool xf, .int .i64 xr, .int .i64 xy, .int .i64 xw, .slice A2 xl.length c2]
  have hO5 : OwnSt w2.heap.size (w3.setRow G #[.string xn, .string xv, .string xu, .string xe, .bool xf, .int .i64 xr, .int .i64 xy, .int .i64 xw, .slice A2 xl.length c2]) (twn (⟨xn, xv, xu, xe, xf, xr, xy, xw, xA, xc, xl⟩ : Stp) A2 c2) := own_touch hO hT5 (fun g hg e => own_notBlk hO hB3 (by decide) (by rw [hg, e]))
  have hb5 := hb03.trans (hT5.below hb03.size (fun k hk => by rw [hk, HWG.out.2]; exact Nat.le_refl _))
  obtain ⟨w5, hw5⟩ : ∃ w5, w5 = w3.setRow G #[.string xn, .string xv, .string xu, .string xe, .bool xf, .int .i64 xr, .int .i64 xy, .int .i64 xw, .slice A2 xl.length c2] := ⟨_, rfl⟩
  rw [← hw5] at hC5 hb5 hO5
  have HW5 := hid hw5
  have HB3 := hid hB3
  have HF := hid (And.intro hO5 hb5)
  have r0 : w5.cell? ⟨G, 0, none⟩ = some (.string xn) := hC5.cell 0
  have r1 : w5.cell? ⟨G, 1, none⟩ = some (.string xv) := hC5.cell 1
  have r2 : w5.cell? ⟨G, 2, none⟩ = some (.string xu) := hC5.cell 2
  have r3 : w5.cell? ⟨G, 3, none⟩ = some (.string xe) := hC5.cell 3
  have r4 : w5.cell? ⟨G, 4, none⟩ = some (.bool xf) := hC5.cell 4
  have r5 : w5.cell? ⟨G, 5, none⟩ = some (.int .i64 xr) := hC5.cell 5
  have r6 : w5.cell? ⟨G, 6, none⟩ = some (.int .i64 xy) := hC5.cell 6
  have r7 : w5.cell? ⟨G, 7, none⟩ = some (.int .i64 xw) := hC5.cell 7
  have r8 : w5.cell? ⟨G, 8, none⟩ = some (.slice A2 xl.length c2) := hC5.cell 8
  have lG5 := hC5.lt
  clear hO hb3 hB3 hb03 hT5 hC5 hO5 hb5 hw5 KT2 HK q0 q1 q2 q3 q4 q5 q6 q7 q8 p1 lP
  go_wp2_with (first
    | (refine wpList_store_row rfl 69 _ _ rfl G #[.string xn, .string xv, .string xu, .string xe, .bool xf, .int .i64 xr, .int .i64 xy, .int .i64 xw, .slice A2 xl.length c2] rfl rfl 69 _ HB3.out (by kernel_rfl) (by rfl) (by simp [Value.oneCell']) ?_; rw [← HW5.out]))
  refine bodyPost_ret (v := .agg #[.string xn, .string xv, .string xu, .string xe, .bool xf, .int .i64 xr, .int .i64 xy, .int .i64 xw, .slice A2 xl.length c2]) (by simp [results, Tryz.results19, go_sem, r0, r1, r2, r3, r4, r5, r6, r7, r8]) rfl ?_
  exact ⟨A2, c2, rfl, own_base HF.out.1 HBW.out.size, HF.out.2⟩
/-- The row with a number. -/
def rowAt (Bs : List IRow) (i : Int) : List Int := if 0 ≤ i then ((Bs[i.toNat]?).map IRow.xs).getD [] else []
theorem rowAt_in {Bs : List IRow} {q : Nat} {b : IRow} (h : Bs[q]? = some b) : rowAt Bs (q : Int) = b.xs := by
  unfold rowAt
  rw [if_pos (by omega)]
  simp [h]
set_option maxRecDepth 100000 in
set_option maxHeartbeats 8000000 in
theorem before_out (pv : Value) (n : Nat) (i : Int) (w : World) (KL : Calls Tryz.prog 17 #[pv] w fun e w' => e = .returned (.int .i64 (n : Int)) ∧ w' = w) (hi : hasN n i = false) : Calls Tryz.prog 73 #[pv, .int .i64 i] w (NewRowOf en1 3 1 [] w) := by
  have HK := hid (has_any pv n i w KL)
  rw [hi] at HK
  clear KL
  go_enter Tryz.func73, Tryz.ntmps73
  go_wp2_with fail
  refine HK.out.mono ?_
  rintro e w2 ⟨rfl, rfl⟩
  go_wp2_with fail
  go_ret
  exact ⟨none, 0, rfl, World.ownsRow_nil _ _ _ _, Below.refl _ _⟩
set_option maxRecDepth 100000 in
set_option maxHeartbeats 8000000 in
theorem before_in (h : PlW base nm P vS vB vH Ls Bs Hs dn ask w) (q : Nat) (b : IRow) (hq : Bs[q]? = some b) (hBL : Bs.length = Ls.length) (hok : b.xs.length * 8 ≤ 140737488355328) : Calls Tryz.prog 73 #[.pointer (some ⟨P, 0, none⟩), .int .i64 (q : Int)] w (NewRowOf en1 3 1 b.xs w) := by
  have hql : q < Bs.length := (List.getElem?_eq_some_iff.1 hq).1
  have HK := hid (has_any (.pointer (some ⟨P, 0, none⟩)) Ls.length (q : Int) w (len_some h))
  rw [show hasN Ls.length (q : Int) = true from by simp [hasN]; omega] at HK
  obtain ⟨A, cap, hv, hRd⟩ := own_slice h.ob
  obtain ⟨g, o, hAA, _, hcc⟩ := hRd.at_ 1 enR_len (by omega) hq
  have KC := hid (cloneI_any b.xs b.A b.cap w (own_rd (h.rw b (List.mem_of_getElem? hq))) hok)
  have p1 : w.cell? ⟨P, 2, none⟩ = some (.slice A Bs.length cap) := by rw [h.p.cell, ← hv]; rfl
  have lP := h.p.lt
  have q0 : w.cell? ⟨g, o + q * 1, none⟩ = some (.slice b.A b.xs.length b.cap) := hcc 0 _ rfl
  rw [Nat.mul_one] at q0
  subst hAA
  clear h hv hRd hcc hq
  go_enter Tryz.func73, Tryz.ntmps73
  go_wp2_with fail
  refine HK.out.mono ?_
  rintro e w2 ⟨rfl, rfl⟩
  go_wp2_with fail
  refine KC.out.mono ?_
  rintro e w3 ⟨A2, c2, rfl, hO, hb3⟩
  have HF := hid (And.intro hO hb3)
  clear hO hb3 KC HK p1 lP q0
  go_wp2_with fail
  go_ret
  exact ⟨A2, c2, rfl, HF.out.1, HF.out.2⟩
end

end Go.Proofs.YtoemmakhbiiknaaGreat

namespace Go.Proofs.YtoemmakhbiiknaaGreat
open Go.RowKit Go.WideShapes Go.ChangeShapes Go.ChangeAt Go.Deep
set_option linter.unusedVariables false

theorem disable12 (w : World) : (callFunc 136 #[]).run Tryz.prog w = .ok (.value (.tuple #[])) w := run_call_mark0 Tryz.func136 (by kernel_rfl) (by kernel_rfl) (by kernel_rfl) .disable (by kernel_rfl) w
theorem enable12 (w : World) : (callFunc 138 #[]).run Tryz.prog w = .ok (.value (.tuple #[])) w := run_call_mark0 Tryz.func138 (by kernel_rfl) (by kernel_rfl) (by kernel_rfl) .enable (by kernel_rfl) w
theorem acquire12 (a : Addr) (w : World) : (callFunc 139 #[.pointer (some a)]).run Tryz.prog w = .ok (.value (.tuple #[])) w := run_call_marked Tryz.func139 (by kernel_rfl) (by kernel_rfl) (by kernel_rfl) .acquire (by kernel_rfl) a w
theorem releaseMerge12 (a : Addr) (w : World) : (callFunc 141 #[.pointer (some a)]).run Tryz.prog w = .ok (.value (.tuple #[])) w := run_call_marked Tryz.func141 (by kernel_rfl) (by kernel_rfl) (by kernel_rfl) .releaseMerge (by kernel_rfl) a w

/-- '(*sync/atomic.Bool).Store(true)', entered as a deferred call: the cell holds 1. -/
theorem store_deferred12 (a : Addr) (x : Value) (u : FrameMode) (w : World) (hc : w.cell? a = some x) (hz : w.frozen? a = false) :
    CallsD Tryz.prog 107 #[.pointer (some a), .bool true] u w fun e u' w' => u' = u ∧ (e = .returned (.tuple #[]) ∧ w' = w.drew.setCell a (.int .u32 1)) := by
  have hc' : w.drew.cell? a = some x := by go_simp
  have hz' : w.drew.frozen? a = false := by go_simp
  have hst := run_call_store (P := Tryz.prog) Tryz.func127 (by kernel_rfl) (by kernel_rfl) (by kernel_rfl) (by kernel_rfl) (k := .u32) (y := 1) hc' hz'
  go_enter_d Tryz.func107, Tryz.ntmps107
  go_wp2
  go_region_calls
  all_goals (go_end0; exact ⟨rfl, rfl⟩)

set_option maxRecDepth 100000 in
set_option maxHeartbeats 1600000 in
/-- '(*sync.Mutex).Unlock', entered as a deferred call, the lock held and nobody waiting: state 0. -/
theorem unlock_deferred12 (a : Addr) (u : FrameMode) (w : World) (hc : w.cell? a = some (.int .i32 1)) (hz : w.frozen? a = false) :
    CallsD Tryz.prog 106 #[.pointer (some a)] u w fun e u' w' => u' = u ∧ (e = .returned (.tuple #[]) ∧ w' = w.setCell a (.int .i32 0)) := by
  have hd := disable12
  have he := enable12
  have hr := releaseMerge12
  have hadd := run_call_add (P := Tryz.prog) Tryz.func142 (by kernel_rfl) (by kernel_rfl) (by kernel_rfl) .i32 (by kernel_rfl) (y := -1) (s := 0) hc hz (by simp [go_sem]; rfl)
  have hcv := run_convert_to_unsafe (P := Tryz.prog) (src := 224) (dst := 228) Tryz.underlying224 Tryz.underlying228 (by kernel_rfl) hc
  go_enter_d Tryz.func106, Tryz.ntmps106
  go_wp2
  go_end0
  go_wp2
  go_end0
  exact ⟨rfl, rfl⟩

set_option maxRecDepth 100000 in
set_option maxHeartbeats 1600000 in
/-- '(*sync.Mutex).Lock', the lock free: state 1. -/
theorem lock_free12 (a : Addr) (w : World) (hc : w.cell? a = some (.int .i32 0)) (hz : w.frozen? a = false) :
    Calls Tryz.prog 105 #[.pointer (some a)] w fun e w' => e = .returned (.tuple #[]) ∧ w' = w.setCell a (.int .i32 1) := by
  have hd := disable12
  have he := enable12
  have ha := acquire12
  have hcas := run_call_cas_hit (P := Tryz.prog) Tryz.func137 (by kernel_rfl) (by kernel_rfl) (by kernel_rfl) .i32 (by kernel_rfl) (y := 1) hc hz
  have hc' : (w.setCell a (.int .i32 1)).cell? a = some (.int .i32 1) := World.cell?_setCell_same w a _ hc
  have hcv := run_convert_to_unsafe (P := Tryz.prog) (src := 224) (dst := 228) Tryz.underlying224 Tryz.underlying228 (by kernel_rfl) hc'
  go_enter Tryz.func105, Tryz.ntmps105
  go_wp2
  first | go_end0 | (simp only [Exit.inBlock, Exit.then]; refine bodyPost_ret (results_none rfl _ _ _) rfl ?_) | refine bodyPost_ret (results_none rfl _ _ _) rfl ?_
  go_wp2
  go_end0
  exact ⟨rfl, rfl⟩

set_option maxRecDepth 100000 in
set_option maxHeartbeats 1600000 in
/-- '(*sync.Once).doSlow', not yet done, the lock free: the lock is taken, f is called, 'done' is stored, the lock is let go. fv is f with its first argument; X is what f leaves. -/
theorem slow12 (P : Nat) (N : FuncId) (x : Value) (w : World) (cs : Array Value) (hB : Blk w P 126 cs) (h3 : cs[3]? = some (.int .u32 0)) (h4 : cs[4]? = some (.int .i32 0))
    (X : World → Prop) (hX : ∀ w', X w' → ∃ cs' : Array Value, Blk w' P 126 cs' ∧ cs'[3]? = some (.int .u32 0) ∧ cs'[4]? = some (.int .i32 1))
    (hN : ∀ (w : World), (callFunc N #[x]).run Tryz.prog w = .ok (.enter N #[x]) w)
    (hF : Calls Tryz.prog N #[x] (w.setCell ⟨P, 4, none⟩ (.int .i32 1)) fun e w' => e = .returned (.tuple #[]) ∧ X w') :
    Calls Tryz.prog 80 #[.pointer (some ⟨P, 3, none⟩), .func (.func N) #[x] #[]] w fun e w' => e = .returned (.tuple #[]) ∧ ∃ w1, X w1 ∧ w' = (w1.drew.setCell ⟨P, 3, none⟩ (.int .u32 1)).setCell ⟨P, 4, none⟩ (.int .i32 0) := by
  have c3 : w.cell? ⟨P, 3, none⟩ = some (.int .u32 0) := by rw [hB.cell]; exact h3
  have c4 : w.cell? ⟨P, 4, none⟩ = some (.int .i32 0) := by rw [hB.cell]; exact h4
  have f4 := hB.free 4
  have hl := run_call_load (P := Tryz.prog) Tryz.func104 (by kernel_rfl) (by kernel_rfl) (by kernel_rfl) .u32 (by kernel_rfl) (w := w.setCell ⟨P, 4, none⟩ (.int .i32 1)) (a := ⟨P, 3, none⟩) (x := 0) ((World.cell?_setCell_other _ ⟨P, 4, none⟩ ⟨P, 3, none⟩ _ (by simp)).trans c3)
  have hnot : ∀ (x : Bool) (w : World), (Op.unary .not (.bool x)).run Tryz.prog w = .ok (.bool (!x)) w := fun _ _ => rfl
  have HF := hid hF
  have HX := hid hX
  clear hF hX
  go_enter_defers Tryz.func80, Tryz.ntmps80
  go_wp2_with (go_at_call 105; refine (lock_free12 ⟨P, 4, none⟩ _ (by go_simp) (by go_simp)).mono ?_; rintro e w' ⟨rfl, rfl⟩)
  go_wp2
  refine HF.out.mono ?_
  rintro e w1 ⟨rfl, hx⟩
  obtain ⟨cs', b1, b2, b3⟩ := HX.out w1 hx
  have d3 : w1.cell? ⟨P, 3, none⟩ = some (.int .u32 0) := by rw [b1.cell]; exact b2
  have d4 : w1.cell? ⟨P, 4, none⟩ = some (.int .i32 1) := by rw [b1.cell]; exact b3
  have z3 := b1.free 3
  have z4 := b1.free 4
  have HX1 := hid hx
  clear hx b1 b2 b3 c3 c4 f4 hl hB h3 h4
  go_wp2
  refine leaves_cons (f := 107) (args := #[.pointer (some ⟨P, 3, none⟩), .bool true]) (by simp) (by simp [go_sem]) ?_
  refine (store_deferred12 ⟨P, 3, none⟩ (.int .u32 0) .returning _ d3 z3).mono ?_
  rintro e u' w'' ⟨rfl, rfl, rfl⟩
  refine leaves_cons (f := 106) (args := #[.pointer (some ⟨P, 4, none⟩)]) (by simp [settle]) (by simp [go_sem]) ?_
  refine (unlock_deferred12 ⟨P, 4, none⟩ _ _ ?_ (by simp [z4])).mono ?_
  · exact (World.cell?_setCell_other _ ⟨P, 3, none⟩ ⟨P, 4, none⟩ _ (by simp)).trans (by rw [World.cell?_drew]; exact d4)
  rintro e u' w'' ⟨rfl, rfl, rfl⟩
  simp [Leaves, settle, results, Tryz.results80]
  exact ⟨w1, HX1.out, rfl⟩

set_option maxRecDepth 100000 in
set_option maxHeartbeats 1600000 in
/-- '(*sync.Once).Do', not yet done. -/
theorem do_first12 (P : Nat) (fv : Value) (w : World) (R : World → Prop) (c3 : w.cell? ⟨P, 3, none⟩ = some (.int .u32 0)) (hS : Calls Tryz.prog 80 #[.pointer (some ⟨P, 3, none⟩), fv] w fun e w' => e = .returned (.tuple #[]) ∧ R w') :
    Calls Tryz.prog 45 #[.pointer (some ⟨P, 3, none⟩), fv] w fun e w' => e = .returned (.tuple #[]) ∧ R w' := by
  have hl := run_call_load (P := Tryz.prog) Tryz.func104 (by kernel_rfl) (by kernel_rfl) (by kernel_rfl) .u32 (by kernel_rfl) c3
  have hnot : ∀ (x : Bool) (w : World), (Op.unary .not (.bool x)).run Tryz.prog w = .ok (.bool (!x)) w := fun _ _ => rfl
  have HS := hid hS
  clear hS
  go_enter Tryz.func45, Tryz.ntmps45
  go_wp2_with (first | (go_at_call 80; refine HS.out.mono ?_; rintro e w' ⟨rfl, hr⟩) | (go_at_call 79; go_in))
  go_end0
  exact ⟨rfl, hr⟩
set_option maxRecDepth 100000 in
set_option maxHeartbeats 1600000 in
/-- '(*sync.Once).Do', done already. -/
theorem do_done12 (P : Nat) (fv : Value) (w : World) (c3 : w.cell? ⟨P, 3, none⟩ = some (.int .u32 1)) :
    Calls Tryz.prog 45 #[.pointer (some ⟨P, 3, none⟩), fv] w fun e w' => e = .returned (.tuple #[]) ∧ w' = w := by
  have hl := run_call_load (P := Tryz.prog) Tryz.func104 (by kernel_rfl) (by kernel_rfl) (by kernel_rfl) .u32 (by kernel_rfl) c3
  have hnot : ∀ (x : Bool) (w : World), (Op.unary .not (.bool x)).run Tryz.prog w = .ok (.bool (!x)) w := fun _ _ => rfl
  go_enter Tryz.func45, Tryz.ntmps45
  go_wp2
  go_end0
  exact ⟨rfl, rfl⟩
set_option maxRecDepth 100000 in
/-- '(*atomic.Int64).Add(1)'. -/
theorem add12 (P : Nat) (n : Int) (w : World) (c7 : w.cell? ⟨P, 7, none⟩ = some (.int .i64 n)) (f7 : w.frozen? ⟨P, 7, none⟩ = false) (hn : -9223372036854775808 ≤ n + 1 ∧ n + 1 ≤ 9223372036854775807) :
    Calls Tryz.prog 44 #[.pointer (some ⟨P, 7, none⟩), .int .i64 1] w fun e w' => e = .returned (.int .i64 (n + 1)) ∧ w' = w.setCell ⟨P, 7, none⟩ (.int .i64 (n + 1)) := by
  have hadd := run_call_add (P := Tryz.prog) Tryz.func78 (by kernel_rfl) (by kernel_rfl) (by kernel_rfl) .i64 (by kernel_rfl) (y := 1) (s := n + 1) c7 f7 (by have e := IntWalk.i64_in _ hn; simp [go_sem, e])
  go_enter Tryz.func44, Tryz.ntmps44
  go_wp2_with fail
  go_ret
  exact ⟨rfl, rfl⟩
end Go.Proofs.YtoemmakhbiiknaaGreat

namespace Go.Proofs.YtoemmakhbiiknaaGreat
open Go.RowKit Go.WideShapes Go.ChangeShapes Go.ChangeAt Go.Deep
set_option linter.unusedVariables false

instance : Inhabited IRow := ⟨⟨none, 0, []⟩⟩
/-- What row i adds to the list of number k, as far as it has come. -/
def hitsR (k i : Nat) (xs : List Int) : List Int := (xs.filter fun x => x == (k : Int)).map fun _ => (i : Int)
/-- .. the first i rows. -/
def hitsB (Bs : List IRow) (k : Nat) : Nat → List Int
  | 0 => []
  | i + 1 => hitsB Bs k i ++ hitsR k i ((Bs[i]?).map IRow.xs |>.getD [])
theorem hitsR_snoc_eq (k i : Nat) (xs : List Int) : hitsR k i (xs ++ [(k : Int)]) = hitsR k i xs ++ [(i : Int)] := by
  unfold hitsR
  rw [List.filter_append, List.map_append]
  simp
theorem hitsR_snoc_ne {k q i : Nat} (h : k ≠ q) (xs : List Int) : hitsR k i (xs ++ [(q : Int)]) = hitsR k i xs := by
  unfold hitsR
  rw [List.filter_append, List.map_append]
  have : ¬ (q : Int) = (k : Int) := by omega
  simp [this]
theorem hitsR_len (k i : Nat) (xs : List Int) : (hitsR k i xs).length ≤ xs.length := by
  unfold hitsR
  rw [List.length_map]
  exact List.length_filter_le _ _
theorem hitsR_rise {k i : Nat} {xs : List Int} (h : xs.Pairwise (· < ·)) : (hitsR k i xs).length ≤ 1 := by
  unfold hitsR
  rw [List.length_map]
  induction xs with
  | nil => simp
  | cons x xs ih =>
    have h2 := List.pairwise_cons.1 h
    by_cases e : x = (k : Int)
    · subst e
      have : xs.filter (fun x => x == (k : Int)) = [] := List.filter_eq_nil_iff.2 (fun y hy => by have := h2.1 y hy; simp; omega)
      rw [List.filter_cons_of_pos (by simp), this]
      simp
    · rw [List.filter_cons_of_neg (by simpa using e)]
      exact ih h2.2
/-- While what stands behind each step is gathered. -/
structure GaS (w0 : World) (P H n : Nat) (cs : Array Value) (f : Nat → IRow) (w : World) : Prop where
  p : Blk w P 126 cs
  h : Blk w H 38 (rngC n fun k => .slice (f k).A (f k).xs.length (f k).cap)
  r : ∀ k, k < n → OwnR w0.heap.size w (f k)
  d : ∀ k k' q, k < n → k' < n → k ≠ k' → (Value.slice (f k).A (f k).xs.length (f k).cap).ownBlock = some q → (Value.slice (f k').A (f k').xs.length (f k').cap).ownBlock ≠ some q
  t : Touch (· = P) w0 w
  lo : w0.heap.size ≤ H
  lp : P < w0.heap.size
section
variable {w0 w w' : World} {P H n : Nat} {cs : Array Value} {f : Nat → IRow}
theorem GaS.next (h : GaS w0 P H n cs f w) (hb : Below w.heap.size w w') : GaS w0 P H n cs f w' :=
  ⟨h.p.next hb, h.h.next hb, fun k hk => own_next (h.r k hk) hb, h.d, h.t.then (Touch.of_below hb), h.lo, h.lp⟩
theorem GaS.put (h : GaS w0 P H n cs f w) {k : Nat} (hk : k < n) (hT : Touch (fun b => (Value.slice (f k).A (f k).xs.length (f k).cap).ownBlock = some b) w w') {g cap : Nat} {x : Int} (ho : w'.ownsRow w0.heap.size 3 1 (.slice (some ⟨g, 0, none⟩) ((f k).xs.length + 1) cap) ((f k).xs.length + 1) ((f k).xs.flatMap en1 ++ [.int .i64 x]))
    (hg : (Value.slice (f k).A (f k).xs.length (f k).cap).ownBlock = some g ∨ w.heap.size ≤ g) : GaS w0 P H n cs (fun j => if j = k then ⟨some ⟨g, 0, none⟩, cap, (f k).xs ++ [x]⟩ else f j) (w'.setCell ⟨H, k, none⟩ (.slice (some ⟨g, 0, none⟩) ((f k).xs.length + 1) cap)) := by
  have hr := h.r k hk
  have hp := hT.blk h.p (fun e => own_notBlk hr h.p (by decide) e)
  have hh := hT.blk h.h (fun e => own_notBlk hr h.h (by decide) e)
  have hT2 := Touch.setCell w' H k (.slice (some ⟨g, 0, none⟩) ((f k).xs.length + 1) cap)
  have no2 : ∀ {base : Nat} {v : Value} {m : Nat} {xs : List Value}, w'.ownsRow base 3 1 v m xs → (w'.setCell ⟨H, k, none⟩ (.slice (some ⟨g, 0, none⟩) ((f k).xs.length + 1) cap)).ownsRow base 3 1 v m xs := fun ho2 => own_touch ho2 hT2 (fun q hq e => own_notBlk ho2 hh (by decide) (by rw [hq, e]))
  refine ⟨hT2.blk hp (fun e => hp.ne_ hh (by decide) e), ?_, fun j hj => ?_, fun j j' q hj hj' hne hq => ?_, ?_, h.lo, h.lp⟩
  · have := hh.set_ k (.slice (some ⟨g, 0, none⟩) ((f k).xs.length + 1) cap)
    rw [rngC_set _ _ hk] at this
    have e : (fun j => if j = k then Value.slice (some ⟨g, 0, none⟩) ((f k).xs.length + 1) cap else Value.slice (f j).A (f j).xs.length (f j).cap) = fun j => Value.slice (if j = k then (⟨some ⟨g, 0, none⟩, cap, (f k).xs ++ [x]⟩ : IRow) else f j).A (if j = k then (⟨some ⟨g, 0, none⟩, cap, (f k).xs ++ [x]⟩ : IRow) else f j).xs.length (if j = k then (⟨some ⟨g, 0, none⟩, cap, (f k).xs ++ [x]⟩ : IRow) else f j).cap := by
      funext j
      by_cases e : j = k
      · simp [e]
      · simp [e]
    rw [e] at this
    exact this
  · by_cases e : j = k
    · simp only [e, if_true]
      have := no2 ho
      unfold OwnR
      simpa [en1] using this
    · simp only [e, if_false]
      exact no2 (own_touch (h.r j hj) hT (fun q hq e' => h.d k j q hk hj (fun e2 => e e2.symm) e' hq))
  · by_cases e : j = k
    · simp only [e, if_true] at hq
      have e' : j' ≠ k := fun e2 => hne (by rw [e, e2])
      simp only [e', if_false]
      have hgq : g = q := by simpa [Value.ownBlock] using hq
      subst hgq
      rcases hg with hg | hg
      · exact h.d k j' g hk hj' (fun e2 => e' e2.symm) hg
      · intro hq'
        have := ((h.r j' hj').lt g hq').2
        omega
    · simp only [e, if_false] at hq
      by_cases e' : j' = k
      · simp only [e', if_true]
        intro hq'
        have hgq : g = q := by simpa [Value.ownBlock] using hq'
        subst hgq
        rcases hg with hg | hg
        · exact h.d j k g hj hk e hq hg
        · have := ((h.r j hj).lt g hq).2
          omega
      · simp only [e', if_false]
        exact h.d j j' q hj hj' hne hq
  · refine (h.t.trans hT (fun b hb => .inr ((hr.lt b hb).1))).trans hT2 (fun b hb => .inr (by rw [hb]; exact h.lo))
end

end Go.Proofs.YtoemmakhbiiknaaGreat
