/-
  Parts of a plan: plan.twin; the two closures of plan.Compile; the place of the next step.
-/
import Derived.Test.YtemhoaapapeilaaPc12
import Derived.Test.YtemhoaapapeilaaInGrow
import Derived.Laws.Tables
namespace Go.Proofs.Ytemhoaapapeilaa
open Go.RowKit Go.WideShapes Go.ChangeShapes Go.ChangeAt Go.Deep
set_option linter.unusedVariables false

theorem Blk.setRow {w : World} {g : Nat} {t : TypeId} {cs : Array Value} (h : Blk w g t cs) (vs : Array Value) : Blk (w.setRow g vs) g t vs := by
  unfold Blk World.setRow at *
  simp [Array.getElem?_modify, h]
theorem Touch.setRow (w : World) (g : Nat) (vs : Array Value) : Touch (· = g) w (w.setRow g vs) := by
  refine ⟨rfl, rfl, rfl, ?_, fun k hk hn => ?_⟩
  · unfold World.setRow; simp
  · unfold World.setRow
    simp only [Array.getElem?_modify]
    rw [if_neg (fun e => hn e.symm)]

theorem own_base {w : World} {base base' n : Nat} {e : TypeId} {size : Nat} {v : Value} {xs : List Value} (h : w.ownsRow base e size v n xs) (hb : base' ≤ base) : w.ownsRow base' e size v n xs := by
  obtain ⟨hl, h1 | ⟨g, cap, cur, rfl, h2, hh, hr⟩⟩ := h
  · exact ⟨hl, .inl h1⟩
  · exact ⟨hl, .inr ⟨g, cap, cur, rfl, Nat.le_trans hb h2, hh, hr⟩⟩
/-- The step, its names in another row. -/
def twn (s : Stp) (A : Option Addr) (cap : Nat) : Stp := ⟨s.name, s.verb, s.undo, s.event, s.fin, s.ret, s.ev, s.wi, A, cap, s.after⟩
/-- The step's row of names is one of the call's own. -/
def OwnSt (base : Nat) (w : World) (s : Stp) : Prop := w.ownsRow base 9 1 (.slice s.A s.after.length s.cap) s.after.length (s.after.flatMap enB)
theorem info_step12 : (Try.prog.info? 34).map (fun i => (i.zero, i.size, i.bytes)) = some (some (.agg #[.string ⟨#[]⟩, .string ⟨#[]⟩, .string ⟨#[]⟩, .string ⟨#[]⟩, .bool false, .int .i64 0, .int .i64 0, .int .i64 0, .slice none 0 0]), 9, 120) := by kernel_rfl

set_option maxRecDepth 100000 in
set_option maxHeartbeats 8000000 in
theorem twin_any (s : Stp) (w : World) (hok : OkSt w s) : Calls Try.prog 32 #[.agg (enSt s).toArray] w fun e w' => ∃ A cap, e = .returned (.agg (enSt (twn s A cap)).toArray) ∧ OwnSt w.heap.size w' (twn s A cap) ∧ Below w.heap.size w w' := by
  have HOK := hid hok
  clear hok
  obtain ⟨xn, xv, xu, xe, xf, xr, xy, xw, xA, xc, xl⟩ := s
  have earr : (enSt ⟨xn, xv, xu, xe, xf, xr, xy, xw, xA, xc, xl⟩).toArray = #[.string xn, .string xv, .string xu, .string xe, .bool xf, .int .i64 xr, .int .i64 xy, .int .i64 xw, .slice xA xl.length xc] := rfl
  rw [earr]
  clear earr
  have hwa : Below w.heap.size w ((w.alloc (.cells #[.string xn, .string xv, .string xu, .string xe, .bool xf, .int .i64 xr, .int .i64 xy, .int .i64 xw, .slice xA xl.length xc] 34)).alloc (.cells #[.string ⟨#[]⟩, .string ⟨#[]⟩, .string ⟨#[]⟩, .string ⟨#[]⟩, .bool false, .int .i64 0, .int .i64 0, .int .i64 0, .slice none 0 0] 34)) := ((Below.refl _ _).alloc (Nat.le_refl _) _).alloc (by simp) _
  have hB0 := (Blk.new w 34 #[.string xn, .string xv, .string xu, .string xe, .bool xf, .int .i64 xr, .int .i64 xy, .int .i64 xw, .slice xA xl.length xc]).alloc (.cells #[.string ⟨#[]⟩, .string ⟨#[]⟩, .string ⟨#[]⟩, .string ⟨#[]⟩, .bool false, .int .i64 0, .int .i64 0, .int .i64 0, .slice none 0 0] 34)
  have hB1 := Blk.new (w.alloc (.cells #[.string xn, .string xv, .string xu, .string xe, .bool xf, .int .i64 xr, .int .i64 xy, .int .i64 xw, .slice xA xl.length xc] 34)) 34 #[.string ⟨#[]⟩, .string ⟨#[]⟩, .string ⟨#[]⟩, .string ⟨#[]⟩, .bool false, .int .i64 0, .int .i64 0, .int .i64 0, .slice none 0 0]
  rw [World.size_alloc] at hB1
  obtain ⟨W, hW⟩ : ∃ W, W = (w.alloc (.cells #[.string xn, .string xv, .string xu, .string xe, .bool xf, .int .i64 xr, .int .i64 xy, .int .i64 xw, .slice xA xl.length xc] 34)).alloc (.cells #[.string ⟨#[]⟩, .string ⟨#[]⟩, .string ⟨#[]⟩, .string ⟨#[]⟩, .bool false, .int .i64 0, .int .i64 0, .int .i64 0, .slice none 0 0] 34) := ⟨_, rfl⟩
  obtain ⟨G, hG⟩ : ∃ G, G = w.heap.size := ⟨_, rfl⟩
  rw [← hW] at hwa hB0 hB1
  rw [← hG] at hB0 hB1
  have KC := hid (cloneB_any xl xA xc W (HOK.out.row.below hwa) HOK.out.len)
  have HW := hid (And.intro hB0 (And.intro hB1 hwa))
  have HWG := hid (And.intro hW hG)
  have g8 : W.cell? ⟨G, 8, none⟩ = some (.slice xA xl.length xc) := hB0.cell 8
  have lG := hB0.lt
  clear hwa hB0 hB1 hW hG
  go_enter Try.func32, Try.ntmps32
  go_upto_region 1 with fail
  rw [← HWG.out.1, ← HWG.out.2]
  go_wp2_with fail
  refine KC.out.mono ?_
  rintro e w3 ⟨A, cap, rfl, hO, hb3⟩
  have HB3 := hid (And.intro (HW.out.1.next hb3) (And.intro (HW.out.2.1.next hb3) (bthen HW.out.2.2 hb3)))
  clear g8 lG KC hb3
  have q0 : w3.cell? ⟨G, 0, none⟩ = some (.string xn) := HB3.out.1.cell 0
  have q1 : w3.cell? ⟨G, 1, none⟩ = some (.string xv) := HB3.out.1.cell 1
  have q2 : w3.cell? ⟨G, 2, none⟩ = some (.string xu) := HB3.out.1.cell 2
  have q3 : w3.cell? ⟨G, 3, none⟩ = some (.string xe) := HB3.out.1.cell 3
  have q4 : w3.cell? ⟨G, 4, none⟩ = some (.bool xf) := HB3.out.1.cell 4
  have q5 : w3.cell? ⟨G, 5, none⟩ = some (.int .i64 xr) := HB3.out.1.cell 5
  have q6 : w3.cell? ⟨G, 6, none⟩ = some (.int .i64 xy) := HB3.out.1.cell 6
  have q7 : w3.cell? ⟨G, 7, none⟩ = some (.int .i64 xw) := HB3.out.1.cell 7
  have q8 : w3.cell? ⟨G, 8, none⟩ = some (.slice xA xl.length xc) := HB3.out.1.cell 8
  have f8 := HB3.out.1.free 8
  have lG := HB3.out.1.lt
  go_upto_region 2 with fail
  have hT4 := Touch.setCell w3 G 8 (.slice A xl.length cap)
  have hB4 := HB3.out.1.set_ 8 (.slice A xl.length cap)
  have hC4 := HB3.out.2.1.far (p := ⟨G, 8, none⟩) (by simp) (.slice A xl.length cap)
  have hO4 := own_touch hO hT4 (fun g hg e => own_notBlk hO HB3.out.1 (by decide) (by rw [hg, e]))
  have hb4 := HB3.out.2.2.trans (hT4.below HB3.out.2.2.size (fun k hk => by rw [hk]; have := HWG.out.2; omega))
  obtain ⟨w4, hw4⟩ : ∃ w4, w4 = w3.setCell ⟨G, 8, none⟩ (.slice A xl.length cap) := ⟨_, rfl⟩
  rw [← hw4] at hB4 hC4 hO4 hb4
  rw [← hw4]
  have hB5 : Blk w4 G 34 #[.string xn, .string xv, .string xu, .string xe, .bool xf, .int .i64 xr, .int .i64 xy, .int .i64 xw, .slice A xl.length cap] := hB4
  clear q0 q1 q2 q3 q4 q5 q6 q7 q8 f8 lG hT4 hw4 hO hB4
  have q0 : w4.cell? ⟨G, 0, none⟩ = some (.string xn) := hB5.cell 0
  have q1 : w4.cell? ⟨G, 1, none⟩ = some (.string xv) := hB5.cell 1
  have q2 : w4.cell? ⟨G, 2, none⟩ = some (.string xu) := hB5.cell 2
  have q3 : w4.cell? ⟨G, 3, none⟩ = some (.string xe) := hB5.cell 3
  have q4 : w4.cell? ⟨G, 4, none⟩ = some (.bool xf) := hB5.cell 4
  have q5 : w4.cell? ⟨G, 5, none⟩ = some (.int .i64 xr) := hB5.cell 5
  have q6 : w4.cell? ⟨G, 6, none⟩ = some (.int .i64 xy) := hB5.cell 6
  have q7 : w4.cell? ⟨G, 7, none⟩ = some (.int .i64 xw) := hB5.cell 7
  have q8 : w4.cell? ⟨G, 8, none⟩ = some (.slice A xl.length cap) := hB5.cell 8
  have lG := hB5.lt
  have hT5 := Touch.setRow w4 (G + 1) #[.string xn, .string xv, .string xu, .string xe, .bool xf, .int .i64 xr, .int .i64 xy, .int .i64 xw, .slice A xl.length cap]
  have hC5 := hC4.setRow #[.string xn, .string xv, .string xu, .string xe, .bool xf, .int .i64 xr, .int .i64 xy, .int .i64 xw, .slice A xl.length cap]
  have hO5 := own_touch hO4 hT5 (fun g hg e => own_notBlk hO4 hC4 (by decide) (by rw [hg, e]))
  have hb5 := hb4.trans (hT5.below hb4.size (fun k hk => by rw [hk]; have := HWG.out.2; omega))
  obtain ⟨w5, hw5⟩ : ∃ w5, w5 = w4.setRow (G + 1) #[.string xn, .string xv, .string xu, .string xe, .bool xf, .int .i64 xr, .int .i64 xy, .int .i64 xw, .slice A xl.length cap] := ⟨_, rfl⟩
  rw [← hw5] at hC5 hO5 hb5
  have HW5 := hid hw5
  have HF := hid (And.intro hO5 hb5)
  have r0 : w5.cell? ⟨G + 1, 0, none⟩ = some (.string xn) := hC5.cell 0
  have r1 : w5.cell? ⟨G + 1, 1, none⟩ = some (.string xv) := hC5.cell 1
  have r2 : w5.cell? ⟨G + 1, 2, none⟩ = some (.string xu) := hC5.cell 2
  have r3 : w5.cell? ⟨G + 1, 3, none⟩ = some (.string xe) := hC5.cell 3
  have r4 : w5.cell? ⟨G + 1, 4, none⟩ = some (.bool xf) := hC5.cell 4
  have r5 : w5.cell? ⟨G + 1, 5, none⟩ = some (.int .i64 xr) := hC5.cell 5
  have r6 : w5.cell? ⟨G + 1, 6, none⟩ = some (.int .i64 xy) := hC5.cell 6
  have r7 : w5.cell? ⟨G + 1, 7, none⟩ = some (.int .i64 xw) := hC5.cell 7
  have r8 : w5.cell? ⟨G + 1, 8, none⟩ = some (.slice A xl.length cap) := hC5.cell 8
  have lG5 := hC5.lt
  have HC4 := hid hC4
  clear hT5 hC5 hO5 hb5 hw5 hC4 hO4 hb4 hB5
  go_wp2_with (first
    | (refine wpList_store_row rfl 34 _ _ rfl (G + 1) #[.string xn, .string xv, .string xu, .string xe, .bool xf, .int .i64 xr, .int .i64 xy, .int .i64 xw, .slice A xl.length cap] rfl rfl 34 _ HC4.out (by kernel_rfl) (by rfl) (by simp [Value.oneCell']) ?_; rw [← HW5.out]; clear q0 q1 q2 q3 q4 q5 q6 q7 q8 lG))
  refine bodyPost_ret (v := .agg #[.string xn, .string xv, .string xu, .string xe, .bool xf, .int .i64 xr, .int .i64 xy, .int .i64 xw, .slice A xl.length cap]) (by simp [results, Try.results32, go_sem, r0, r1, r2, r3, r4, r5, r6, r7, r8]) rfl ?_
  have hsz := HWG.out.2
  have hF := HF.out
  have hbW := HW.out.2.2
  refine ⟨A, cap, rfl, ?_, hF.2⟩
  have : w.heap.size ≤ W.heap.size := hbW.size
  exact own_base hF.1 this

/-- Is the name not in the map? -/
def noN (am : List (ByteArray × Int)) (a : ByteArray) : Bool := !(mget am a).isSome
set_option maxRecDepth 100000 in
set_option maxHeartbeats 4000000 in
theorem cmp11_any (am : List (ByteArray × Int)) (V6 M : Nat) (a : ByteArray) (w : World) (hV : Blk w V6 30 #[.map (some M)]) (hM : IsMap w M kS vN am) :
    Calls Try.prog 30 #[.string a, .pointer (some ⟨V6, 0, none⟩)] w fun e w' => e = .returned (.bool (noN am a)) ∧ Below w.heap.size w w' := by
  have c6 : w.cell? ⟨V6, 0, none⟩ = some (.map (some M)) := hV.cell 0
  have l6 := hV.lt
  have lk : (Instr.lookup 30 (.map (some M)) (.string a) true).run Try.prog w = .ok (.tuple #[looked (vN 0) vN am a, .bool (mget am a).isSome]) w := hM.lookOk keyStr12 Try.underlying30 (zeroN _) a
  have HV := hid (show noN am a = !(mget am a).isSome from rfl)
  clear hV hM
  generalize (mget am a).isSome = b at lk HV
  go_enter Try.func30, Try.ntmps30
  go_wp2_with fail
  go_ret
  exact ⟨by rw [HV.out]; rfl, Below.refl _ _⟩
/-- May the step come next? -/
def nxtB (am : List (ByteArray × Int)) (s : Stp) : Bool := !(mget am s.name).isSome && !(s.after.any (noN am))
set_option maxRecDepth 100000 in
set_option maxHeartbeats 8000000 in
theorem cmp1_any (am : List (ByteArray × Int)) (V6 M : Nat) (s : Stp) (w : World) (hok : OkSt w s) (hV : Blk w V6 30 #[.map (some M)]) (hM : IsMap w M kS vN am) :
    Calls Try.prog 28 #[.agg (enSt s).toArray, .pointer (some ⟨V6, 0, none⟩)] w fun e w' => e = .returned (.bool (nxtB am s)) ∧ Below w.heap.size w w' := by
  have HOK := hid hok
  clear hok
  obtain ⟨xn, xv, xu, xe, xf, xr, xy, xw, xA, xc, xl⟩ := s
  have earr : (enSt ⟨xn, xv, xu, xe, xf, xr, xy, xw, xA, xc, xl⟩).toArray = #[.string xn, .string xv, .string xu, .string xe, .bool xf, .int .i64 xr, .int .i64 xy, .int .i64 xw, .slice xA xl.length xc] := rfl
  rw [earr]
  clear earr
  have hwa : Below w.heap.size w (w.alloc (.cells #[.string xn, .string xv, .string xu, .string xe, .bool xf, .int .i64 xr, .int .i64 xy, .int .i64 xw, .slice xA xl.length xc] 34)) := (Below.refl _ _).alloc (Nat.le_refl _) _
  have hB := Blk.new w 34 #[.string xn, .string xv, .string xu, .string xe, .bool xf, .int .i64 xr, .int .i64 xy, .int .i64 xw, .slice xA xl.length xc]
  have hV2 := hV.next hwa
  have hM2 := hM.next hwa
  obtain ⟨W, hW⟩ : ∃ W, W = w.alloc (.cells #[.string xn, .string xv, .string xu, .string xe, .bool xf, .int .i64 xr, .int .i64 xy, .int .i64 xw, .slice xA xl.length xc] 34) := ⟨_, rfl⟩
  obtain ⟨G, hG⟩ : ∃ G, G = w.heap.size := ⟨_, rfl⟩
  rw [← hW] at hwa hB hV2 hM2
  rw [← hG] at hB
  have HWG := hid (And.intro hW hG)
  have HB := hid hwa
  have g0 : W.cell? ⟨G, 0, none⟩ = some (.string xn) := hB.cell 0
  have g8 : W.cell? ⟨G, 8, none⟩ = some (.slice xA xl.length xc) := hB.cell 8
  have lG := hB.lt
  have c6 : W.cell? ⟨V6, 0, none⟩ = some (.map (some M)) := hV2.cell 0
  have l6 := hV2.lt
  have lk : (Instr.lookup 30 (.map (some M)) (.string xn) true).run Try.prog W = .ok (.tuple #[looked (vN 0) vN am xn, .bool (mget am xn).isSome]) W := hM2.lookOk keyStr12 Try.underlying30 (zeroN _) xn
  have KC := hid (containsB1_any xl xA xc 30 (.pointer (some ⟨V6, 0, none⟩)) (noN am) W (HOK.out.row.below hwa) (by have := HOK.out.len; simp only at this; omega) (fun _ _ => by go_simp) (fun y hy w' hb' => cmp11_any am V6 M y w' (hV2.next hb') (hM2.next hb')))
  have HV := hid (show nxtB am ⟨xn, xv, xu, xe, xf, xr, xy, xw, xA, xc, xl⟩ = (!(mget am xn).isSome && !(xl.any (noN am))) from rfl)
  rw [HV.out]
  clear hV hM hV2 hM2 hwa hB hW hG HV HOK
  generalize looked (vN 0) vN am xn = lv at lk
  generalize (mget am xn).isSome = b at lk
  generalize xl.any (noN am) = c at KC
  go_enter Try.func28, Try.ntmps28
  go_upto_region 1 with fail
  rw [← HWG.out.1, ← HWG.out.2]
  cases b with
  | true =>
    go_wp2_with fail
    go_ret
    exact ⟨by simp, HB.out⟩
  | false =>
    go_wp2_with fail
    refine KC.out.mono ?_
    rintro e w3 ⟨rfl, hb3⟩
    have HB3 := hid (bthen HB.out hb3)
    clear KC hb3 g0 g8 lG c6 l6 lk
    go_wp2_with fail
    go_ret
    exact ⟨by simp, HB3.out⟩

/-- Which names the map of the numbers holds, behind the steps ds. -/
def AtM (l : List Stp) (ds : List Nat) (am : List (ByteArray × Int)) : Prop := ∀ i s, l[i]? = some s → mget am s.name = if i ∈ ds then some ((ds.idxOf i : Nat) : Int) else none

theorem NamesOk.inj {l : List Stp} (h : NamesOk l) {i j : Nat} {s t : Stp} (hi : l[i]? = some s) (hj : l[j]? = some t) (e : s.name = t.name) : i = j := by
  have h1 : (l.map Stp.name)[i]? = some s.name := by rw [List.getElem?_map, hi]; rfl
  have h2 : (l.map Stp.name)[j]? = some s.name := by rw [List.getElem?_map, hj, e]; rfl
  exact (List.getElem?_inj (by have := (List.getElem?_eq_some_iff.1 hi).1; simpa using this) h.1).1 (h1.trans h2.symm)
theorem AtM.nil (l : List Stp) : AtM l [] [] := fun i s hs => by simp [mget]
theorem AtM.snoc {l : List Stp} {ds : List Nat} {am : List (ByteArray × Int)} (hN : NamesOk l) (h : AtM l ds am) {i : Nat} {s : Stp} (hs : l[i]? = some s) (hi : i ∉ ds) : AtM l (ds ++ [i]) (mset am s.name (ds.length : Int)) := by
  intro j t ht
  rw [mget_mset]
  by_cases e : t.name = s.name
  · have hij := hN.inj ht hs e
    subst hij
    rw [if_pos e, if_pos (by simp), List.idxOf_append, if_neg hi]
    simp
  · rw [if_neg e, h j t ht]
    have hij : j ≠ i := fun e' => by
      subst e'
      rw [hs] at ht
      injection ht with ht
      exact e (by rw [ht])
    by_cases hj : j ∈ ds
    · rw [if_pos hj, if_pos (by simp [hj]), List.idxOf_append, if_pos hj]
    · rw [if_neg hj, if_neg (by simp [hj, hij])]
theorem AtM.name {l : List Stp} {ds : List Nat} {am : List (ByteArray × Int)} (hN : NamesOk l) (h : AtM l ds am) {a : ByteArray} (ha : a ∈ l.map Stp.name) : mget am a = if l.findIdx (isNm a) ∈ ds then some ((ds.idxOf (l.findIdx (isNm a)) : Nat) : Int) else none := by
  obtain ⟨t, h1, h2, _⟩ := hN.idx ha
  rw [← h _ t h1, h2]
theorem nxtB_ready {l : List Stp} {ds : List Nat} {am : List (ByteArray × Int)} (hN : NamesOk l) (h : AtM l ds am) {i : Nat} {s : Stp} (hs : l[i]? = some s) : nxtB am s = readyN (grf l) ds i := by
  apply Bool.eq_iff_iff.2
  rw [readyN_iff, grf_adj hs]
  unfold nxtB
  simp only [Bool.and_eq_true, Bool.not_eq_true', List.any_eq_false]
  have h1 : (mget am s.name).isSome = false ↔ i ∉ ds := by
    rw [h i s hs]
    by_cases e : i ∈ ds <;> simp [e]
  rw [h1]
  refine and_congr_right fun _ => ?_
  have hin := hN.2 s (List.mem_of_getElem? hs)
  constructor
  · intro hh k hk
    obtain ⟨a, ha, rfl⟩ := List.mem_map.1 hk
    have := hh a ha
    unfold noN at this
    rw [h.name hN (hin a ha)] at this
    by_cases e : l.findIdx (isNm a) ∈ ds
    · exact e
    · simp [e] at this
  · intro hh a ha
    unfold noN
    rw [h.name hN (hin a ha), if_pos (hh _ (List.mem_map_of_mem ha))]
    simp
theorem plc_next {l : List Stp} {ds : List Nat} {am : List (ByteArray × Int)} (hN : NamesOk l) (h : AtM l ds am) {i : Nat} (hi : nextN (grf l) ds = some i) : ∃ s, l[i]? = some s ∧ plc (nxtB am) l = (i : Int) := by
  obtain ⟨h1, h2, h3, h4⟩ := nextN_some hi
  rw [grf_len] at h1
  refine ⟨l[i], List.getElem?_eq_getElem h1, ?_⟩
  refine plc_some (List.getElem?_eq_getElem h1) ?_ (fun j y hj hy => ?_)
  · rw [nxtB_ready hN h (List.getElem?_eq_getElem h1)]
    exact readyN_iff.2 ⟨h2, h3⟩
  · rw [nxtB_ready hN h hy]
    exact h4 j hj
/-- The numbers of the steps that step i waits for, rising, each once. -/
def BfOk (G : List (List Nat)) (ds : List Nat) (i : Nat) (xs : List Int) : Prop := xs.Pairwise (· < ·) ∧ ∀ x, x ∈ xs ↔ ∃ k ∈ adj G i, x = ((ds.idxOf k : Nat) : Int)
theorem bfOk_made (G : List (List Nat)) (ds : List Nat) (i : Nat) : BfOk G ds i (Lib.compact (srtI ((adj G i).map fun k => ((ds.idxOf k : Nat) : Int)))) := by
  obtain ⟨h1, h2⟩ := compact_rise (srtI_sorted ((adj G i).map fun k => ((ds.idxOf k : Nat) : Int)))
  refine ⟨h1, fun x => ?_⟩
  rw [h2, srtI_mem, List.mem_map]
  exact ⟨fun ⟨k, hk, e⟩ => ⟨k, hk, e.symm⟩, fun ⟨k, hk, e⟩ => ⟨k, hk, e.symm⟩⟩
theorem BfOk.snoc {G : List (List Nat)} {ds r : List Nat} {i : Nat} {xs : List Int} (h : BfOk G ds i xs) (hi : ∀ k ∈ adj G i, k ∈ ds) : BfOk G (ds ++ r) i xs := by
  refine ⟨h.1, fun x => ?_⟩
  rw [h.2]
  constructor
  · rintro ⟨k, hk, e⟩
    exact ⟨k, hk, by rw [e, List.idxOf_append, if_pos (hi k hk)]⟩
  · rintro ⟨k, hk, e⟩
    exact ⟨k, hk, by rw [e, List.idxOf_append, if_pos (hi k hk)]⟩

end Go.Proofs.Ytemhoaapapeilaa
