/-
  The stock book: move.
-/
import Derived.Test.YthfaaimmfdidnaaSm15
import Derived.StillTailTactics
namespace Go.Proofs.Ythfaaimmfdidnaa
open Go.RowKit Go.WideShapes Go.ChangeShapes Go.ChangeAt Go.Deep
set_option linter.unusedVariables false

/-- The levels behind a move. -/
def mvL (f : Lv → Int → Lv) : List (Int × Lv) → List Ln → List (Int × Lv)
  | lv, [] => lv
  | lv, x :: ls => mvL f (match mget lv x.i with | some a => mset lv x.i (f a x.q) | none => lv) ls
theorem mvL_snoc {f : Lv → Int → Lv} {lv : List (Int × Lv)} {x : Ln} : ∀ {ls : List Ln}, mvL f lv (ls ++ [x]) = (match mget (mvL f lv ls) x.i with | some a => mset (mvL f lv ls) x.i (f a x.q) | none => mvL f lv ls) := by
  intro ls
  induction ls generalizing lv with
  | nil => rfl
  | cons y l ih => simp only [List.cons_append, mvL]; exact ih
theorem mvL_get {f : Lv → Int → Lv} {id : Int} : ∀ {ls : List Ln} {lv : List (Int × Lv)}, hasI ls id = false → mget (mvL f lv ls) id = mget lv id := by
  intro ls
  induction ls with
  | nil => intro lv _; rfl
  | cons y l ih =>
    intro lv h
    unfold hasI at h
    simp only [List.any_cons, Bool.or_eq_false_iff] at h
    simp only [mvL]
    rw [ih h.2]
    cases hm : mget lv y.i with
    | none => rfl
    | some a =>
      simp only
      rw [mget_mset, if_neg]
      intro e
      subst e
      simp at h
theorem mvL_same {τ : Type} {f : Lv → Int → Lv} (g : Lv → τ) (hf : ∀ a q, g (f a q) = g a) : ∀ {ls : List Ln} {lv : List (Int × Lv)}, (lv.map (·.1)).Nodup → (mvL f lv ls).map (fun p => (p.1, g p.2)) = lv.map (fun p => (p.1, g p.2)) := by
  intro ls
  induction ls with
  | nil => intro lv _; rfl
  | cons y l ih =>
    intro lv hd
    simp only [mvL]
    cases hm : mget lv y.i with
    | none => exact ih hd
    | some a =>
      simp only
      have h1 : (mset lv y.i (f a y.q)).map (fun p => (p.1, g p.2)) = lv.map (fun p => (p.1, g p.2)) := mset_map_same g hm hd (hf a y.q)
      rw [ih ?_, h1]
      have := congrArg (List.map Prod.fst) h1
      rw [List.map_map, List.map_map] at this
      show ((mset lv y.i (f a y.q)).map (·.1)).Nodup
      rw [show (mset lv y.i (f a y.q)).map (·.1) = lv.map (·.1) from this]
      exact hd
theorem own_same {f : Lv → Int → Lv} (hf : ∀ a q, (f a q).g = a.g) {BL BG : Nat} {lv : List (Int × Lv)} {gs : List (Int × Gd)} {ls : List Ln} (hd : (lv.map (·.1)).Nodup) {k : Nat} (h : Own BL BG (mvL f lv ls) gs k) : Own BL BG lv gs k := by
  rcases h with e | e | ⟨p, hp, e⟩ | e
  · exact .inl e
  · exact .inr (.inl e)
  · have h1 := mvL_same (f := f) Lv.g hf (ls := ls) hd
    have h2 : (p.1, p.2.g) ∈ lv.map (fun p => (p.1, p.2.g)) := by rw [← h1]; exact List.mem_map.2 ⟨p, hp, rfl⟩
    obtain ⟨p', hp', e'⟩ := List.mem_map.1 h2
    simp only [Prod.mk.injEq] at e'
    exact .inr (.inr (.inl ⟨p', hp', by rw [e'.2]; exact e⟩))
  · exact .inr (.inr (.inr e))

section
variable {n0 : Nat} {w w' : World} {X BL BG : Nat} {lv : List (Int × Lv)} {gs : List (Int × Gd)}
/-- What a moving closure does at one level. -/
def Does (N : FuncId) (f : Lv → Int → Lv) (a : Lv) (q : Int) : Prop := ∀ w, Blk w a.g 38 (enV a) → Calls Try.prog N #[.pointer (some ⟨a.g, 0, none⟩), .int .i64 q] w fun e w' => e = .returned (.tuple #[]) ∧ Blk w' a.g 38 (enV (f a q)) ∧ Touch (· = a.g) w w'

set_option maxRecDepth 100000 in
set_option maxHeartbeats 8000000 in
theorem move_any (N : FuncId) (hN : ∀ (args : Array Value) (w : World), (callFunc N args).run Try.prog w = .ok (.enter N args) w) (f : Lv → Int → Lv) (hf : ∀ a q, (f a q).g = a.g) (h : IsBook n0 w X BL BG lv gs) (o : Int) {d : Gd} (hd : mget gs o = some d) (h4 : d.ls.length ≤ 4)
    (hln : ∀ k, LnOk d.ls k) (hkn : knowF lv d.ls = true) (hdo : ∀ x ∈ d.ls, ∀ a, mget lv x.i = some a → Does N f a x.q) :
    Calls Try.prog 29 #[.pointer (some ⟨X, 0, none⟩), .int .i64 o, .func (.func N) #[] #[]] w fun e w' => e = .returned (.tuple #[]) ∧ IsBook n0 w' X BL BG (mvL f lv d.ls) gs ∧ Touch (Own BL BG lv gs) w w' := by
  have c1 := h.cellG
  have l2 := h.lookG o
  rw [show ptrG gs o = some ⟨d.g, 0, none⟩ from by unfold ptrG; rw [hd]; rfl] at l2
  have hB := h.atG hd
  have g2 : w.cell? ⟨d.g, 2, none⟩ = some (.slice (some ⟨d.b, 0, none⟩) d.ls.length d.cap) := hB.cell 2
  have HD := hid hd
  have HDO := hid hdo
  have HLN := hid hln
  have HKN := hid hkn
  have HND := hid h.lvs.nodup
  have H := hid h
  clear hd hdo hln hkn h hB
  go_enter Try.func29, Try.ntmps29
  go_wp2_with fail
  clear c1 l2 g2
  go_loopw [18] (fun i wr => ∃ k : Nat, k ≤ d.ls.length ∧ i = .int .i64 k ∧ IsBook n0 wr X BL BG (mvL f lv (d.ls.take k)) gs ∧ Touch (Own BL BG lv gs) w wr) (fun i _ => d.ls.length - nOf i)
  case atStart => exact ⟨0, Nat.zero_le _, rfl, H.out, Touch.refl _ _⟩
  case round =>
    obtain ⟨k, hk, rfl, hI, hT⟩ := hrel
    by_cases hlt : k < d.ls.length
    · obtain ⟨x, hx⟩ : ∃ x, d.ls[k]? = some x := ⟨d.ls[k], List.getElem?_eq_getElem hlt⟩
      have hR := (hI.lns _ (mget_mem HD.out)).1
      obtain ⟨b', off', e, hbs, hcc⟩ := hR.at_ 2 enL_len (by omega) hx
      simp only [Option.some.injEq, Addr.mk.injEq, and_true] at e
      obtain ⟨rfl, rfl⟩ := e
      have hmem := List.mem_of_getElem? hx
      have hks := List.all_eq_true.1 HKN.out x hmem
      obtain ⟨a, ha⟩ := Option.isSome_iff_exists.1 hks
      have hg : mget (mvL f lv (d.ls.take k)) x.i = some a := by rw [mvL_get (HLN.out k x hx).2.2]; exact ha
      have hdo := HDO.out x hmem a ha
      have HS := hid (show mvL f lv (d.ls.take (k + 1)) = mset (mvL f lv (d.ls.take k)) x.i (f a x.q) from by
        rw [List.take_add_one, hx]
        show mvL f lv (d.ls.take k ++ [x]) = _
        rw [mvL_snoc, hg])
      obtain ⟨xi, xq⟩ := x
      simp only at hg hdo HS ha
      have q0 : wr.cell? ⟨d.b, k * 2, none⟩ = some (.int .i64 xi) := by have := hcc 0 _ rfl; simpa using this
      have q1 : wr.cell? ⟨d.b, k * 2 + 1, none⟩ = some (.int .i64 xq) := by have := hcc 1 _ rfl; simpa using this
      have hwb : Below wr.heap.size wr (wr.alloc (.cells #[.int .i64 xi, .int .i64 xq] 33)) := (Below.refl _ _).alloc (Nat.le_refl _) _
      have hG0 : Blk (wr.alloc (.cells #[.int .i64 xi, .int .i64 xq] 33)) wr.heap.size 33 #[.int .i64 xi, .int .i64 xq] := Blk.new _ _ _
      obtain ⟨wz, hwz⟩ : ∃ wz, wz = wr.alloc (.cells #[.int .i64 xi, .int .i64 xq] 33) := ⟨_, rfl⟩
      obtain ⟨G, hGG⟩ : ∃ G, G = wr.heap.size := ⟨_, rfl⟩
      have HW := hid hwz
      have HGG := hid hGG
      rw [← hwz, ← hGG] at hG0
      rw [← hwz] at hwb
      have hz := (hI.next hwb).next (below_drewN (Below.refl _ wz) 1)
      have hTz := (hT.then (.of_below hwb)).drew
      have c0 : wz.cell? ⟨X, 0, none⟩ = some (.map (some BL)) := hz.cellL
      have g0 : wz.cell? ⟨G, 0, none⟩ = some (.int .i64 xi) := hG0.cell 0
      have g1 : wz.cell? ⟨G, 1, none⟩ = some (.int .i64 xq) := hG0.cell 1
      have lX : X < wz.heap.size := hz.blk.lt
      have lG : G < wz.heap.size := hG0.lt
      have l1 : (Instr.lookup 71 (.map (some BL)) (.int .i64 xi) false).run Try.prog wz.drew = .ok (.pointer (some ⟨a.g, 0, none⟩)) wz.drew := by
        have := hz.lookL xi
        rw [show ptrL (mvL f lv (d.ls.take k)) xi = some ⟨a.g, 0, none⟩ from by unfold ptrL; rw [hg]; rfl] at this
        exact this
      have K := hid (hdo _ (hz.atL hg))
      have HZ := hid (And.intro hz (And.intro hg hTz))
      clear hR hcc hx hwz hGG hwb hG0 hI hT hbs hks ha hg hdo hz hTz hmem
      go_wp2_with fail
      rw [← HW.out, ← HGG.out]
      refine wp_tail 10 (by kernel_rfl) (by kernel_rfl) ?_
      simp only [List.take_succ_cons, List.take_zero, List.drop_succ_cons, List.drop_zero]
      repeat still_step
      refine wpStill_nil ?_
      go_wp2_with fail
      refine K.out.mono ?_
      rintro e w5 ⟨rfl, hB5, hT5⟩
      obtain ⟨hz, hg, hTz⟩ := HZ.out
      have h5 := hz.putL hg (hf a xq) hT5 hB5
      rw [← HS.out] at h5
      have hT6 : Touch (Own BL BG lv gs) w w5 := hTz.then (hT5.mono (fun j hj => own_same hf HND.out (.inr (.inr (.inl ⟨_, mget_mem hg, hj.symm⟩)))))
      clear K HZ hz hg hTz hB5 hT5 c0 g0 g1 lX lG l1 q0 q1
      go_wp2_with fail
      go_roundw
      case rel => exact ⟨k + 1, by omega, by go_num, h5, hT6⟩
      case measure => simp [nOf]; omega
    · have hk' : k = d.ls.length := by omega
      subst hk'
      rw [List.take_length] at hI
      have HF := hid (And.intro hI hT)
      clear hk hlt hI hT
      go_wp2_with fail
      go_end0
      exact ⟨rfl, HF.out.1, HF.out.2⟩
end

end Go.Proofs.Ythfaaimmfdidnaa
