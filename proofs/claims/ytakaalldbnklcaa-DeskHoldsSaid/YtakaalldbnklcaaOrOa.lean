/-
  The orders' book: May, Add.
-/
import Derived.Test.YtakaalldbnklcaaOrOl
namespace Go.Proofs.Ytakaalldbnklcaa.Or
open Go.RowKit Go.WideShapes Go.ChangeShapes Go.ChangeAt Go.Deep
set_option linter.unusedVariables false

theorem rowBlk {w : World} {base n cap m : Nat} {e : TypeId} {size : Nat} {A : Option Addr} {xs : List Value} (h : w.ownsRow base e size (.slice A n cap) m xs) {b : Nat} (hb : A.map (·.block) = some b) : ∃ cs, Blk w b e cs := by
  rcases h.2 with ⟨h1, _⟩ | ⟨g, cap', cur, h1, _, hh, _⟩
  · simp at h1
    rw [h1.1] at hb
    simp at hb
  · simp at h1
    rw [h1.1] at hb
    simp at hb
    subst hb
    exact ⟨_, hh⟩
section
variable {n0 : Nat} {w w' : World} {X BP BO : Nat} {pr : List (Int × Int)} {os : List (Int × Od)}

/-- The prices are prices. -/
def PrOk (pr : List (Int × Int)) : Prop := ∀ id p, mget pr id = some p → 1 ≤ id ∧ id ≤ 64 ∧ 0 ≤ p ∧ p ≤ 1000000
theorem prL_fits {id c : Int} {f : ByteArray} {ls : List Ln} (hp : PrOk pr) (h : OrdOk id c f ls) (hk : knowB pr ls = true) : fits (prL pr ls) = true := by
  unfold fits
  obtain ⟨_, _, _, _, _, h6, h7⟩ := h.1
  rw [prL_len]
  simp only [Bool.and_eq_true, decide_eq_true_eq]
  refine ⟨⟨h6, h7⟩, ?_⟩
  rw [List.all_eq_true]
  intro x hx
  obtain ⟨y, hy, rfl⟩ := List.mem_map.1 hx
  obtain ⟨j, hj⟩ := List.mem_iff_getElem?.1 hy
  have h1 := h.2 j y hj
  have h2 := List.all_eq_true.1 hk y hy
  obtain ⟨p, hpp⟩ := Option.isSome_iff_exists.1 h2
  have h3 := hp _ _ hpp
  rw [lok_iff]
  simp only [hpp, Option.getD_some]
  exact ⟨h1.1, h1.2.1, h3.2.2.1, h3.2.2.2⟩

/-- What a taken order leaves. -/
def AddPost (n0 X BP BO : Nat) (pr : List (Int × Int)) (os : List (Int × Od)) (id c : Int) (f : ByteArray) (ls : List Ln) (w : World) (e : Ending) (w' : World) : Prop :=
  ∃ o : Od, e = .returned (.int .i64 0) ∧ IsBook n0 w' X BP BO pr (mset os id o) ∧ o.i = id ∧ o.c = c ∧ o.f = f ∧ o.ls = ls ∧ o.n = netT (prL pr ls) ∧ o.t = taxT (prL pr ls) ∧ Touch (Own BP BO) w w'
/-- The same; the lines lie in a block that is new. -/
def AddNew (n0 X BP BO : Nat) (pr : List (Int × Int)) (os : List (Int × Od)) (id c : Int) (f : ByteArray) (ls : List Ln) (w : World) (e : Ending) (w' : World) : Prop :=
  ∃ o : Od, e = .returned (.int .i64 0) ∧ IsBook n0 w' X BP BO pr (mset os id o) ∧ (o.i = id ∧ o.c = c ∧ o.f = f ∧ o.ls = ls ∧ o.n = netT (prL pr ls) ∧ o.t = taxT (prL pr ls)) ∧ w.heap.size ≤ o.b ∧ Touch (Own BP BO) w w'

set_option maxRecDepth 100000 in
set_option maxHeartbeats 4000000 in
theorem add_no (h : IsBook n0 w X BP BO pr os) (id c : Int) (f : ByteArray) (A : Option Addr) (cap : Nat) (ls : List Ln) (hfs : f.size ≤ maxLen) (hR : Rd w A (ls.flatMap enL)) (hcap : ls.length ≤ cap) (hcm : cap ≤ maxLen) (hno : errL pr os id c f ls ≠ 0) :
    Calls Try.prog 10 #[.pointer (some ⟨X, 0, none⟩), .int .i64 id, .int .i64 c, .string f, .slice A ls.length cap] w fun e w' => e = .returned (.int .i64 (errL pr os id c f ls)) ∧ Below w.heap.size w w' := by
  have L := lines_any h id c f A cap ls hfs hR hcap hcm
  unfold LinPost at L
  have hz : (errL pr os id c f ls != 0) = true := by simpa using hno
  generalize errL pr os id c f ls = z at L hz
  replace L := hid L
  clear h hR hno
  go_enter Try.func10, Try.ntmps10
  go_wp2_with (first | (go_at_call 23; refine L.out.mono ?_; rintro e w5 ⟨A', n', cap', rfl, _, hb5⟩))
  go_ret
  exact ⟨rfl, hb5⟩

set_option maxRecDepth 100000 in
set_option maxHeartbeats 4000000 in
theorem add_new (h : IsBook n0 w X BP BO pr os) (hp : PrOk pr) (id c : Int) (f : ByteArray) (A : Option Addr) (cap : Nat) (ls : List Ln) (hfs : f.size ≤ maxLen) (hR : Rd w A (ls.flatMap enL)) (hcap : ls.length ≤ cap) (hcm : cap ≤ maxLen) (hn : n0 ≤ w.heap.size) (hyes : errL pr os id c f ls = 0) :
    Calls Try.prog 10 #[.pointer (some ⟨X, 0, none⟩), .int .i64 id, .int .i64 c, .string f, .slice A ls.length cap] w (AddNew n0 X BP BO pr os id c f ls w) := by
  have L := lines_any h id c f A cap ls hfs hR hcap hcm
  unfold LinPost at L
  rw [hyes] at L
  obtain ⟨hok, hkn, hnone⟩ := errL_zero hyes
  have hfit := prL_fits hp hok hkn
  have hl1 := hok.1.2.2.2.2.2.1
  have hl4 := hok.1.2.2.2.2.2.2
  obtain ⟨b, off, rfl⟩ : ∃ b off, A = some ⟨b, off, none⟩ := by
    rcases hR with h0 | ⟨b, off, hA, _, _⟩
    · have := length_flatMap_const enL 2 enL_len ls
      rw [h0] at this
      simp at this
      omega
    · exact ⟨b, off, hA⟩
  have T := hid (fun (A' : Option Addr) (cap' : Nat) w' (hr : Rd w' A' ((prL pr ls).flatMap en2)) => total_any (prL pr ls) A' cap' w' hr)
  have hT : Hid (errT (prL pr ls) = 0) := hid (by unfold errT; rw [hfit]; rfl)
  have K := hid (fun w' (hb : Below w.heap.size w w') => clone_some ls b off cap w' (hR.below hb) (by omega))
  unfold NewRowOf at K
  have H := hid h
  have HL := hid (prL_len (pr := pr) ls)
  replace L := hid L
  clear h hR hok hkn hfit hyes
  go_enter Try.func10, Try.ntmps10
  go_wp2_with (first | (go_at_call 23; refine L.out.mono ?_; rintro e w5 ⟨A', n', cap', rfl, hAA, hb5⟩))
  obtain ⟨rfl, hr5⟩ := hAA (by trivial)
  have T5 := T.out A' cap' w5 hr5
  rw [HL.out, hT.out] at T5
  replace T5 := hid T5
  clear hAA T hr5 L
  go_wp2_with (first | (go_at_call 24; refine T5.out.mono ?_; rintro e w6 ⟨rfl, hb6⟩))
  have hb := bthen hb5 hb6
  clear hb5 hb6 T5
  have hI := H.out.next hb
  have c1 : w6.cell? ⟨X, 1, none⟩ = some (.map (some BO)) := hI.cellO
  have lX : X < w6.heap.size := hI.blk.lt
  obtain ⟨N, hNe⟩ : ∃ N, N = netT (prL pr ls) := ⟨_, rfl⟩
  obtain ⟨TX, hTe⟩ : ∃ TX, TX = taxT (prL pr ls) := ⟨_, rfl⟩
  rw [← hNe, ← hTe]
  have HN := hid hNe
  have HT := hid hTe
  clear hNe hTe
  have hw6 := hid (And.intro hb hI)
  clear hb hI HL hT
  go_region_held3 (fun w' => w'.cell? ⟨X, 1, none⟩ = some (.map (some BO))) (first | exact c1 | exact c7 | exact c8)
    (first
      | (go_at_call 25; refine (K.out _ hw6.out.1.drew).mono ?_; rintro e w7 ⟨A7, cp7, rfl, hO7, hb7⟩
         obtain ⟨g7, cq7, e7, _, _⟩ := own_form hO7 (by omega)
         injection e7 with e8 e9 e10
         subst e8 e10
         have hI7 := H.out.next (bthen hw6.out.1.drew hb7)
         have c7 : w7.cell? ⟨X, 1, none⟩ = some (.map (some BO)) := hI7.cellO
         obtain ⟨w8, hrun, hM8, hg8, hs8⟩ := hI7.ods.store (P := Try.prog) (mt := 74) (et := 47) keyL Try.underlying74 id (⟨id, c, f, g7, cp7, ls, N, TX⟩ : Od)
         simp only [enO, kI] at hrun
         have hI8 := hI7.order (o := (⟨id, c, f, g7, cp7, ls, N, TX⟩ : Od)) (own_rd hO7) (show n0 ≤ g7 from Nat.le_trans (Nat.le_trans hn hw6.out.1.drew.size) (hO7.lt g7 rfl).1) (rowBlk hO7 rfl) hM8 hg8
         have c8 : w8.cell? ⟨X, 1, none⟩ = some (.map (some BO)) := hI8.cellO
         have hG7 := hid (Nat.le_trans hw6.out.1.drew.size (hO7.lt g7 rfl).1)
         have hF := hid (And.intro hI8 ((Touch.of_below (S := Own BP BO) (bthen hw6.out.1.drew hb7)).then ((Touch.of_grown hg8).mono (fun k hk => (.inr hk : Own BP BO k)))))
         clear hO7 hb7 hI7 hM8 hg8 hs8 hI8))
  all_goals
    go_wp2_with fail
    go_ret
    exact ⟨_, rfl, hF.out.1, ⟨rfl, rfl, rfl, rfl, HN.out, HT.out⟩, hG7.out, hF.out.2⟩
theorem add_yes (h : IsBook n0 w X BP BO pr os) (hp : PrOk pr) (id c : Int) (f : ByteArray) (A : Option Addr) (cap : Nat) (ls : List Ln) (hfs : f.size ≤ maxLen) (hR : Rd w A (ls.flatMap enL)) (hcap : ls.length ≤ cap) (hcm : cap ≤ maxLen) (hn : n0 ≤ w.heap.size) (hyes : errL pr os id c f ls = 0) :
    Calls Try.prog 10 #[.pointer (some ⟨X, 0, none⟩), .int .i64 id, .int .i64 c, .string f, .slice A ls.length cap] w (AddPost n0 X BP BO pr os id c f ls w) :=
  (add_new h hp id c f A cap ls hfs hR hcap hcm hn hyes).mono fun _ _ ⟨o, h1, h2, ⟨h3, h4, h5, h6, h7, h8⟩, _, h9⟩ => ⟨o, h1, h2, h3, h4, h5, h6, h7, h8, h9⟩
end

end Go.Proofs.Ytakaalldbnklcaa.Or
