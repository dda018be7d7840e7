/-
  Layer 14: the laws' word 'play'.
-/
import Derived.Test.YtpofhadeepgmbaaState14
import Derived.Deep.CutBlock
import Derived.Deep.RegionHeld3
namespace Go.Proofs.Ytpofhadeepgmbaa
open Go.RowKit Go.WideShapes Go.ChangeShapes Go.ChangeAt Go.Deep
set_option linter.unusedVariables false

/-- The book, the document's, an operation's block. -/
structure Pl (w0 : World) (n0 base X BA BH R G : Nat) (x : Quad) (ac : List (Int × Acc)) (hs : List (Int × Hd)) (A1 : Option Addr) (c1 : Nat) (ps : List Pa) (A2 : Option Addr) (c2 : Nat) (hr : List Hd) (w : World) : Prop where
  book : IsBook n0 w X BA BH ac hs
  ref : IsRef base w R A1 c1 ps A2 c2 hr
  blk : Blk w G 35 (en4 x).toArray
  bel : Below w0.heap.size w0 w
  bw : base ≤ w.heap.size
  low : w0.heap.size ≤ n0 ∧ w0.heap.size ≤ R

theorem rowBlk {w : World} {base n cap m : Nat} {e : TypeId} {size : Nat} {A : Option Addr} {xs : List Value} (h : w.ownsRow base e size (.slice A n cap) m xs) {b : Nat} (hb : A.map (·.block) = some b) : ∃ cs, Blk w b e cs := by
  rcases h.2 with ⟨h1, _⟩ | ⟨g, cap', cur, h1, _, hh, _⟩
  · simp at h1
    rw [h1.1] at hb
    simp at hb
  · simp at h1
    rw [h1.1] at hb
    simp at hb
    subst hb
    exact ⟨_, hh⟩

section
variable {w0 w w' : World} {n0 base X BA BH R G c1 c2 c1' c2' : Nat} {A1 A2 A1' A2' : Option Addr} {x : Quad} {ac ac' : List (Int × Acc)} {hs hs' : List (Int × Hd)} {ps ps' : List Pa} {hr hr' : List Hd}
theorem notOwn {k : Nat} {t : TypeId} {cs : Array Value} (h : IsBook n0 w X BA BH ac hs) (hk : Blk w k t cs) (ht : t ≠ 71) : ¬ Own BA BH ac k := by
  rintro (rfl | rfl | ⟨p, hp, e⟩)
  · exact h.acs.notBlk hk rfl
  · exact h.hds.notBlk hk rfl
  · subst e
    exact (h.cells p hp).ne_ hk (fun e' => ht e'.symm) rfl
theorem notRT {k : Nat} {t tr : TypeId} {s m n cap : Nat} {cs : Array Value} {A : Option Addr} {xs : List Value} {t2 : TypeId} {cs2 : Array Value} (hR : Blk w R t2 cs2) (hA : w.ownsRow base tr s (.slice A n cap) m xs) (hk : Blk w k t cs) (h1 : t ≠ t2) (h2 : t ≠ tr) : ¬ RT w.heap.size R A k := by
  rintro (rfl | e | e)
  · exact hk.ne_ hR h1 rfl
  · obtain ⟨cs', hb⟩ := rowBlk hA e
    exact hk.ne_ hb h2 rfl
  · have := hk.lt; omega
theorem map_notRT {κ ν : Type} {kE : κ → Value} {vE : ν → Value} {mm : List (κ × ν)} {k : Nat} {tr : TypeId} {s m n cap : Nat} {A : Option Addr} {xs : List Value} {t2 : TypeId} {cs2 : Array Value} (hR : Blk w R t2 cs2) (hA : w.ownsRow base tr s (.slice A n cap) m xs) (hk : IsMap w k kE vE mm) : ¬ RT w.heap.size R A k := by
  rintro (rfl | e | e)
  · exact hk.notBlk hR rfl
  · obtain ⟨cs', hb⟩ := rowBlk hA e
    exact hk.notBlk hb rfl
  · have := hk.lt; omega
theorem book_notRT {tr : TypeId} {s m n cap : Nat} {A : Option Addr} {xs : List Value} {t2 : TypeId} {cs2 : Array Value} (h : IsBook n0 w X BA BH ac hs) (hR : Blk w R t2 cs2) (hA : w.ownsRow base tr s (.slice A n cap) m xs) (ht : 67 ≠ t2 ∧ 71 ≠ t2 ∧ 67 ≠ tr ∧ 71 ≠ tr)
    (hT : Touch (RT w.heap.size R A) w w') : IsBook n0 w' X BA BH ac hs := by
  refine h.touch hT (notRT hR hA h.blk ht.1 ht.2.2.1) (fun k hk => ?_)
  rcases hk with rfl | rfl | ⟨p, hp, rfl⟩
  · exact map_notRT hR hA h.acs
  · exact map_notRT hR hA h.hds
  · exact notRT hR hA (h.cells p hp) ht.2.1 ht.2.2.2
theorem Pl.next (h : Pl w0 n0 base X BA BH R G x ac hs A1 c1 ps A2 c2 hr w) (hb : Below w.heap.size w w') : Pl w0 n0 base X BA BH R G x ac hs A1 c1 ps A2 c2 hr w' :=
  ⟨h.book.next hb, h.ref.next hb, h.blk.next hb, bthen h.bel hb, Nat.le_trans h.bw hb.size, h.low⟩
theorem ref_own (h : IsBook n0 w X BA BH ac hs) (hF : IsRef base w R A1 c1 ps A2 c2 hr) (hT : Touch (Own BA BH ac) w w') : IsRef base w' R A1 c1 ps A2 c2 hr := by
  have row : ∀ {A : Option Addr} {n cap m s : Nat} {t : TypeId} {xs : List Value}, w.ownsRow base t s (.slice A n cap) m xs → t ≠ 71 → w'.ownsRow base t s (.slice A n cap) m xs := fun {A n cap m s t xs} hO ht =>
    own_touch hO hT (fun k hk => by
      obtain ⟨cs, hb⟩ := rowBlk hO (b := k) (by cases A with | none => simp [Value.ownBlock] at hk | some a => simpa [Value.ownBlock] using hk)
      exact notOwn h hb ht)
  exact ⟨hT.blk hF.blk (notOwn h hF.blk (by decide)), row hF.own1 (by decide), row hF.own2 (by decide), hF.lt⟩
theorem Pl.stepB (h : Pl w0 n0 base X BA BH R G x ac hs A1 c1 ps A2 c2 hr w) (hB : IsBook n0 w' X BA BH ac' hs') (hT : Touch (Own BA BH ac) w w') : Pl w0 n0 base X BA BH R G x ac' hs' A1 c1 ps A2 c2 hr w' :=
  ⟨hB, ref_own h.book h.ref hT, hT.blk h.blk (notOwn h.book h.blk (by decide)), h.bel.trans (hT.below h.bel.size (fun k hk => Nat.le_trans h.low.1 (h.book.own_low hk))), Nat.le_trans h.bw hT.size, h.low⟩
theorem rt_low {A : Option Addr} {n cap m s : Nat} {t : TypeId} {xs : List Value} (hO : w.ownsRow base t s (.slice A n cap) m xs) (hb : Below w0.heap.size w0 w) (hR : w0.heap.size ≤ R) (hRb : R < base) : ∀ k, RT w.heap.size R A k → w0.heap.size ≤ k := by
  rintro k (rfl | e | e)
  · exact hR
  · have := (own_blk hO k e).1; omega
  · exact Nat.le_trans hb.size e
theorem Pl.stepR1 (h : Pl w0 n0 base X BA BH R G x ac hs A1 c1 ps A2 c2 hr w) (hF : IsRef base w' R A1' c1' ps' A2 c2 hr) (hT : Touch (RT w.heap.size R A1) w w') : Pl w0 n0 base X BA BH R G x ac hs A1' c1' ps' A2 c2 hr w' :=
  ⟨book_notRT h.book h.ref.blk h.ref.own1 (by decide) hT, hF, hT.blk h.blk (notRT h.ref.blk h.ref.own1 h.blk (by decide) (by decide)), h.bel.trans (hT.below h.bel.size (rt_low h.ref.own1 h.bel h.low.2 h.ref.lt)), Nat.le_trans h.bw hT.size, h.low⟩
theorem Pl.stepR2 (h : Pl w0 n0 base X BA BH R G x ac hs A1 c1 ps A2 c2 hr w) (hF : IsRef base w' R A1 c1 ps A2' c2' hr') (hT : Touch (RT w.heap.size R A2) w w') : Pl w0 n0 base X BA BH R G x ac hs A1 c1 ps A2' c2' hr' w' :=
  ⟨book_notRT h.book h.ref.blk h.ref.own2 (by decide) hT, hF, hT.blk h.blk (notRT h.ref.blk h.ref.own2 h.blk (by decide) (by decide)), h.bel.trans (hT.below h.bel.size (rt_low h.ref.own2 h.bel h.low.2 h.ref.lt)), Nat.le_trans h.bw hT.size, h.low⟩

theorem Pl.cells (h : Pl w0 n0 base X BA BH R G x ac hs A1 c1 ps A2 c2 hr w) : w.cell? ⟨G, 0, none⟩ = some (.int .i64 x.a) ∧ w.cell? ⟨G, 1, none⟩ = some (.int .i64 x.b) ∧ w.cell? ⟨G, 2, none⟩ = some (.int .i64 x.c) ∧ w.cell? ⟨G, 3, none⟩ = some (.int .i64 x.d) := ⟨h.blk.cell 0, h.blk.cell 1, h.blk.cell 2, h.blk.cell 3⟩
theorem hold_room (hM : RelB ac hs ps hr) {c n : Int} {a : Acc} (ha : mget ac c = some a) (hle : n ≤ wrap64 (a.l - a.e)) : a.e + n ≤ 1125899906842624 := by
  have hb := hM.bd ha
  have hlim := (hM.lim c a ha).2.2
  rw [wr_lim _ ⟨by omega, by omega⟩] at hle
  omega
/-- What one operation leaves. -/
def PC (w0 : World) (n0 base X BA BH R G : Nat) (x : Quad) (B : Nat) (v u : Value) (wx : World) : Prop :=
  ∃ (n : Int) (ac : List (Int × Acc)) (hs : List (Int × Hd)) (A1 : Option Addr) (c1 : Nat) (ps : List Pa) (A2 : Option Addr) (c2 : Nat) (hr : List Hd), v = .int .i64 n ∧ u = .int .i64 n ∧ hs.length ≤ B ∧ RelB ac hs ps hr ∧ Pl w0 n0 base X BA BH R G x ac hs A1 c1 ps A2 c2 hr wx

/-- What play leaves. -/
def PlayPost (w0 : World) (n0 base X BA BH R N : Nat) (e : Ending) (w' : World) : Prop :=
  e = .returned (.bool true) ∧ ∃ (ac : List (Int × Acc)) (hs : List (Int × Hd)) (A1 : Option Addr) (c1 : Nat) (ps : List Pa) (A2 : Option Addr) (c2 : Nat) (hr : List Hd), IsBook n0 w' X BA BH ac hs ∧ IsRef base w' R A1 c1 ps A2 c2 hr ∧ RelB ac hs ps hr ∧ hs.length ≤ N ∧ Below w0.heap.size w0 w' ∧ base ≤ w'.heap.size

set_option maxRecDepth 100000 in
set_option maxHeartbeats 16000000 in
theorem play_any (w0 : World) (l : List Quad) (A : Option Addr) (cp : Nat) (hR0 : Rd w0 A (l.flatMap en4)) (w : World) (h : IsBook n0 w X BA BH ac hs) (hF : IsRef base w R A1 c1 ps A2 c2 hr) (hM : RelB ac hs ps hr) (hb : Below w0.heap.size w0 w) (hbw : base ≤ w.heap.size) (hlow : w0.heap.size ≤ n0 ∧ w0.heap.size ≤ R ∧ n0 ≤ base) (hl : (hs.length + l.length) * 24 ≤ 140737488351232) :
    Calls Try.prog 16 #[.pointer (some ⟨X, 0, none⟩), .pointer (some ⟨R, 0, none⟩), .slice A l.length cp] w (PlayPost w0 n0 base X BA BH R (hs.length + l.length)) := by
  obtain ⟨N, hN⟩ : ∃ N, N = hs.length := ⟨_, rfl⟩
  rw [← hN] at hl ⊢
  have HI := hid (And.intro hN (And.intro h (And.intro hF (And.intro hM (And.intro hb hbw)))))
  clear h hF hM hb hbw hN
  go_enter Try.func16, Try.ntmps16
  go_wp2_with fail
  go_loopw [16] (fun i wr => ∃ (k : Nat) (ac : List (Int × Acc)) (hs : List (Int × Hd)) (A1 : Option Addr) (c1 : Nat) (ps : List Pa) (A2 : Option Addr) (c2 : Nat) (hr : List Hd), k ≤ l.length ∧ i = .int .i64 k ∧ hs.length ≤ N + k ∧ Hid (RelB ac hs ps hr) ∧ IsBook n0 wr X BA BH ac hs ∧ IsRef base wr R A1 c1 ps A2 c2 hr ∧ Below w0.heap.size w0 wr ∧ base ≤ wr.heap.size) (fun i _ => l.length - nOf i)
  case atStart =>
    obtain ⟨hN, h, hF, hM, hb, hbw⟩ := HI.out
    exact ⟨0, _, _, _, _, _, _, _, _, Nat.zero_le _, rfl, by omega, hid hM, h, hF, hb, hbw⟩
  case round =>
    clear HI
    obtain ⟨k, ac, hs, A1, c1, ps, A2, c2, hr, hk, rfl, hln, hM, h, hF, hb, hbw⟩ := hrel
    by_cases hlt : k < l.length
    · obtain ⟨x, hx⟩ : ∃ x, l[k]? = some x := ⟨l[k], List.getElem?_eq_getElem hlt⟩
      have hR1 := hR0.below hb
      obtain ⟨b, off, hAA, hbs, hcc⟩ := hR1.at_ 4 en4_len (by omega) hx
      obtain ⟨xa, xo, xc, xm⟩ := x
      have q0 : wr.cell? ⟨b, off + k * 4, none⟩ = some (.int .i64 xa) := hcc 0 _ rfl
      have q1 : wr.cell? ⟨b, off + k * 4 + 1, none⟩ = some (.int .i64 xo) := hcc 1 _ rfl
      have q2 : wr.cell? ⟨b, off + k * 4 + 2, none⟩ = some (.int .i64 xc) := hcc 2 _ rfl
      have q3 : wr.cell? ⟨b, off + k * 4 + 3, none⟩ = some (.int .i64 xm) := hcc 3 _ rfl
      clear hcc hx hR1
      have hwb : Below wr.heap.size wr (wr.alloc (.cells #[.int .i64 xa, .int .i64 xo, .int .i64 xc, .int .i64 xm] 35)) := (Below.refl _ _).alloc (Nat.le_refl _) _
      have hPl : Pl w0 n0 base X BA BH R wr.heap.size ⟨xa, xo, xc, xm⟩ ac hs A1 c1 ps A2 c2 hr (wr.alloc (.cells #[.int .i64 xa, .int .i64 xo, .int .i64 xc, .int .i64 xm] 35)) :=
        ⟨h.next hwb, hF.next hwb, Blk.new _ _ _, bthen hb hwb, Nat.le_trans hbw hwb.size, ⟨hlow.1, hlow.2.1⟩⟩
      replace hPl := hid hPl
      clear h hF hb hbw hwb
      subst hAA
      have p00 : (wr.alloc (.cells #[.int .i64 xa, .int .i64 xo, .int .i64 xc, .int .i64 xm] 35)).cell? ⟨wr.heap.size, 0, none⟩ = some (.int .i64 xa) := hPl.out.blk.cell 0
      go_upto_block 2 with fail
      clear p00
      obtain ⟨W0, hW0⟩ : ∃ W0, W0 = wr.alloc (.cells #[.int .i64 xa, .int .i64 xo, .int .i64 xc, .int .i64 xm] 35) := ⟨_, rfl⟩
      obtain ⟨G, hGe⟩ : ∃ G, G = wr.heap.size := ⟨_, rfl⟩
      have hP := hPl.out
      rw [← hW0, ← hGe] at hP ⊢
      clear q0 q1 q2 q3 hW0 hGe hPl hbs
      have hl1 : ps.length * 16 + 16 ≤ 140737488355328 := by have := hM.out.few; have := hM.out.pa.len; omega
      have hl2 : hr.length * 24 + 24 ≤ 140737488355328 := by have := hM.out.hd.len; omega
      go_cut [9, 10] (fun v u wx => PC w0 n0 base X BA BH R G ⟨xa, xo, xc, xm⟩ (N + k + 1) v u wx)
      case first =>
        clear hR0 hl
        obtain ⟨p0, p1, p2, p3⟩ := hP.cells
        by_cases k1 : xa = 1
        · have e1 : (xa == 1) = true := by simpa using k1
          subst k1
          by_cases hok : custOk xc xm
          · have K1 : Hid (∀ w, Pl w0 n0 base X BA BH R G ⟨1, xo, xc, xm⟩ ac hs A1 c1 ps A2 c2 hr w → Calls Try.prog 11 #[.pointer (some ⟨X, 0, none⟩), .int .i64 xc, .int .i64 xm] w fun e w' => e = .returned (.int .i64 0) ∧ ∃ g, Pl w0 n0 base X BA BH R G ⟨1, xo, xc, xm⟩ (custAc ac xc xm g) hs A1 c1 ps A2 c2 hr w') := hid (fun w h => (customer_yes h.book (Nat.le_trans hlow.2.2 h.bw) xc xm hok).mono fun e w' ⟨g, h1, _, h2, h3⟩ => ⟨h1, g, h.stepB h2 h3⟩)
            have K2 : Hid (∀ ac' hs' w, Pl w0 n0 base X BA BH R G ⟨1, xo, xc, xm⟩ ac' hs' A1 c1 ps A2 c2 hr w → Calls Try.prog 27 #[.pointer (some ⟨R, 0, none⟩), .int .i64 xc, .int .i64 xm] w fun e w' => e = .returned (.int .i64 0) ∧ ∃ A' c', Pl w0 n0 base X BA BH R G ⟨1, xo, xc, xm⟩ ac' hs' A' c' (psC ps xc xm) A2 c2 hr w') := hid (fun ac' hs' w h => (rcust_yes h.ref hM.out.pa.sorted xc xm hok hl1 h.bw).mono fun e w' ⟨A', c', h1, h2, h3⟩ => ⟨h1, A', c', h.stepR1 h2 h3⟩)
            have hM2 := hid (fun g => hM.out.cust hP.book.has hok g)
            clear hok p0 p1 p2 p3
            go_wp2_with fail
            replace hP : Pl w0 n0 base X BA BH R G ⟨1, xo, xc, xm⟩ ac hs A1 c1 ps A2 c2 hr W0.drew := hP.next (below_drewN (Below.refl _ _) 1)
            go_region_held3 (fun w' => w'.cell? ⟨G, 0, none⟩ = some (.int .i64 1) ∧ w'.cell? ⟨G, 1, none⟩ = some (.int .i64 xo) ∧ w'.cell? ⟨G, 2, none⟩ = some (.int .i64 xc) ∧ w'.cell? ⟨G, 3, none⟩ = some (.int .i64 xm)) (exact Pl.cells (by assumption))
              (first
                | (go_at_call 11; refine (K1.out _ hP).mono ?_; rintro e w7 ⟨rfl, g7, hP7⟩; clear hP)
                | (go_at_call 27; refine (K2.out _ _ _ hP7).mono ?_; rintro e w8 ⟨rfl, A8, c8, hP8⟩; clear hP7))
            all_goals
              clear K1 K2
              go_wp2_with fail
              go_meet
              exact ⟨0, _, _, _, _, _, _, _, _, rfl, rfl, by omega, hM2.out g7, hP8⟩
          · have K1 : Hid (∀ w, Pl w0 n0 base X BA BH R G ⟨1, xo, xc, xm⟩ ac hs A1 c1 ps A2 c2 hr w → Calls Try.prog 11 #[.pointer (some ⟨X, 0, none⟩), .int .i64 xc, .int .i64 xm] w fun e w' => e = .returned (.int .i64 2) ∧ Pl w0 n0 base X BA BH R G ⟨1, xo, xc, xm⟩ ac hs A1 c1 ps A2 c2 hr w') := hid (fun w h => (customer_no h.book xc xm hok).mono fun e w' ⟨h1, h2⟩ => ⟨h1, h2 ▸ h⟩)
            have K2 : Hid (∀ ac' hs' w, Pl w0 n0 base X BA BH R G ⟨1, xo, xc, xm⟩ ac' hs' A1 c1 ps A2 c2 hr w → Calls Try.prog 27 #[.pointer (some ⟨R, 0, none⟩), .int .i64 xc, .int .i64 xm] w fun e w' => e = .returned (.int .i64 2) ∧ Pl w0 n0 base X BA BH R G ⟨1, xo, xc, xm⟩ ac' hs' A1 c1 ps A2 c2 hr w') := hid (fun ac' hs' w h => (rcust_no (w := w) xc xm hok (.pointer (some ⟨R, 0, none⟩))).mono fun e w' ⟨h1, h2⟩ => ⟨h1, h2 ▸ h⟩)
            clear hok p0 p1 p2 p3
            go_wp2_with fail
            replace hP : Pl w0 n0 base X BA BH R G ⟨1, xo, xc, xm⟩ ac hs A1 c1 ps A2 c2 hr W0.drew := hP.next (below_drewN (Below.refl _ _) 1)
            go_region_held3 (fun w' => w'.cell? ⟨G, 0, none⟩ = some (.int .i64 1) ∧ w'.cell? ⟨G, 1, none⟩ = some (.int .i64 xo) ∧ w'.cell? ⟨G, 2, none⟩ = some (.int .i64 xc) ∧ w'.cell? ⟨G, 3, none⟩ = some (.int .i64 xm)) (exact Pl.cells (by assumption))
              (first
                | (go_at_call 11; refine (K1.out _ hP).mono ?_; rintro e w7 ⟨rfl, hP7⟩; clear hP)
                | (go_at_call 27; refine (K2.out _ _ _ hP7).mono ?_; rintro e w8 ⟨rfl, hP8⟩; clear hP7))
            all_goals
              clear K1 K2
              go_wp2_with fail
              go_meet
              exact ⟨2, _, _, _, _, _, _, _, _, rfl, rfl, by omega, hM.out, hP8⟩
        · have e1 : (xa == 1) = false := by simpa using k1
          clear k1
          by_cases k2 : xa = 2
          · have e2 : (xa == 2) = true := by simpa using k2
            subst k2
            by_cases hok : 1 ≤ xo ∧ 0 ≤ xm ∧ xm ≤ 1125899906842624
            · by_cases hz : holdR ac hs xo xc xm = 0
              · obtain ⟨a, ha, hno, hle⟩ := hold_from hok hz
                have K1 : Hid (∀ w, Pl w0 n0 base X BA BH R G ⟨2, xo, xc, xm⟩ ac hs A1 c1 ps A2 c2 hr w → Calls Try.prog 12 #[.pointer (some ⟨X, 0, none⟩), .int .i64 xo, .int .i64 xc, .int .i64 xm] w fun e w' => e = .returned (.int .i64 0) ∧ Pl w0 n0 base X BA BH R G ⟨2, xo, xc, xm⟩ (mset ac xc ⟨a.g, a.l, wrap64 (a.e + xm)⟩) (mset hs xo ⟨xo, xc, xm⟩) A1 c1 ps A2 c2 hr w') := hid (fun w h => (hold_ok h.book xo xc xm hok a ha hno hle).mono fun e w' ⟨h1, h2, h3⟩ => ⟨h1, h.stepB h2 h3⟩)
                have K2 : Hid (∀ ac' hs' w, Pl w0 n0 base X BA BH R G ⟨2, xo, xc, xm⟩ ac' hs' A1 c1 ps A2 c2 hr w → Calls Try.prog 28 #[.pointer (some ⟨R, 0, none⟩), .int .i64 xo, .int .i64 xc, .int .i64 xm] w fun e w' => e = .returned (.int .i64 0) ∧ ∃ A' c', Pl w0 n0 base X BA BH R G ⟨2, xo, xc, xm⟩ ac' hs' A1 c1 ps A' c' (insK Hd.o ltI hr ⟨xo, xc, xm⟩) w') := hid (fun ac' hs' w h => (rhold_yes h.ref hM.out xo xc xm hok a ha hno hle (by omega) hl2 h.bw).mono fun e w' ⟨A', c', h1, h2, h3⟩ => ⟨h1, A', c', h.stepR2 h2 h3⟩)
                have hM2 := hid (hM.out.put ha hno hok.2.1 hok.2.2 (hold_room hM.out ha hle))
                have hln2 := mset_len (m := hs) (a := xo) (b := (⟨xo, xc, xm⟩ : Hd))
                clear hok hz ha hno hle p0 p1 p2 p3
                go_wp2_with fail
                replace hP : Pl w0 n0 base X BA BH R G ⟨2, xo, xc, xm⟩ ac hs A1 c1 ps A2 c2 hr W0.drew := hP.next (below_drewN (Below.refl _ _) 1)
                go_region_held3 (fun w' => w'.cell? ⟨G, 0, none⟩ = some (.int .i64 2) ∧ w'.cell? ⟨G, 1, none⟩ = some (.int .i64 xo) ∧ w'.cell? ⟨G, 2, none⟩ = some (.int .i64 xc) ∧ w'.cell? ⟨G, 3, none⟩ = some (.int .i64 xm)) (exact Pl.cells (by assumption))
                  (first
                    | (go_at_call 12; refine (K1.out _ hP).mono ?_; rintro e w7 ⟨rfl, hP7⟩; clear hP)
                    | (go_at_call 28; refine (K2.out _ _ _ hP7).mono ?_; rintro e w8 ⟨rfl, A8, c8, hP8⟩; clear hP7))
                all_goals
                  clear K1 K2
                  go_wp2_with fail
                  go_meet
                  exact ⟨0, _, _, _, _, _, _, _, _, rfl, rfl, by omega, hM2.out, hP8⟩
              · have K1 : Hid (∀ w, Pl w0 n0 base X BA BH R G ⟨2, xo, xc, xm⟩ ac hs A1 c1 ps A2 c2 hr w → Calls Try.prog 12 #[.pointer (some ⟨X, 0, none⟩), .int .i64 xo, .int .i64 xc, .int .i64 xm] w fun e w' => e = .returned (.int .i64 (holdR ac hs xo xc xm)) ∧ Pl w0 n0 base X BA BH R G ⟨2, xo, xc, xm⟩ ac hs A1 c1 ps A2 c2 hr w') := hid (fun w h => (hold_no h.book xo xc xm hok hz).mono fun e w' ⟨h1, h2⟩ => ⟨h1, h.next h2⟩)
                have K2 : Hid (∀ ac' hs' w, Pl w0 n0 base X BA BH R G ⟨2, xo, xc, xm⟩ ac' hs' A1 c1 ps A2 c2 hr w → Calls Try.prog 28 #[.pointer (some ⟨R, 0, none⟩), .int .i64 xo, .int .i64 xc, .int .i64 xm] w fun e w' => e = .returned (.int .i64 (holdR ac hs xo xc xm)) ∧ Pl w0 n0 base X BA BH R G ⟨2, xo, xc, xm⟩ ac' hs' A1 c1 ps A2 c2 hr w') := hid (fun ac' hs' w h => (rhold_no h.ref hM.out xo xc xm hok hz (by omega) (by omega)).mono fun e w' ⟨h1, h2⟩ => ⟨h1, h2 ▸ h⟩)
                generalize holdR ac hs xo xc xm = z at K1 K2
                clear hok hz p0 p1 p2 p3
                go_wp2_with fail
                replace hP : Pl w0 n0 base X BA BH R G ⟨2, xo, xc, xm⟩ ac hs A1 c1 ps A2 c2 hr W0.drew := hP.next (below_drewN (Below.refl _ _) 1)
                go_region_held3 (fun w' => w'.cell? ⟨G, 0, none⟩ = some (.int .i64 2) ∧ w'.cell? ⟨G, 1, none⟩ = some (.int .i64 xo) ∧ w'.cell? ⟨G, 2, none⟩ = some (.int .i64 xc) ∧ w'.cell? ⟨G, 3, none⟩ = some (.int .i64 xm)) (exact Pl.cells (by assumption))
                  (first
                    | (go_at_call 12; refine (K1.out _ hP).mono ?_; rintro e w7 ⟨rfl, hP7⟩; clear hP)
                    | (go_at_call 28; refine (K2.out _ _ _ hP7).mono ?_; rintro e w8 ⟨rfl, hP8⟩; clear hP7))
                all_goals
                  clear K1 K2
                  go_wp2_with fail
                  go_meet
                  exact ⟨z, _, _, _, _, _, _, _, _, rfl, rfl, by omega, hM.out, hP8⟩
            · have K1 : Hid (∀ w, Pl w0 n0 base X BA BH R G ⟨2, xo, xc, xm⟩ ac hs A1 c1 ps A2 c2 hr w → Calls Try.prog 12 #[.pointer (some ⟨X, 0, none⟩), .int .i64 xo, .int .i64 xc, .int .i64 xm] w fun e w' => e = .returned (.int .i64 2) ∧ Pl w0 n0 base X BA BH R G ⟨2, xo, xc, xm⟩ ac hs A1 c1 ps A2 c2 hr w') := hid (fun w h => (hold_arg h.book xo xc xm hok).mono fun e w' ⟨h1, h2⟩ => ⟨h1, h2 ▸ h⟩)
              have K2 : Hid (∀ ac' hs' w, Pl w0 n0 base X BA BH R G ⟨2, xo, xc, xm⟩ ac' hs' A1 c1 ps A2 c2 hr w → Calls Try.prog 28 #[.pointer (some ⟨R, 0, none⟩), .int .i64 xo, .int .i64 xc, .int .i64 xm] w fun e w' => e = .returned (.int .i64 2) ∧ Pl w0 n0 base X BA BH R G ⟨2, xo, xc, xm⟩ ac' hs' A1 c1 ps A2 c2 hr w') := hid (fun ac' hs' w h => (rhold_arg (w := w) xo xc xm (.pointer (some ⟨R, 0, none⟩)) hok).mono fun e w' ⟨h1, h2⟩ => ⟨h1, h2 ▸ h⟩)
              clear hok p0 p1 p2 p3
              go_wp2_with fail
              replace hP : Pl w0 n0 base X BA BH R G ⟨2, xo, xc, xm⟩ ac hs A1 c1 ps A2 c2 hr W0.drew := hP.next (below_drewN (Below.refl _ _) 1)
              go_region_held3 (fun w' => w'.cell? ⟨G, 0, none⟩ = some (.int .i64 2) ∧ w'.cell? ⟨G, 1, none⟩ = some (.int .i64 xo) ∧ w'.cell? ⟨G, 2, none⟩ = some (.int .i64 xc) ∧ w'.cell? ⟨G, 3, none⟩ = some (.int .i64 xm)) (exact Pl.cells (by assumption))
                (first
                  | (go_at_call 12; refine (K1.out _ hP).mono ?_; rintro e w7 ⟨rfl, hP7⟩; clear hP)
                  | (go_at_call 28; refine (K2.out _ _ _ hP7).mono ?_; rintro e w8 ⟨rfl, hP8⟩; clear hP7))
              all_goals
                clear K1 K2
                go_wp2_with fail
                go_meet
                exact ⟨2, _, _, _, _, _, _, _, _, rfl, rfl, by omega, hM.out, hP8⟩
          · have e2 : (xa == 2) = false := by simpa using k2
            clear k2
            by_cases k3 : xa = 3
            · have e3 : (xa == 3) = true := by simpa using k3
              subst k3
              rcases hM.out.heldFor xo with ⟨j, d, hd, _, hj, hy, he⟩ | ⟨hn, he⟩
              · obtain ⟨a, ha⟩ := hP.book.has _ (mget_mem hd)
                simp only at ha
                have K1 : Hid (∀ w, Pl w0 n0 base X BA BH R G ⟨3, xo, xc, xm⟩ ac hs A1 c1 ps A2 c2 hr w → Calls Try.prog 14 #[.pointer (some ⟨X, 0, none⟩), .int .i64 xo] w fun e w' => e = .returned (.int .i64 0) ∧ Pl w0 n0 base X BA BH R G ⟨3, xo, xc, xm⟩ (mset ac d.c ⟨a.g, a.l, wrap64 (a.e - d.a)⟩) (mdel hs xo) A1 c1 ps A2 c2 hr w') := hid (fun w h => (release_yes h.book xo d hd a ha).mono fun e w' ⟨h1, h2, h3⟩ => ⟨h1, h.stepB h2 h3⟩)
                have K2 : Hid (∀ ac' hs' w, Pl w0 n0 base X BA BH R G ⟨3, xo, xc, xm⟩ ac' hs' A1 c1 ps A2 c2 hr w → Calls Try.prog 29 #[.pointer (some ⟨R, 0, none⟩), .int .i64 xo] w fun e w' => e = .returned (.int .i64 0) ∧ ∃ A' c', Pl w0 n0 base X BA BH R G ⟨3, xo, xc, xm⟩ ac' hs' A1 c1 ps A' c' (hr.eraseIdx j) w') := hid (fun ac' hs' w h => (rrel_yes h.ref xo j he hj hl2 h.bw).mono fun e w' ⟨A', c', h1, h2, h3⟩ => ⟨h1, A', c', h.stepR2 h2 h3⟩)
                have hM2 := hid (hM.out.rel ha hd hy)
                have hln2 := mdel_len (m := hs) (a := xo)
                clear hd hj hy he ha p0 p1 p2 p3
                go_wp2_with fail
                replace hP : Pl w0 n0 base X BA BH R G ⟨3, xo, xc, xm⟩ ac hs A1 c1 ps A2 c2 hr W0.drew := hP.next (below_drewN (Below.refl _ _) 1)
                go_region_held3 (fun w' => w'.cell? ⟨G, 0, none⟩ = some (.int .i64 3) ∧ w'.cell? ⟨G, 1, none⟩ = some (.int .i64 xo) ∧ w'.cell? ⟨G, 2, none⟩ = some (.int .i64 xc) ∧ w'.cell? ⟨G, 3, none⟩ = some (.int .i64 xm)) (exact Pl.cells (by assumption))
                  (first
                    | (go_at_call 14; refine (K1.out _ hP).mono ?_; rintro e w7 ⟨rfl, hP7⟩; clear hP)
                    | (go_at_call 29; refine (K2.out _ _ _ hP7).mono ?_; rintro e w8 ⟨rfl, A8, c8, hP8⟩; clear hP7))
                all_goals
                  clear K1 K2
                  go_wp2_with fail
                  go_meet
                  exact ⟨0, _, _, _, _, _, _, _, _, rfl, rfl, by omega, hM2.out, hP8⟩
              · have K1 : Hid (∀ w, Pl w0 n0 base X BA BH R G ⟨3, xo, xc, xm⟩ ac hs A1 c1 ps A2 c2 hr w → Calls Try.prog 14 #[.pointer (some ⟨X, 0, none⟩), .int .i64 xo] w fun e w' => e = .returned (.int .i64 70) ∧ Pl w0 n0 base X BA BH R G ⟨3, xo, xc, xm⟩ ac hs A1 c1 ps A2 c2 hr w') := hid (fun w h => (release_no h.book xo hn).mono fun e w' ⟨h1, h2⟩ => ⟨h1, h.next h2⟩)
                have K2 : Hid (∀ ac' hs' w, Pl w0 n0 base X BA BH R G ⟨3, xo, xc, xm⟩ ac' hs' A1 c1 ps A2 c2 hr w → Calls Try.prog 29 #[.pointer (some ⟨R, 0, none⟩), .int .i64 xo] w fun e w' => e = .returned (.int .i64 70) ∧ Pl w0 n0 base X BA BH R G ⟨3, xo, xc, xm⟩ ac' hs' A1 c1 ps A2 c2 hr w') := hid (fun ac' hs' w h => (rrel_no h.ref xo he (by omega)).mono fun e w' ⟨h1, h2⟩ => ⟨h1, h2 ▸ h⟩)
                clear hn he p0 p1 p2 p3
                go_wp2_with fail
                replace hP : Pl w0 n0 base X BA BH R G ⟨3, xo, xc, xm⟩ ac hs A1 c1 ps A2 c2 hr W0.drew := hP.next (below_drewN (Below.refl _ _) 1)
                go_region_held3 (fun w' => w'.cell? ⟨G, 0, none⟩ = some (.int .i64 3) ∧ w'.cell? ⟨G, 1, none⟩ = some (.int .i64 xo) ∧ w'.cell? ⟨G, 2, none⟩ = some (.int .i64 xc) ∧ w'.cell? ⟨G, 3, none⟩ = some (.int .i64 xm)) (exact Pl.cells (by assumption))
                  (first
                    | (go_at_call 14; refine (K1.out _ hP).mono ?_; rintro e w7 ⟨rfl, hP7⟩; clear hP)
                    | (go_at_call 29; refine (K2.out _ _ _ hP7).mono ?_; rintro e w8 ⟨rfl, hP8⟩; clear hP7))
                all_goals
                  clear K1 K2
                  go_wp2_with fail
                  go_meet
                  exact ⟨70, _, _, _, _, _, _, _, _, rfl, rfl, by omega, hM.out, hP8⟩
            · have e3 : (xa == 3) = false := by simpa using k3
              clear k3
              go_wp2_with fail
              go_meet
              exact ⟨0, _, _, _, _, _, _, _, _, rfl, rfl, by omega, hM.out, hP⟩
      case rest =>
        clear hP hM hln hl1 hl2
        obtain ⟨n, ac', hs', A1', c1', ps', A2', c2', hr', rfl, rfl, hln, hM, hP⟩ := hcut
        have hnn : (n != n) = false := by simp
        have E := exposure_any hP.book xc
        have F := fun w h => rfind_any (w := w) (base := base) (R := R) (c1 := c1') (c2 := c2') (A1 := A1') (A2 := A2') (ps := ps') (hr := hr') h xc (by have := hM.few; have := hM.pa.len; omega)
        have S := hid (fun w h hF => state_any (w := w) (n0 := n0) (base := base) (R := R) (X := X) (BA := BA) (BH := BH) (c1 := c1') (c2 := c2') (A1 := A1') (A2 := A2') h hF hM (by omega))
        unfold expF at E
        have HM2 := hid hM
        rcases hM.find xc with ⟨j, a, ha, hj, hy, he⟩ | ⟨hn, he⟩
        · rw [ha] at E
          rw [he] at F
          obtain ⟨ag, al, ae⟩ := a
          simp only at E
          replace E := hid E
          replace F := hid F
          obtain ⟨_, _, d2, _⟩ := hP.cells
          have hGl : G < W0.heap.size ∨ True := .inr trivial
          clear hM ha hy he hj
          go_wp2_with fail
          refine E.out.mono ?_
          rintro e w5 ⟨rfl, hb5⟩
          replace hP := hP.next hb5
          clear hb5 d2 E
          go_wp2_with fail
          refine (S.out _ hP.book hP.ref).mono ?_
          rintro e w6 ⟨rfl, hb6⟩
          replace hP := hP.next hb6
          clear hb6 S
          obtain ⟨_, _, d2, _⟩ := hP.cells
          go_wp2_with fail
          refine (F.out _ hP.ref).mono ?_
          rintro e w7 ⟨rfl, rfl⟩
          go_wp2_with fail
          go_roundw
          case rel => exact ⟨k + 1, _, _, _, _, _, _, _, _, by omega, by go_num, by omega, HM2, hP.book, hP.ref, hP.bel, hP.bw⟩
          case measure => simp [nOf]; omega
        · rw [hn] at E
          rw [he] at F
          simp only at E
          replace E := hid E
          replace F := hid F
          obtain ⟨_, _, d2, _⟩ := hP.cells
          clear hM hn he
          go_wp2_with fail
          refine E.out.mono ?_
          rintro e w5 ⟨rfl, hb5⟩
          replace hP := hP.next hb5
          clear hb5 d2 E
          go_wp2_with fail
          refine (S.out _ hP.book hP.ref).mono ?_
          rintro e w6 ⟨rfl, hb6⟩
          replace hP := hP.next hb6
          clear hb6 S
          obtain ⟨_, _, d2, _⟩ := hP.cells
          go_wp2_with fail
          refine (F.out _ hP.ref).mono ?_
          rintro e w7 ⟨rfl, rfl⟩
          go_wp2_with fail
          go_roundw
          case rel => exact ⟨k + 1, _, _, _, _, _, _, _, _, by omega, by go_num, by omega, HM2, hP.book, hP.ref, hP.bel, hP.bw⟩
          case measure => simp [nOf]; omega
    · have HK := hid hk
      clear hk
      have HH := hid (And.intro hM.out (And.intro h (And.intro hF (And.intro hb hbw))))
      go_wp2_with fail
      go_ret
      obtain ⟨a1, a2, a3, a4, a5⟩ := HH.out
      exact ⟨rfl, _, _, _, _, _, _, _, _, a2, a3, a1, by have := HK.out; omega, a4, a5⟩
end

end Go.Proofs.Ytpofhadeepgmbaa
