/-
  Layer 15: the laws' word 'play' (printed by gen_play15.py).
-/
import Derived.Test.YthfaaimmfdidnaaSta15
import Derived.Deep.CutBlock
import Derived.Deep.RegionHeld3
import Derived.Test.YthfaaimmfdidnaaSetRow
namespace Go.Proofs.Ythfaaimmfdidnaa
open Go.RowKit Go.WideShapes Go.ChangeShapes Go.ChangeAt Go.Deep
set_option linter.unusedVariables false

/-- Both books at work, and the operation at hand. -/
structure Pl (w0 : World) (n0 base X BL BG R G : Nat) (x : Opn) (lv : List (Int × Lv)) (gs : List (Int × Gd)) (A1 : Option Addr) (c1 : Nat) (is : List (Int × Int)) (A2 : Option Addr) (c2 : Nat) (rs : List Gd) (w : World) : Prop where
  book : IsBook n0 w X BL BG lv gs
  good : GoodB lv gs
  ref : IsRef base w R A1 c1 is A2 c2 rs
  blk : Blk w G 42 (enOp x).toArray
  bel : Below w0.heap.size w0 w
  bw : base ≤ w.heap.size
  low : w0.heap.size ≤ n0 ∧ w0.heap.size ≤ R ∧ n0 ≤ base

section
variable {w0 w w' : World} {n0 base X BL BG R G c1 c2 c1' c2' : Nat} {A1 A2 A1' A2' : Option Addr} {x : Opn} {lv lv' : List (Int × Lv)} {gs gs' : List (Int × Gd)} {is is' : List (Int × Int)} {rs rs' : List Gd}
theorem notOwn {k : Nat} {t : TypeId} {cs : Array Value} (h : IsBook n0 w X BL BG lv gs) (hk : Blk w k t cs) (h1 : t ≠ 38) (h2 : t ≠ 45) : ¬ Own BL BG lv gs k := by
  rintro (e | e | ⟨p, hp, e⟩ | ⟨p, hp, e⟩)
  · exact h.lvs.notBlk hk e.symm
  · exact h.gds.notBlk hk e.symm
  · exact hk.ne_ (h.lc p hp) h1 e.symm
  · exact hk.ne_ (h.gc p hp) h2 e.symm
theorem notRT2 {k : Nat} {t : TypeId} {cs : Array Value} (h : IsRef base w R A1 c1 is A2 c2 rs) (hk : Blk w k t cs) (h1 : t ≠ 54) (h2 : t ≠ 102) (h3 : t ≠ 67) : ¬ RT2 w.heap.size R A1 A2 k := by
  rintro (hr | hr)
  · exact rt_not h.blk h.own1 hk h1 h2 hr
  · exact rt_not h.blk h.own2 hk h1 h3 hr
theorem mapNotRT {κ ν : Type} {kE : κ → Value} {vE : ν → Value} {mm : List (κ × ν)} {k n cap m s : Nat} {t : TypeId} {A : Option Addr} {xs : List Value} {t2 : TypeId} {cs2 : Array Value} (hR : Blk w R t2 cs2) (hA : w.ownsRow base t s (.slice A n cap) m xs) (hk : IsMap w k kE vE mm) : ¬ RT w.heap.size R A k := by
  rintro (rfl | e | e)
  · exact hk.notBlk hR rfl
  · obtain ⟨cs', hb⟩ := rowBlk15 hA e
    exact hk.notBlk hb rfl
  · have := hk.lt; omega
theorem book_RT2 (h : IsBook n0 w X BL BG lv gs) (hF : IsRef base w R A1 c1 is A2 c2 rs) (hT : Touch (RT2 w.heap.size R A1 A2) w w') : IsBook n0 w' X BL BG lv gs := by
  refine h.touch hT (notRT2 hF h.blk (by decide) (by decide) (by decide)) (fun k hk => ?_) (fun p hp => ?_)
  · rcases hk with rfl | rfl | ⟨p, hp, rfl⟩ | ⟨p, hp, rfl⟩
    · rintro (hr | hr)
      · exact mapNotRT hF.blk hF.own1 h.lvs hr
      · exact mapNotRT hF.blk hF.own2 h.lvs hr
    · rintro (hr | hr)
      · exact mapNotRT hF.blk hF.own1 h.gds hr
      · exact mapNotRT hF.blk hF.own2 h.gds hr
    · exact notRT2 hF (h.lc p hp) (by decide) (by decide) (by decide)
    · exact notRT2 hF (h.gc p hp) (by decide) (by decide) (by decide)
  · obtain ⟨_, _, cs, hb⟩ := h.lns p hp
    exact notRT2 hF hb (by decide) (by decide) (by decide)
theorem ref_Own (h : IsBook n0 w X BL BG lv gs) (hF : IsRef base w R A1 c1 is A2 c2 rs) (hT : Touch (Own BL BG lv gs) w w') : IsRef base w' R A1 c1 is A2 c2 rs := by
  refine ⟨hT.blk hF.blk (notOwn h hF.blk (by decide) (by decide)), own_touch hF.own1 hT (fun k hk => ?_), own_touch hF.own2 hT (fun k hk => ?_), fun o ho => ?_, hF.lt⟩
  · obtain ⟨cs, hb⟩ := rowBlk15 hF.own1 (b := k) (by cases A1 with | none => simp [Value.ownBlock] at hk | some a => simpa [Value.ownBlock] using hk)
    exact notOwn h hb (by decide) (by decide)
  · obtain ⟨cs, hb⟩ := rowBlk15 hF.own2 (b := k) (by cases A2 with | none => simp [Value.ownBlock] at hk | some a => simpa [Value.ownBlock] using hk)
    exact notOwn h hb (by decide) (by decide)
  · obtain ⟨_, _, cs, hb⟩ := hF.lns o ho
    exact (hF.lns o ho).touch hT (notOwn h hb (by decide) (by decide))
theorem Pl.next (h : Pl w0 n0 base X BL BG R G x lv gs A1 c1 is A2 c2 rs w) (hb : Below w.heap.size w w') : Pl w0 n0 base X BL BG R G x lv gs A1 c1 is A2 c2 rs w' :=
  ⟨h.book.next hb, h.good, h.ref.next hb, h.blk.next hb, bthen h.bel hb, Nat.le_trans h.bw hb.size, h.low⟩
theorem Pl.cells (h : Pl w0 n0 base X BL BG R G x lv gs A1 c1 is A2 c2 rs w) : w.cell? ⟨G, 0, none⟩ = some (.int .i64 x.k) ∧ w.cell? ⟨G, 1, none⟩ = some (.int .i64 x.o) ∧ w.cell? ⟨G, 2, none⟩ = some (.int .i64 x.i) ∧ w.cell? ⟨G, 3, none⟩ = some (.int .i64 x.q) ∧ w.cell? ⟨G, 4, none⟩ = some (.slice x.A x.ls.length x.cap) :=
  ⟨h.blk.cell 0, h.blk.cell 1, h.blk.cell 2, h.blk.cell 3, h.blk.cell 4⟩
theorem Pl.stepB (h : Pl w0 n0 base X BL BG R G x lv gs A1 c1 is A2 c2 rs w) (hI : IsBook n0 w' X BL BG lv' gs') (hG : GoodB lv' gs') (hT : Touch (Own BL BG lv gs) w w') : Pl w0 n0 base X BL BG R G x lv' gs' A1 c1 is A2 c2 rs w' :=
  ⟨hI, hG, ref_Own h.book h.ref hT, hT.blk h.blk (notOwn h.book h.blk (by decide) (by decide)), h.bel.trans (hT.below h.bel.size (fun k hk => Nat.le_trans h.low.1 (h.book.own_low hk))), Nat.le_trans h.bw hT.size, h.low⟩
theorem Pl.stepR (h : Pl w0 n0 base X BL BG R G x lv gs A1 c1 is A2 c2 rs w) (hI : IsRef base w' R A1' c1' is' A2' c2' rs') (hT : Touch (RT2 w.heap.size R A1 A2) w w') : Pl w0 n0 base X BL BG R G x lv gs A1' c1' is' A2' c2' rs' w' :=
  ⟨book_RT2 h.book h.ref hT, h.good, hI, hT.blk h.blk (notRT2 h.ref h.blk (by decide) (by decide) (by decide)), h.bel.trans (hT.below h.bel.size (fun k hk => by
    have := h.low
    rcases hk with (e | e | e) | (e | e | e)
    · omega
    · have := h.ref.own1.lt k (by cases A1 with | none => simp at e | some a => simpa [Value.ownBlock] using e); omega
    · have := h.bel.size; omega
    · omega
    · have := h.ref.own2.lt k (by cases A2 with | none => simp at e | some a => simpa [Value.ownBlock] using e); omega
    · have := h.bel.size; omega)), Nat.le_trans h.bw hT.size, h.low⟩

theorem own_cap {base : Nat} {e : TypeId} {size n cap m : Nat} {A : Option Addr} {xs : List Value} (h : w.ownsRow base e size (.slice A n cap) m xs) : m ≤ cap ∧ cap ≤ maxLen := by
  rcases h.2 with ⟨h1, h2⟩ | ⟨g, cap', cur, h1, _, _, h3, h4, _⟩
  · injection h1 with _ _ h3
    exact ⟨by omega, by rw [h3]; unfold maxLen; omega⟩
  · injection h1 with _ _ h5
    exact ⟨by omega, by omega⟩
theorem alloc_stepF (h : IsBook n0 w X BL BG lv gs) (hG : GoodB lv gs) (hn : n0 ≤ w.heap.size) (hl : gs.length ≤ 3000000000000) (o : Int) (A : Option Addr) (cap : Nat) (ls : List Ln) (hR : Rd w A (ls.flatMap enL)) (hcap : ls.length ≤ cap) (hcm : cap ≤ maxLen) :
    Calls Try.prog 13 #[.pointer (some ⟨X, 0, none⟩), .int .i64 o, .slice A ls.length cap] w fun e w' => ∃ lv' gs', e = .returned (.int .i64 (allocZ lv gs o ls)) ∧ IsBook n0 w' X BL BG lv' gs' ∧ GoodB lv' gs' ∧ AllocR lv gs o ls lv' gs' ∧ gs'.length ≤ gs.length + 1 ∧ Touch (Own BL BG lv gs) w w' ∧ (∀ p ∈ gs', p ∈ gs ∨ w.heap.size ≤ p.2.b) := by
  by_cases hz : errF lv gs o ls = 0
  · refine (alloc_fit h hn o A cap ls hR hcap hcm hz (hG.bd hl)).mono ?_
    rintro e w' (⟨hs, h1, h2⟩ | ⟨hs, d, h1, h2, hd, hdg, hdb, h3⟩)
    · have hzz : allocZ lv gs o ls = 150 := by unfold allocZ; rw [if_pos hz, if_pos hs]
      have hRR : AllocR lv gs o ls lv gs := .inl ⟨by rw [hzz]; decide, rfl, rfl⟩
      rw [hzz]
      exact ⟨lv, gs, h1, h.next h2, hG, hRR, by omega, .of_below h2, fun p hp => .inl hp⟩
    · have hzz : allocZ lv gs o ls = 0 := by unfold allocZ; rw [if_pos hz, hs]; rfl
      have hRR : AllocR lv gs o ls (mvL allocL lv ls) (mset gs o d) := .inr ⟨hzz, hz, hs, rfl, d, hd, rfl⟩
      rw [hzz]
      refine ⟨_, _, h1, h2, hG.alloc hz hs hd, hRR, mset_len, h3.old fun k hk hS => ?_, fun p hp => ?_⟩
      · rcases hS with e | e | e | ⟨p, hp, e⟩
        · exact .inl e
        · exact .inr (.inl e)
        · exact .inr (.inr (.inl e))
        · rcases mem_mset hp with rfl | ⟨hp', _⟩
          · simp only at e; omega
          · exact .inr (.inr (.inr ⟨p, hp', e⟩))
      · rcases mem_mset hp with rfl | ⟨hp', _⟩
        · exact .inr hdb
        · exact .inl hp'
  · have hzz : allocZ lv gs o ls = errF lv gs o ls := if_neg hz
    have hRR : AllocR lv gs o ls lv gs := .inl ⟨by rw [hzz]; exact hz, rfl, rfl⟩
    rw [hzz]
    exact (alloc_no h o A cap ls hR hcap hcm hz).mono fun e w' ⟨h1, h2⟩ => ⟨lv, gs, h1, h.next h2, hG, hRR, by omega, .of_below h2, fun p hp => .inl hp⟩
/-- The same, beside the lines that were given. -/
structure PG (w0 : World) (n0 base X BL BG R G : Nat) (x : Opn) (b0 : Nat) (A9 : Option Addr) (c9 : Nat) (lv : List (Int × Lv)) (gs : List (Int × Gd)) (A1 : Option Addr) (c1 : Nat) (is : List (Int × Int)) (A2 : Option Addr) (c2 : Nat) (rs : List Gd) (w : World) : Prop where
  pl : Pl w0 n0 base X BL BG R G x lv gs A1 c1 is A2 c2 rs w
  row : w.ownsRow b0 33 2 (.slice A9 x.ls.length c9) x.ls.length (x.ls.flatMap enL)
  sep : ∀ p ∈ gs, ∀ g, A9.map (·.block) = some g → p.2.b ≠ g
theorem row_blk {A9 : Option Addr} {n c9 m b0 : Nat} {xs : List Value} {t : TypeId} {s : Nat} (h : w.ownsRow b0 t s (.slice A9 n c9) m xs) {k : Nat} (hk : (Value.slice A9 n c9).ownBlock = some k) : ∃ cs, Blk w k t cs :=
  rowBlk15 h (by cases A9 with | none => simp [Value.ownBlock] at hk | some a => simpa [Value.ownBlock] using hk)
theorem PG.next {b0 c9 : Nat} {A9 : Option Addr} (h : PG w0 n0 base X BL BG R G x b0 A9 c9 lv gs A1 c1 is A2 c2 rs w) (hb : Below w.heap.size w w') : PG w0 n0 base X BL BG R G x b0 A9 c9 lv gs A1 c1 is A2 c2 rs w' :=
  ⟨h.pl.next hb, h.row.kept (grown_of_below hb none) (by cases hv : (Value.slice A9 x.ls.length c9).ownBlock <;> simp), h.sep⟩
theorem PG.cells {b0 c9 : Nat} {A9 : Option Addr} (h : PG w0 n0 base X BL BG R G x b0 A9 c9 lv gs A1 c1 is A2 c2 rs w) : w.cell? ⟨G, 0, none⟩ = some (.int .i64 x.k) ∧ w.cell? ⟨G, 1, none⟩ = some (.int .i64 x.o) ∧ w.cell? ⟨G, 2, none⟩ = some (.int .i64 x.i) ∧ w.cell? ⟨G, 3, none⟩ = some (.int .i64 x.q) ∧ w.cell? ⟨G, 4, none⟩ = some (.slice x.A x.ls.length x.cap) := h.pl.cells
theorem PG.stepB {b0 c9 : Nat} {A9 : Option Addr} (h : PG w0 n0 base X BL BG R G x b0 A9 c9 lv gs A1 c1 is A2 c2 rs w) (hI : IsBook n0 w' X BL BG lv' gs') (hG : GoodB lv' gs') (hT : Touch (Own BL BG lv gs) w w') (hs : ∀ p ∈ gs', p ∈ gs ∨ w.heap.size ≤ p.2.b) : PG w0 n0 base X BL BG R G x b0 A9 c9 lv' gs' A1 c1 is A2 c2 rs w' :=
  ⟨h.pl.stepB hI hG hT, own_touch h.row hT (fun k hk => by obtain ⟨cs, hb⟩ := row_blk h.row hk; exact notOwn h.pl.book hb (by decide) (by decide)), fun p hp g hg => by
    rcases hs p hp with hp' | hp'
    · exact h.sep p hp' g hg
    · intro e
      obtain ⟨cs, hb⟩ := rowBlk15 h.row hg
      have := hb.lt
      omega⟩
theorem PG.stepR {b0 c9 : Nat} {A9 : Option Addr} (h : PG w0 n0 base X BL BG R G x b0 A9 c9 lv gs A1 c1 is A2 c2 rs w) (hI : IsRef base w' R A1' c1' is' A2' c2' rs') (hT : Touch (RT2 w.heap.size R A1 A2) w w') : PG w0 n0 base X BL BG R G x b0 A9 c9 lv gs A1' c1' is' A2' c2' rs' w' :=
  ⟨h.pl.stepR hI hT, own_touch h.row hT (fun k hk => by obtain ⟨cs, hb⟩ := row_blk h.row hk; exact notRT2 h.pl.ref hb (by decide) (by decide) (by decide)), h.sep⟩
theorem Pl.given (h : Pl w0 n0 base X BL BG R G x lv gs A1 c1 is A2 c2 rs w) {g : Nat} (hT : Touch (· = g) w w') {cs : Array Value} (hB : Blk w g 33 cs) (hs : ∀ p ∈ gs, p.2.b ≠ g) (hlo : w0.heap.size ≤ g) : Pl w0 n0 base X BL BG R G x lv gs A1 c1 is A2 c2 rs w' := by
  refine ⟨h.book.touch hT (h.book.blk.ne_ hB (by decide)) (fun k hk e => ?_) hs, h.good, ⟨hT.blk h.ref.blk (h.ref.blk.ne_ hB (by decide)), own_touch h.ref.own1 hT (fun k hk e => ?_), own_touch h.ref.own2 hT (fun k hk e => ?_), fun o ho => (h.ref.lns o ho).touch hT (fun e => ?_), h.ref.lt⟩, hT.blk h.blk (h.blk.ne_ hB (by decide)), h.bel.trans (hT.below h.bel.size (fun k hk => by omega)), Nat.le_trans h.bw hT.size, h.low⟩
  · subst e; exact notOwn h.book hB (by decide) (by decide) hk
  · subst e; obtain ⟨cs', hb⟩ := row_blk h.ref.own1 hk; exact hb.ne_ hB (by decide) rfl
  · subst e; obtain ⟨cs', hb⟩ := row_blk h.ref.own2 hk; exact hb.ne_ hB (by decide) rfl
  · obtain ⟨_, _, cs', hb⟩ := h.ref.lns o ho
    exact hb.ne_ hB (by decide) e

/-- What one operation leaves. -/
def PC (w0 : World) (n0 base X BL BG R G : Nat) (x : Opn) (B : Nat) (v u : Value) (wx : World) : Prop :=
  ∃ (z : Int) (lv : List (Int × Lv)) (gs : List (Int × Gd)) (A1 : Option Addr) (c1 : Nat) (is : List (Int × Int)) (A2 : Option Addr) (c2 : Nat) (rs : List Gd), v = .int .i64 z ∧ u = .int .i64 z ∧ gs.length ≤ B ∧ RelS lv gs is rs ∧ Pl w0 n0 base X BL BG R G x lv gs A1 c1 is A2 c2 rs wx
/-- What play leaves. -/
def PlayPost (w0 : World) (n0 base X BL BG R N : Nat) (e : Ending) (w' : World) : Prop :=
  e = .returned (.bool true) ∧ ∃ (lv : List (Int × Lv)) (gs : List (Int × Gd)) (A1 : Option Addr) (c1 : Nat) (is : List (Int × Int)) (A2 : Option Addr) (c2 : Nat) (rs : List Gd), IsBook n0 w' X BL BG lv gs ∧ GoodB lv gs ∧ IsRef base w' R A1 c1 is A2 c2 rs ∧ RelS lv gs is rs ∧ gs.length ≤ N ∧ Below w0.heap.size w0 w' ∧ base ≤ w'.heap.size

set_option maxRecDepth 100000 in
set_option maxHeartbeats 16000000 in
theorem play_any (w0 : World) (l : List Opn) (A : Option Addr) (cp : Nat) (hR0 : Rd w0 A (l.flatMap enOp)) (hok : ∀ x ∈ l, OkOp w0 x) (w : World) (h : IsBook n0 w X BL BG lv gs) (hG : GoodB lv gs) (hF : IsRef base w R A1 c1 is A2 c2 rs) (hM : RelS lv gs is rs) (hb : Below w0.heap.size w0 w) (hbw : base ≤ w.heap.size) (hlow : w0.heap.size ≤ n0 ∧ w0.heap.size ≤ R ∧ n0 ≤ base) (hl : gs.length + l.length ≤ 2999999999999) (hl2 : l.length ≤ 140737488355328) :
    Calls Try.prog 19 #[.pointer (some ⟨X, 0, none⟩), .pointer (some ⟨R, 0, none⟩), .slice A l.length cp] w (PlayPost w0 n0 base X BL BG R (gs.length + l.length)) := by
  obtain ⟨N, hN⟩ : ∃ N, N = gs.length := ⟨_, rfl⟩
  rw [← hN] at hl ⊢
  have HI := hid (And.intro hN (And.intro h (And.intro hG (And.intro hF (And.intro hM (And.intro hb hbw))))))
  have HOK := hid hok
  clear h hF hM hb hbw hN hG hok
  go_enter Try.func19, Try.ntmps19
  go_wp2_with fail
  go_loopw [17] (fun i wr => ∃ (k : Nat) (lv : List (Int × Lv)) (gs : List (Int × Gd)) (A1 : Option Addr) (c1 : Nat) (is : List (Int × Int)) (A2 : Option Addr) (c2 : Nat) (rs : List Gd), k ≤ l.length ∧ i = .int .i64 k ∧ gs.length ≤ N + k ∧ Hid (RelS lv gs is rs ∧ GoodB lv gs) ∧ IsBook n0 wr X BL BG lv gs ∧ IsRef base wr R A1 c1 is A2 c2 rs ∧ Below w0.heap.size w0 wr ∧ base ≤ wr.heap.size) (fun i _ => l.length - nOf i)
  case atStart =>
    obtain ⟨hN, h, hG, hF, hM, hb, hbw⟩ := HI.out
    exact ⟨0, _, _, _, _, _, _, _, _, Nat.zero_le _, rfl, by omega, hid ⟨hM, hG⟩, h, hF, hb, hbw⟩
  case round =>
    clear HI
    obtain ⟨k, lv, gs, A1, c1, is, A2, c2, rs, hk, rfl, hln, hM, h, hF, hb, hbw⟩ := hrel
    by_cases hlt : k < l.length
    · obtain ⟨x, hx⟩ : ∃ x, l[k]? = some x := ⟨l[k], List.getElem?_eq_getElem hlt⟩
      have HX := hid (HOK.out x (List.mem_of_getElem? hx))
      obtain ⟨b, off, hAA, hbs, hcc⟩ := (hR0.below hb).at_ 5 enOp_len (by omega) hx
      obtain ⟨xk, xo, xi, xq, xA, xcap, xls⟩ := x
      have q0 : wr.cell? ⟨b, off + k * 5, none⟩ = some (.int .i64 xk) := hcc 0 _ rfl
      have q1 : wr.cell? ⟨b, off + k * 5 + 1, none⟩ = some (.int .i64 xo) := hcc 1 _ rfl
      have q2 : wr.cell? ⟨b, off + k * 5 + 2, none⟩ = some (.int .i64 xi) := hcc 2 _ rfl
      have q3 : wr.cell? ⟨b, off + k * 5 + 3, none⟩ = some (.int .i64 xq) := hcc 3 _ rfl
      have q4 : wr.cell? ⟨b, off + k * 5 + 4, none⟩ = some (.slice xA xls.length xcap) := hcc 4 _ rfl
      have hwb : Below wr.heap.size wr (wr.alloc (.cells #[.int .i64 xk, .int .i64 xo, .int .i64 xi, .int .i64 xq, .slice xA xls.length xcap] 42)) := (Below.refl _ _).alloc (Nat.le_refl _) _
      have hPl : Pl w0 n0 base X BL BG R wr.heap.size ⟨xk, xo, xi, xq, xA, xcap, xls⟩ lv gs A1 c1 is A2 c2 rs (wr.alloc (.cells #[.int .i64 xk, .int .i64 xo, .int .i64 xi, .int .i64 xq, .slice xA xls.length xcap] 42)) :=
        ⟨h.next hwb, hM.out.2, hF.next hwb, Blk.new _ _ _, bthen hb hwb, Nat.le_trans hbw hwb.size, hlow⟩
      replace hPl := hid hPl
      clear h hF hb hbw hwb hcc hx hbs
      subst hAA
      have p00 : (wr.alloc (.cells #[.int .i64 xk, .int .i64 xo, .int .i64 xi, .int .i64 xq, .slice xA xls.length xcap] 42)).cell? ⟨wr.heap.size, 0, none⟩ = some (.int .i64 xk) := hPl.out.blk.cell 0
      go_upto_block 2 with fail
      clear p00
      obtain ⟨W0, hW0⟩ : ∃ W0, W0 = wr.alloc (.cells #[.int .i64 xk, .int .i64 xo, .int .i64 xi, .int .i64 xq, .slice xA xls.length xcap] 42) := ⟨_, rfl⟩
      obtain ⟨G, hGe⟩ : ∃ G, G = wr.heap.size := ⟨_, rfl⟩
      have hP := hPl.out
      rw [← hW0, ← hGe] at hP ⊢
      clear q0 q1 q2 q3 q4 hW0 hGe hPl
      have hgl : gs.length ≤ 2999999999999 := by omega
      go_cut [9, 10] (fun v u wx => PC w0 n0 base X BL BG R G ⟨xk, xo, xi, xq, xA, xcap, xls⟩ (N + k + 1) v u wx)
      case first =>
        clear hR0 hl
        obtain ⟨p0, p1, p2, p3, p4⟩ := hP.cells
        simp only at p0 p1 p2 p3 p4
        by_cases k1 : xk = 1
        · have e1 : (xk == 1) = true := by simpa using k1
          subst k1
          have K1 : Hid (∀ w, Pl w0 n0 base X BL BG R G ⟨1, xo, xi, xq, xA, xcap, xls⟩ lv gs A1 c1 is A2 c2 rs w → Calls Try.prog 11 #[.pointer (some ⟨X, 0, none⟩), .int .i64 xi] w fun e w' => e = .returned (.int .i64 (itemZ xi)) ∧ ∃ lv' gs', (ItemR lv gs xi) lv' gs' ∧ gs'.length ≤ gs.length + 1 ∧ Pl w0 n0 base X BL BG R G ⟨1, xo, xi, xq, xA, xcap, xls⟩ lv' gs' A1 c1 is A2 c2 rs w') := hid (fun w h => (item_step h.book h.good (Nat.le_trans h.low.2.2 h.bw) xi).mono fun e w' ⟨lv', gs', h1, h2, h3, h4, h5, h6⟩ => ⟨h1, lv', gs', h4, h5, h.stepB h2 h3 h6⟩)
          have K2 : Hid (∀ lv' gs' w, Pl w0 n0 base X BL BG R G ⟨1, xo, xi, xq, xA, xcap, xls⟩ lv' gs' A1 c1 is A2 c2 rs w → Calls Try.prog 39 #[.pointer (some ⟨R, 0, none⟩), .int .i64 xi] w fun e w' => e = .returned (.int .i64 (itemZ xi)) ∧ ∃ A1' c1' is' A2' c2' rs', (∀ lv' gs', (ItemR lv gs xi) lv' gs' → RelS lv' gs' is' rs') ∧ Pl w0 n0 base X BL BG R G ⟨1, xo, xi, xq, xA, xcap, xls⟩ lv' gs' A1' c1' is' A2' c2' rs' w') := hid (fun lv' gs' w h => (ritem_step h.ref hM.out.1 hM.out.2 h.bw xi).mono fun e w' ⟨A1', c1', is', A2', c2', rs', h1, h2, h3, h4⟩ => ⟨h1, A1', c1', is', A2', c2', rs', h3, h.stepR h2 h4⟩)
          generalize (itemZ xi) = z at K1 K2
          obtain ⟨XR, hXR⟩ : ∃ XR : MapRel, XR = (ItemR lv gs xi) := ⟨_, rfl⟩
          rw [← hXR] at K1 K2
          clear hXR hM p0 p1 p2 p3 p4
          go_wp2_with fail
          replace hP : Pl w0 n0 base X BL BG R G ⟨1, xo, xi, xq, xA, xcap, xls⟩ lv gs A1 c1 is A2 c2 rs W0.drew := hP.next (below_drewN (Below.refl _ _) 1)
          go_region_held3 (fun w' => w'.cell? ⟨G, 0, none⟩ = some (.int .i64 1) ∧ w'.cell? ⟨G, 1, none⟩ = some (.int .i64 xo) ∧ w'.cell? ⟨G, 2, none⟩ = some (.int .i64 xi) ∧ w'.cell? ⟨G, 3, none⟩ = some (.int .i64 xq) ∧ w'.cell? ⟨G, 4, none⟩ = some (.slice xA xls.length xcap)) (exact Pl.cells (by assumption))
            (first
              | (go_at_call 11; refine (K1.out _ hP).mono ?_; rintro e w7 ⟨rfl, lv7, gs7, hX7, hl7, hP7⟩; clear hP)
              | (go_at_call 39; refine (K2.out _ _ _ hP7).mono ?_; rintro e w8 ⟨rfl, A18, c18, is8, A28, c28, rs8, hM8, hP8⟩; clear hP7))
          all_goals
            have HE := hid (And.intro (hM8 _ _ hX7) (And.intro hP8 hl7))
            clear K1 K2 hM8 hX7 hP8 hl7
            go_wp2_with fail
            go_meet
            exact ⟨z, lv7, gs7, _, _, _, _, _, _, rfl, rfl, by have := HE.out.2.2; omega, HE.out.1, HE.out.2.1⟩
        · have e1 : (xk == 1) = false := by simpa using k1
          clear k1
          by_cases k2 : xk = 2
          · have e2 : (xk == 2) = true := by simpa using k2
            subst k2
            have K1 : Hid (∀ w, Pl w0 n0 base X BL BG R G ⟨2, xo, xi, xq, xA, xcap, xls⟩ lv gs A1 c1 is A2 c2 rs w → Calls Try.prog 12 #[.pointer (some ⟨X, 0, none⟩), .int .i64 xi, .int .i64 xq] w fun e w' => e = .returned (.int .i64 (recvZ lv xi xq)) ∧ ∃ lv' gs', (RecvR lv gs xi xq) lv' gs' ∧ gs'.length ≤ gs.length + 1 ∧ Pl w0 n0 base X BL BG R G ⟨2, xo, xi, xq, xA, xcap, xls⟩ lv' gs' A1 c1 is A2 c2 rs w') := hid (fun w h => (recv_step h.book h.good (by omega) xi xq).mono fun e w' ⟨lv', gs', h1, h2, h3, h4, h5, h6⟩ => ⟨h1, lv', gs', h4, h5, h.stepB h2 h3 h6⟩)
            have K2 : Hid (∀ lv' gs' w, Pl w0 n0 base X BL BG R G ⟨2, xo, xi, xq, xA, xcap, xls⟩ lv' gs' A1 c1 is A2 c2 rs w → Calls Try.prog 40 #[.pointer (some ⟨R, 0, none⟩), .int .i64 xi, .int .i64 xq] w fun e w' => e = .returned (.int .i64 (recvZ lv xi xq)) ∧ ∃ A1' c1' is' A2' c2' rs', (∀ lv' gs', (RecvR lv gs xi xq) lv' gs' → RelS lv' gs' is' rs') ∧ Pl w0 n0 base X BL BG R G ⟨2, xo, xi, xq, xA, xcap, xls⟩ lv' gs' A1' c1' is' A2' c2' rs' w') := hid (fun lv' gs' w h => (rrecv_step h.ref hM.out.1 hM.out.2 xi xq).mono fun e w' ⟨A1', c1', is', A2', c2', rs', h1, h2, h3, h4⟩ => ⟨h1, A1', c1', is', A2', c2', rs', h3, h.stepR h2 h4⟩)
            generalize (recvZ lv xi xq) = z at K1 K2
            obtain ⟨XR, hXR⟩ : ∃ XR : MapRel, XR = (RecvR lv gs xi xq) := ⟨_, rfl⟩
            rw [← hXR] at K1 K2
            clear hXR hM p0 p1 p2 p3 p4
            go_wp2_with fail
            replace hP : Pl w0 n0 base X BL BG R G ⟨2, xo, xi, xq, xA, xcap, xls⟩ lv gs A1 c1 is A2 c2 rs W0.drew := hP.next (below_drewN (Below.refl _ _) 1)
            go_region_held3 (fun w' => w'.cell? ⟨G, 0, none⟩ = some (.int .i64 2) ∧ w'.cell? ⟨G, 1, none⟩ = some (.int .i64 xo) ∧ w'.cell? ⟨G, 2, none⟩ = some (.int .i64 xi) ∧ w'.cell? ⟨G, 3, none⟩ = some (.int .i64 xq) ∧ w'.cell? ⟨G, 4, none⟩ = some (.slice xA xls.length xcap)) (exact Pl.cells (by assumption))
              (first
                | (go_at_call 12; refine (K1.out _ hP).mono ?_; rintro e w7 ⟨rfl, lv7, gs7, hX7, hl7, hP7⟩; clear hP)
                | (go_at_call 40; refine (K2.out _ _ _ hP7).mono ?_; rintro e w8 ⟨rfl, A18, c18, is8, A28, c28, rs8, hM8, hP8⟩; clear hP7))
            all_goals
              have HE := hid (And.intro (hM8 _ _ hX7) (And.intro hP8 hl7))
              clear K1 K2 hM8 hX7 hP8 hl7
              go_wp2_with fail
              go_meet
              exact ⟨z, lv7, gs7, _, _, _, _, _, _, rfl, rfl, by have := HE.out.2.2; omega, HE.out.1, HE.out.2.1⟩
          · have e2 : (xk == 2) = false := by simpa using k2
            clear k2
            by_cases k3 : xk = 3
            · have e3 : (xk == 3) = true := by simpa using k3
              subst k3
              have hox := HX.out.ls.next hP.bel
              have hxl : xls.length * 16 ≤ 140737488351232 := hox.len
              obtain ⟨i0, hi, hz0, hz1, hz2⟩ := info_parts info_ln
              have hxm : xls.length ≤ maxLen := by unfold maxLen; omega
              have HP := hid (And.intro hP hox)
              clear hP hox
              go_wp2_with (first
                | (at_builtin; refine wpList_append_any _ rfl _ _ 31 rfl 33 i0 _ 2 16 Try.underlying31 hi hz0 hz1 hz2 rfl (by decide) (by rfl) xA xls.length xcap (xls.flatMap enL) (by rfl) (length_flatMap_const enL 2 enL_len xls) HP.out.2.rd (enLs_one xls) hxm (by omega) ?_; intro v' w3 hO3 hb3))
              obtain ⟨A9, c9, rfl, _⟩ := own_slice hO3
              obtain ⟨hP, hox⟩ := HP.out
              have hcp := own_cap hO3
              have hS : PG w0 n0 base X BL BG R G ⟨3, xo, xi, xq, xA, xcap, xls⟩ W0.heap.size A9 c9 lv gs A1 c1 is A2 c2 rs w3 := ⟨hP.next hb3, hO3, fun p hp g hg e => by
                obtain ⟨_, _, cs, hbb⟩ := hP.book.lns p hp
                have h1 := hbb.lt
                have h2 := (hO3.lt g (by cases A9 with | none => simp at hg | some a => simpa [Value.ownBlock] using hg)).1
                omega⟩
              obtain ⟨b0, hb0⟩ : ∃ b0, b0 = W0.heap.size := ⟨_, rfl⟩
              have hb0w : w0.heap.size ≤ b0 := by rw [hb0]; exact hP.bel.size
              rw [← hb0] at hS
              have K1 : Hid (∀ w, PG w0 n0 base X BL BG R G ⟨3, xo, xi, xq, xA, xcap, xls⟩ b0 A9 c9 lv gs A1 c1 is A2 c2 rs w → Calls Try.prog 13 #[.pointer (some ⟨X, 0, none⟩), .int .i64 xo, .slice A9 xls.length c9] w fun e w' => e = .returned (.int .i64 (allocZ lv gs xo xls)) ∧ ∃ lv' gs', (AllocR lv gs xo xls) lv' gs' ∧ gs'.length ≤ gs.length + 1 ∧ PG w0 n0 base X BL BG R G ⟨3, xo, xi, xq, xA, xcap, xls⟩ b0 A9 c9 lv' gs' A1 c1 is A2 c2 rs w') := hid (fun w h => (alloc_stepF h.pl.book h.pl.good (Nat.le_trans h.pl.low.2.2 h.pl.bw) (by omega) xo A9 c9 xls (own_rd h.row) hcp.1 hcp.2).mono fun e w' ⟨lv', gs', h1, h2, h3, h4, h5, h6, h7⟩ => ⟨h1, lv', gs', h4, h5, h.stepB h2 h3 h6 h7⟩)
              have K2 : Hid (∀ lv' gs' w, PG w0 n0 base X BL BG R G ⟨3, xo, xi, xq, xA, xcap, xls⟩ b0 A9 c9 lv' gs' A1 c1 is A2 c2 rs w → Calls Try.prog 23 #[.slice xA xls.length xcap] w fun e w' => ∃ A' cap', e = .returned (.slice A' xls.length cap') ∧ Rd w' A' (xls.flatMap enL) ∧ PG w0 n0 base X BL BG R G ⟨3, xo, xi, xq, xA, xcap, xls⟩ b0 A9 c9 lv' gs' A1 c1 is A2 c2 rs w') := hid (fun lv' gs' w h => (lines_any xls xA xcap w ((HX.out.ls.next h.pl.bel).rd) hxl).mono fun e w' ⟨A', cap', h1, h2, h3⟩ => ⟨A', cap', h1, own_rd h2, h.next h3⟩)
              have K3 : Hid (∀ lv' gs' A' cap' w, PG w0 n0 base X BL BG R G ⟨3, xo, xi, xq, xA, xcap, xls⟩ b0 A9 c9 lv' gs' A1 c1 is A2 c2 rs w → Rd w A' (xls.flatMap enL) → Calls Try.prog 41 #[.pointer (some ⟨R, 0, none⟩), .int .i64 xo, .slice A' xls.length cap'] w fun e w' => e = .returned (.int .i64 (allocZ lv gs xo xls)) ∧ ∃ A1' c1' is' A2' c2' rs', (∀ lv' gs', (AllocR lv gs xo xls) lv' gs' → RelS lv' gs' is' rs') ∧ PG w0 n0 base X BL BG R G ⟨3, xo, xi, xq, xA, xcap, xls⟩ b0 A9 c9 lv' gs' A1' c1' is' A2' c2' rs' w') := hid (fun lv' gs' A' cap' w h hR => (ralloc_step h.pl.ref hM.out.1 hM.out.2 (by have := hM.out.1.lenG; omega) h.pl.bw xo A' cap' xls hR (by omega)).mono fun e w' ⟨A1', c1', is', A2', c2', rs', h1, h2, h3, h4⟩ => ⟨h1, A1', c1', is', A2', c2', rs', h3, h.stepR h2 h4⟩)
              generalize allocZ lv gs xo xls = z at K1 K3
              obtain ⟨XR, hXR⟩ : ∃ XR : MapRel, XR = (AllocR lv gs xo xls) := ⟨_, rfl⟩
              rw [← hXR] at K1 K3
              clear hXR hM p0 p1 p2 p3 p4 hO3 hb3 hP hox HP hb0 hcp hi hz0 hz1 hz2 hxm
              have p0 := hS.cells.1
              have p1 := hS.cells.2.1
              have p4 := hS.cells.2.2.2.2
              simp only at p0 p1 p4
              replace hS : PG w0 n0 base X BL BG R G ⟨3, xo, xi, xq, xA, xcap, xls⟩ b0 A9 c9 lv gs A1 c1 is A2 c2 rs w3.drew := hS.next (below_drewN (Below.refl _ _) 1)
              go_region_held3 (fun w' => w'.cell? ⟨G, 0, none⟩ = some (.int .i64 3) ∧ w'.cell? ⟨G, 1, none⟩ = some (.int .i64 xo) ∧ w'.cell? ⟨G, 2, none⟩ = some (.int .i64 xi) ∧ w'.cell? ⟨G, 3, none⟩ = some (.int .i64 xq) ∧ w'.cell? ⟨G, 4, none⟩ = some (.slice xA xls.length xcap)) (exact PG.cells (by assumption))
                (first
                  | (go_at_call 13; refine (K1.out _ hS).mono ?_; rintro e w7 ⟨rfl, lv7, gs7, hX7, hl7, hP7⟩; clear hS)
                  | (go_at_call 23; refine (K2.out _ _ _ hP7).mono ?_; rintro e w8 ⟨A8, cp8, rfl, hR8, hP8⟩; clear hP7)
                  | (go_at_call 41; refine (K3.out _ _ _ _ _ hP8 hR8).mono ?_; rintro e w9 ⟨rfl, A19, c19, is9, A29, c29, rs9, hM9, hP9⟩; clear hP8 hR8))
              all_goals
                have HE := hid (And.intro (hM9 _ _ hX7) hl7)
                have hlS := hP9.sep
                have hP := hP9.pl
                have hO : ∃ ls' : List Ln, ls'.length = xls.length ∧ w9.ownsRow b0 33 2 (.slice A9 xls.length c9) xls.length (ls'.flatMap enL) := ⟨xls, rfl, hP9.row⟩
                have HLS := hid hlS
                clear K1 K2 K3 hM9 hX7 hl7 hP9 hlS p0 p1 p4
                go_wp2_with fail
                go_loopw [66] (fun i wr => ∃ (j : Nat) (ls' : List Ln), j ≤ xls.length ∧ i = .int .i64 j ∧ ls'.length = xls.length ∧ wr.ownsRow b0 33 2 (.slice A9 xls.length c9) xls.length (ls'.flatMap enL) ∧ Pl w0 n0 base X BL BG R G ⟨3, xo, xi, xq, xA, xcap, xls⟩ lv7 gs7 A19 c19 is9 A29 c29 rs9 wr) (fun i _ => xls.length - nOf i)
                case atStart =>
                  obtain ⟨ls', h1, h2⟩ := hO
                  exact ⟨0, ls', Nat.zero_le _, rfl, h1, h2, hP⟩
                case round =>
                  clear hO hP
                  obtain ⟨j, ls', hj, rfl, hll, hO, hP⟩ := hrel
                  have HLL := hid hll
                  by_cases hjl : j < xls.length
                  · obtain ⟨y, hy⟩ : ∃ y, ls'[j]? = some y := ⟨ls'[j], List.getElem?_eq_getElem (by omega)⟩
                    rw [← hll] at hO
                    obtain ⟨g, cq, e7, hg1, hg2⟩ := own_form hO (by omega)
                    injection e7 with e8 e9 e10
                    subst e8 e10
                    have hy1 := own_cells enL_len hO hy (j := 1) rfl
                    have hfr := own_free hO (j * 2 + 1)
                    obtain ⟨h1, h2⟩ := own_field enL_len hO hy (j := 1) (by omega) (.int .i64 (-1)) (⟨y.i, -1⟩ : Ln) rfl
                    obtain ⟨cs, hBk⟩ := rowBlk15 hO (b := g) rfl
                    have hPn := hP.given (Touch.of_grown h2) hBk (fun p hp => HLS.out p hp g rfl) (by omega)
                    have HF := hid (And.intro h1 hPn)
                    have hl2 : (ls'.set j (⟨y.i, -1⟩ : Ln)).length = xls.length := by rw [List.length_set]; exact hll
                    have HL2 := hid hl2
                    have q1 : wr.cell? ⟨g, j * 2 + 1, none⟩ = some (.int .i64 y.q) := hy1
                    clear hy hy1 h1 h2 hBk hPn hl2 hO hP hll
                    go_wp2_with fail
                    go_roundw
                    case rel => exact ⟨j + 1, ls'.set j (⟨y.i, -1⟩ : Ln), by omega, by go_num, HL2.out, by have := HF.out.1; rw [HL2.out] at this; exact this, HF.out.2⟩
                    case measure => simp [nOf]; omega
                  · have HF := hid hP
                    have hjj : j = xls.length := by omega
                    subst hjj
                    clear hO hP hll hj hjl
                    go_wp2_with fail
                    go_meet
                    exact ⟨z, lv7, gs7, _, _, _, _, _, _, rfl, rfl, by have := HE.out.2; omega, HE.out.1, HF.out⟩
            · have e3 : (xk == 3) = false := by simpa using k3
              clear k3
              by_cases k4 : xk = 4
              · have e4 : (xk == 4) = true := by simpa using k4
                subst k4
                have K1 : Hid (∀ w, Pl w0 n0 base X BL BG R G ⟨4, xo, xi, xq, xA, xcap, xls⟩ lv gs A1 c1 is A2 c2 rs w → Calls Try.prog 16 #[.pointer (some ⟨X, 0, none⟩), .int .i64 xo] w fun e w' => e = .returned (.int .i64 (freeZ gs xo)) ∧ ∃ lv' gs', (FreeR lv gs xo) lv' gs' ∧ gs'.length ≤ gs.length + 1 ∧ Pl w0 n0 base X BL BG R G ⟨4, xo, xi, xq, xA, xcap, xls⟩ lv' gs' A1 c1 is A2 c2 rs w') := hid (fun w h => (free_step h.book h.good (by omega) xo).mono fun e w' ⟨lv', gs', h1, h2, h3, h4, h5, h6⟩ => ⟨h1, lv', gs', h4, h5, h.stepB h2 h3 h6⟩)
                have K2 : Hid (∀ lv' gs' w, Pl w0 n0 base X BL BG R G ⟨4, xo, xi, xq, xA, xcap, xls⟩ lv' gs' A1 c1 is A2 c2 rs w → Calls Try.prog 42 #[.pointer (some ⟨R, 0, none⟩), .int .i64 xo] w fun e w' => e = .returned (.int .i64 (freeZ gs xo)) ∧ ∃ A1' c1' is' A2' c2' rs', (∀ lv' gs', (FreeR lv gs xo) lv' gs' → RelS lv' gs' is' rs') ∧ Pl w0 n0 base X BL BG R G ⟨4, xo, xi, xq, xA, xcap, xls⟩ lv' gs' A1' c1' is' A2' c2' rs' w') := hid (fun lv' gs' w h => (rfree_step h.ref hM.out.1 hM.out.2 (by have := hM.out.1.lenG; omega) h.bw xo).mono fun e w' ⟨A1', c1', is', A2', c2', rs', h1, h2, h3, h4⟩ => ⟨h1, A1', c1', is', A2', c2', rs', h3, h.stepR h2 h4⟩)
                generalize (freeZ gs xo) = z at K1 K2
                obtain ⟨XR, hXR⟩ : ∃ XR : MapRel, XR = (FreeR lv gs xo) := ⟨_, rfl⟩
                rw [← hXR] at K1 K2
                clear hXR hM p0 p1 p2 p3 p4
                go_wp2_with fail
                replace hP : Pl w0 n0 base X BL BG R G ⟨4, xo, xi, xq, xA, xcap, xls⟩ lv gs A1 c1 is A2 c2 rs W0.drew := hP.next (below_drewN (Below.refl _ _) 1)
                go_region_held3 (fun w' => w'.cell? ⟨G, 0, none⟩ = some (.int .i64 4) ∧ w'.cell? ⟨G, 1, none⟩ = some (.int .i64 xo) ∧ w'.cell? ⟨G, 2, none⟩ = some (.int .i64 xi) ∧ w'.cell? ⟨G, 3, none⟩ = some (.int .i64 xq) ∧ w'.cell? ⟨G, 4, none⟩ = some (.slice xA xls.length xcap)) (exact Pl.cells (by assumption))
                  (first
                    | (go_at_call 16; refine (K1.out _ hP).mono ?_; rintro e w7 ⟨rfl, lv7, gs7, hX7, hl7, hP7⟩; clear hP)
                    | (go_at_call 42; refine (K2.out _ _ _ hP7).mono ?_; rintro e w8 ⟨rfl, A18, c18, is8, A28, c28, rs8, hM8, hP8⟩; clear hP7))
                all_goals
                  have HE := hid (And.intro (hM8 _ _ hX7) (And.intro hP8 hl7))
                  clear K1 K2 hM8 hX7 hP8 hl7
                  go_wp2_with fail
                  go_meet
                  exact ⟨z, lv7, gs7, _, _, _, _, _, _, rfl, rfl, by have := HE.out.2.2; omega, HE.out.1, HE.out.2.1⟩
              · have e4 : (xk == 4) = false := by simpa using k4
                clear k4
                by_cases k5 : xk = 5
                · have e5 : (xk == 5) = true := by simpa using k5
                  subst k5
                  have K1 : Hid (∀ w, Pl w0 n0 base X BL BG R G ⟨5, xo, xi, xq, xA, xcap, xls⟩ lv gs A1 c1 is A2 c2 rs w → Calls Try.prog 17 #[.pointer (some ⟨X, 0, none⟩), .int .i64 xo] w fun e w' => e = .returned (.int .i64 (goZ gs xo 1)) ∧ ∃ lv' gs', (ShipR lv gs xo) lv' gs' ∧ gs'.length ≤ gs.length + 1 ∧ Pl w0 n0 base X BL BG R G ⟨5, xo, xi, xq, xA, xcap, xls⟩ lv' gs' A1 c1 is A2 c2 rs w') := hid (fun w h => (ship_step h.book h.good (by omega) xo).mono fun e w' ⟨lv', gs', h1, h2, h3, h4, h5, h6⟩ => ⟨h1, lv', gs', h4, h5, h.stepB h2 h3 h6⟩)
                  have K2 : Hid (∀ lv' gs' w, Pl w0 n0 base X BL BG R G ⟨5, xo, xi, xq, xA, xcap, xls⟩ lv' gs' A1 c1 is A2 c2 rs w → Calls Try.prog 43 #[.pointer (some ⟨R, 0, none⟩), .int .i64 xo, .int .i64 1] w fun e w' => e = .returned (.int .i64 (goZ gs xo 1)) ∧ ∃ A1' c1' is' A2' c2' rs', (∀ lv' gs', (ShipR lv gs xo) lv' gs' → RelS lv' gs' is' rs') ∧ Pl w0 n0 base X BL BG R G ⟨5, xo, xi, xq, xA, xcap, xls⟩ lv' gs' A1' c1' is' A2' c2' rs' w') := hid (fun lv' gs' w h => (rship_step h.ref hM.out.1 hM.out.2 (by have := hM.out.1.lenG; omega) xo).mono fun e w' ⟨A1', c1', is', A2', c2', rs', h1, h2, h3, h4⟩ => ⟨h1, A1', c1', is', A2', c2', rs', h3, h.stepR h2 h4⟩)
                  generalize (goZ gs xo 1) = z at K1 K2
                  obtain ⟨XR, hXR⟩ : ∃ XR : MapRel, XR = (ShipR lv gs xo) := ⟨_, rfl⟩
                  rw [← hXR] at K1 K2
                  clear hXR hM p0 p1 p2 p3 p4
                  go_wp2_with fail
                  replace hP : Pl w0 n0 base X BL BG R G ⟨5, xo, xi, xq, xA, xcap, xls⟩ lv gs A1 c1 is A2 c2 rs W0.drew := hP.next (below_drewN (Below.refl _ _) 1)
                  go_region_held3 (fun w' => w'.cell? ⟨G, 0, none⟩ = some (.int .i64 5) ∧ w'.cell? ⟨G, 1, none⟩ = some (.int .i64 xo) ∧ w'.cell? ⟨G, 2, none⟩ = some (.int .i64 xi) ∧ w'.cell? ⟨G, 3, none⟩ = some (.int .i64 xq) ∧ w'.cell? ⟨G, 4, none⟩ = some (.slice xA xls.length xcap)) (exact Pl.cells (by assumption))
                    (first
                      | (go_at_call 17; refine (K1.out _ hP).mono ?_; rintro e w7 ⟨rfl, lv7, gs7, hX7, hl7, hP7⟩; clear hP)
                      | (go_at_call 43; refine (K2.out _ _ _ hP7).mono ?_; rintro e w8 ⟨rfl, A18, c18, is8, A28, c28, rs8, hM8, hP8⟩; clear hP7))
                  all_goals
                    have HE := hid (And.intro (hM8 _ _ hX7) (And.intro hP8 hl7))
                    clear K1 K2 hM8 hX7 hP8 hl7
                    go_wp2_with fail
                    go_meet
                    exact ⟨z, lv7, gs7, _, _, _, _, _, _, rfl, rfl, by have := HE.out.2.2; omega, HE.out.1, HE.out.2.1⟩
                · have e5 : (xk == 5) = false := by simpa using k5
                  clear k5
                  by_cases k6 : xk = 6
                  · have e6 : (xk == 6) = true := by simpa using k6
                    subst k6
                    have K1 : Hid (∀ w, Pl w0 n0 base X BL BG R G ⟨6, xo, xi, xq, xA, xcap, xls⟩ lv gs A1 c1 is A2 c2 rs w → Calls Try.prog 18 #[.pointer (some ⟨X, 0, none⟩), .int .i64 xo] w fun e w' => e = .returned (.int .i64 (goZ gs xo 2)) ∧ ∃ lv' gs', (RestockR lv gs xo) lv' gs' ∧ gs'.length ≤ gs.length + 1 ∧ Pl w0 n0 base X BL BG R G ⟨6, xo, xi, xq, xA, xcap, xls⟩ lv' gs' A1 c1 is A2 c2 rs w') := hid (fun w h => (restock_step h.book h.good (by omega) xo).mono fun e w' ⟨lv', gs', h1, h2, h3, h4, h5, h6⟩ => ⟨h1, lv', gs', h4, h5, h.stepB h2 h3 h6⟩)
                    have K2 : Hid (∀ lv' gs' w, Pl w0 n0 base X BL BG R G ⟨6, xo, xi, xq, xA, xcap, xls⟩ lv' gs' A1 c1 is A2 c2 rs w → Calls Try.prog 43 #[.pointer (some ⟨R, 0, none⟩), .int .i64 xo, .int .i64 2] w fun e w' => e = .returned (.int .i64 (goZ gs xo 2)) ∧ ∃ A1' c1' is' A2' c2' rs', (∀ lv' gs', (RestockR lv gs xo) lv' gs' → RelS lv' gs' is' rs') ∧ Pl w0 n0 base X BL BG R G ⟨6, xo, xi, xq, xA, xcap, xls⟩ lv' gs' A1' c1' is' A2' c2' rs' w') := hid (fun lv' gs' w h => (rrestock_step h.ref hM.out.1 hM.out.2 (by have := hM.out.1.lenG; omega) xo).mono fun e w' ⟨A1', c1', is', A2', c2', rs', h1, h2, h3, h4⟩ => ⟨h1, A1', c1', is', A2', c2', rs', h3, h.stepR h2 h4⟩)
                    generalize (goZ gs xo 2) = z at K1 K2
                    obtain ⟨XR, hXR⟩ : ∃ XR : MapRel, XR = (RestockR lv gs xo) := ⟨_, rfl⟩
                    rw [← hXR] at K1 K2
                    clear hXR hM p0 p1 p2 p3 p4
                    go_wp2_with fail
                    replace hP : Pl w0 n0 base X BL BG R G ⟨6, xo, xi, xq, xA, xcap, xls⟩ lv gs A1 c1 is A2 c2 rs W0.drew := hP.next (below_drewN (Below.refl _ _) 1)
                    go_region_held3 (fun w' => w'.cell? ⟨G, 0, none⟩ = some (.int .i64 6) ∧ w'.cell? ⟨G, 1, none⟩ = some (.int .i64 xo) ∧ w'.cell? ⟨G, 2, none⟩ = some (.int .i64 xi) ∧ w'.cell? ⟨G, 3, none⟩ = some (.int .i64 xq) ∧ w'.cell? ⟨G, 4, none⟩ = some (.slice xA xls.length xcap)) (exact Pl.cells (by assumption))
                      (first
                        | (go_at_call 18; refine (K1.out _ hP).mono ?_; rintro e w7 ⟨rfl, lv7, gs7, hX7, hl7, hP7⟩; clear hP)
                        | (go_at_call 43; refine (K2.out _ _ _ hP7).mono ?_; rintro e w8 ⟨rfl, A18, c18, is8, A28, c28, rs8, hM8, hP8⟩; clear hP7))
                    all_goals
                      have HE := hid (And.intro (hM8 _ _ hX7) (And.intro hP8 hl7))
                      clear K1 K2 hM8 hX7 hP8 hl7
                      go_wp2_with fail
                      go_meet
                      exact ⟨z, lv7, gs7, _, _, _, _, _, _, rfl, rfl, by have := HE.out.2.2; omega, HE.out.1, HE.out.2.1⟩
                  · have e6 : (xk == 6) = false := by simpa using k6
                    clear k6
                    have HE := hid (And.intro hM.out.1 hP)
                    clear hM hP p0 p1 p2 p3 p4
                    go_wp2_with fail
                    go_meet
                    exact ⟨0, _, _, _, _, _, _, _, _, rfl, rfl, by omega, HE.out.1, HE.out.2⟩
      case rest =>
        clear hP hM hln hgl
        obtain ⟨z, lv, gs, A1, c1, is, A2, c2, rs, rfl, rfl, hln, hM, hP⟩ := hcut
        have t0 : (z != z) = false := by simp
        obtain ⟨_, p1, _⟩ := hP.cells
        have GS := hid (goods_step hP.book hP.good xo)
        have HP := hid (And.intro hM hP)
        clear hM hP
        go_wp2_with fail
        refine GS.out.mono ?_
        rintro e w5 ⟨oo, A9, n9, c9, rfl, hb5⟩
        have hwb : Below w5.heap.size w5 (w5.alloc (.cells #[.int .i64 oo, .int .i64 (stG gs xo), .slice A9 n9 c9] 45)) := (Below.refl _ _).alloc (Nat.le_refl _) _
        have hP6 := HP.out.2.next (bthen hb5 hwb)
        obtain ⟨w6, hw6⟩ : ∃ w6, w6 = w5.alloc (.cells #[.int .i64 oo, .int .i64 (stG gs xo), .slice A9 n9 c9] 45) := ⟨_, rfl⟩
        have HW6 := hid hw6
        rw [← hw6] at hP6
        have ST := hid (state_any hP6.book hP6.good hP6.ref HP.out.1 (by omega))
        have HP6 := hid (And.intro HP.out.1 hP6)
        clear GS HP hP6 hw6 hb5 hwb p1
        go_upto_region 26 with fail
        rw [← HW6.out]
        go_wp2_with fail
        refine ST.out.mono ?_
        rintro e w7 ⟨rfl, hb7⟩
        have hP7 := HP6.out.2.next hb7
        obtain ⟨_, p1, _⟩ := hP7.cells
        have F := rgoodsOf_any hP7.ref xo (by have := HP6.out.1.lenG; omega)
        have hF : decide (0 ≤ plc (isD xo) rs) = hasG gs xo := by
          rcases HP6.out.1.goods hP7.good xo with ⟨j, d', d, _, _, hm, _, _, _, he⟩ | ⟨hm, _, he⟩
          · rw [he]; unfold hasG; rw [hm]; simp
          · rw [he]; unfold hasG; rw [hm]; rfl
        generalize plc (isD xo) rs = pz at F hF
        generalize hasG gs xo = hb at hF ⊢
        subst hF
        have t9 : (decide (0 ≤ pz) != decide (0 ≤ pz)) = false := by simp
        have HP7 := hid (And.intro HP6.out.1 hP7)
        replace F := hid F
        clear ST HP6 hb7 hP7 HW6
        go_wp2_with fail
        refine F.out.mono ?_
        rintro e w8 ⟨rfl, rfl⟩
        clear p1
        go_wp2_with fail
        go_roundw
        case rel => exact ⟨k + 1, lv, gs, A1, c1, is, A2, c2, rs, by omega, by go_num, by omega, hid ⟨HP7.out.1, HP7.out.2.good⟩, HP7.out.2.book, HP7.out.2.ref, HP7.out.2.bel, HP7.out.2.bw⟩
        case measure => simp [nOf]; omega
    · have HK := hid hk
      have hk' : k = l.length := by omega
      subst hk'
      have HH := hid (And.intro h (And.intro hF (And.intro hb hbw)))
      clear h hF hb hbw hk hlt
      go_wp2_with fail
      go_ret
      obtain ⟨a1, a2, a3, a4⟩ := HH.out
      exact ⟨rfl, lv, gs, A1, c1, is, A2, c2, rs, a1, hM.out.2, a2, hM.out.1, by omega, a3, a4⟩
end

end Go.Proofs.Ythfaaimmfdidnaa
