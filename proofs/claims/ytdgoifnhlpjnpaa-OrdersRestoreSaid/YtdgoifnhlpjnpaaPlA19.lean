/-
  Layer 19: the book, the document's, an operation's block; what the calls leave of them.
-/
import Derived.Test.YtdgoifnhlpjnpaaState19
import Derived.Test.YtdgoifnhlpjnpaaSetI19
import Derived.Test.YtdgoifnhlpjnpaaRa19
import Derived.Test.YtdgoifnhlpjnpaaRb19
namespace Go.Proofs.Ytdgoifnhlpjnpaa
open Go.RowKit Go.WideShapes Go.ChangeShapes Go.ChangeAt Go.Deep
set_option linter.unusedVariables false

/-- The book, the document's, an operation's block. -/
structure PlR (w0 : World) (n0 base X BP BO R G : Nat) (x : Opn) (pr : List (Int × Int)) (os : List (Int × Od)) (A1 : Option Addr) (c1 : Nat) (is : List (Int × Int)) (A2 : Option Addr) (c2 : Nat) (rs : List Od) (w : World) : Prop where
  st : St w0 n0 X BP BO pr os w
  ref : IsRef base w R A1 c1 is A2 c2 rs
  blk : Blk w G 28 (enOp x).toArray
  bw : base ≤ w.heap.size
  low : w0.heap.size ≤ R

section
variable {w0 w w' : World} {n0 base X BP BO R G c1 c2 c1' c2' : Nat} {A1 A2 A1' A2' : Option Addr} {x : Opn} {pr pr' is is' : List (Int × Int)} {os os' : List (Int × Od)} {rs rs' : List Od}
theorem notOwn {k : Nat} {t : TypeId} {cs : Array Value} (h : IsBook n0 w X BP BO pr os) (hk : Blk w k t cs) : ¬ Own BP BO k := by
  rintro (rfl | rfl)
  · exact h.prs.notBlk hk rfl
  · exact h.ods.notBlk hk rfl
theorem map_notRT {κ ν : Type} {kE : κ → Value} {vE : ν → Value} {mm : List (κ × ν)} {k : Nat} {tr : TypeId} {s m n cap : Nat} {A : Option Addr} {xs : List Value} {t2 : TypeId} {cs2 : Array Value} (hR : Blk w R t2 cs2) (hA : w.ownsRow base tr s (.slice A n cap) m xs) (hk : IsMap w k kE vE mm) : ¬ RT w.heap.size R A k := by
  rintro (rfl | e | e)
  · exact hk.notBlk hR rfl
  · obtain ⟨cs', hb⟩ := rowBlk hA e
    exact hk.notBlk hb rfl
  · have := hk.lt; omega
theorem book_notRT {tr : TypeId} {s m n cap : Nat} {A : Option Addr} {xs : List Value} {t2 : TypeId} {cs2 : Array Value} (h : IsBook n0 w X BP BO pr os) (hR : Blk w R t2 cs2) (hA : w.ownsRow base tr s (.slice A n cap) m xs) (ht : 74 ≠ t2 ∧ 47 ≠ t2 ∧ 74 ≠ tr ∧ 47 ≠ tr)
    (hT : Touch (RT w.heap.size R A) w w') : IsBook n0 w' X BP BO pr os := by
  refine h.touch hT (rt_not hR hA h.blk ht.1 ht.2.2.1) ⟨map_notRT hR hA h.prs, map_notRT hR hA h.ods⟩ (fun p hp => ?_)
  obtain ⟨_, _, cs, hb⟩ := h.lns p hp
  exact rt_not hR hA hb ht.2.1 ht.2.2.2
theorem ref_own (h : IsBook n0 w X BP BO pr os) (hF : IsRef base w R A1 c1 is A2 c2 rs) (hT : Touch (Own BP BO) w w') : IsRef base w' R A1 c1 is A2 c2 rs := by
  have row : ∀ {A : Option Addr} {n cap m s : Nat} {t : TypeId} {xs : List Value}, w.ownsRow base t s (.slice A n cap) m xs → w'.ownsRow base t s (.slice A n cap) m xs := fun {A n cap m s t xs} hO =>
    own_touch hO hT (fun k hk => by
      obtain ⟨cs, hb⟩ := rowBlk hO (b := k) (by cases A with | none => simp [Value.ownBlock] at hk | some a => simpa [Value.ownBlock] using hk)
      exact notOwn h hb)
  exact ⟨hT.blk hF.blk (notOwn h hF.blk), row hF.own1, row hF.own2, fun o ho => (hF.lns o ho).touch hT (by
    obtain ⟨_, _, cs, hb⟩ := hF.lns o ho
    exact notOwn h hb), hF.lt⟩
theorem PlR.next (h : PlR w0 n0 base X BP BO R G x pr os A1 c1 is A2 c2 rs w) (hb : Below w.heap.size w w') : PlR w0 n0 base X BP BO R G x pr os A1 c1 is A2 c2 rs w' :=
  ⟨h.st.next hb, h.ref.next hb, h.blk.next hb, Nat.le_trans h.bw hb.size, h.low⟩
theorem PlR.stepB (h : PlR w0 n0 base X BP BO R G x pr os A1 c1 is A2 c2 rs w) (hB : IsBook n0 w' X BP BO pr' os') (hp : PrOk pr') (ho : OsOk os') (hT : Touch (Own BP BO) w w') : PlR w0 n0 base X BP BO R G x pr' os' A1 c1 is A2 c2 rs w' :=
  ⟨h.st.touched hB hp ho hT, ref_own h.st.book h.ref hT, hT.blk h.blk (notOwn h.st.book h.blk), Nat.le_trans h.bw hT.size, h.low⟩
theorem rt_low {A : Option Addr} {n cap m s : Nat} {t : TypeId} {xs : List Value} (hO : w.ownsRow base t s (.slice A n cap) m xs) (hb : Below w0.heap.size w0 w) (hR : w0.heap.size ≤ R) (hRb : R < base) : ∀ k, RT w.heap.size R A k → w0.heap.size ≤ k := by
  rintro k (rfl | e | e)
  · exact hR
  · have := (own_blk hO k e).1; omega
  · exact Nat.le_trans hb.size e
theorem PlR.stepR1 (h : PlR w0 n0 base X BP BO R G x pr os A1 c1 is A2 c2 rs w) (hF : IsRef base w' R A1' c1' is' A2 c2 rs) (hT : Touch (RT w.heap.size R A1) w w') : PlR w0 n0 base X BP BO R G x pr os A1' c1' is' A2 c2 rs w' :=
  ⟨⟨book_notRT h.st.book h.ref.blk h.ref.own1 (by decide) hT, h.st.pok, h.st.ook, h.st.bel.trans (hT.below h.st.bel.size (rt_low h.ref.own1 h.st.bel h.low h.ref.lt)), h.st.low.1, Nat.le_trans h.st.low.2 hT.size⟩, hF, hT.blk h.blk (rt_not h.ref.blk h.ref.own1 h.blk (by decide) (by decide)), Nat.le_trans h.bw hT.size, h.low⟩
theorem PlR.stepR2 (h : PlR w0 n0 base X BP BO R G x pr os A1 c1 is A2 c2 rs w) (hF : IsRef base w' R A1 c1 is A2' c2' rs') (hT : Touch (RT w.heap.size R A2) w w') : PlR w0 n0 base X BP BO R G x pr os A1 c1 is A2' c2' rs' w' :=
  ⟨⟨book_notRT h.st.book h.ref.blk h.ref.own2 (by decide) hT, h.st.pok, h.st.ook, h.st.bel.trans (hT.below h.st.bel.size (rt_low h.ref.own2 h.st.bel h.low h.ref.lt)), h.st.low.1, Nat.le_trans h.st.low.2 hT.size⟩, hF, hT.blk h.blk (rt_not h.ref.blk h.ref.own2 h.blk (by decide) (by decide)), Nat.le_trans h.bw hT.size, h.low⟩
theorem PlR.cells (h : PlR w0 n0 base X BP BO R G x pr os A1 c1 is A2 c2 rs w) : w.cell? ⟨G, 0, none⟩ = some (.bool x.o) ∧ w.cell? ⟨G, 1, none⟩ = some (.int .i64 x.i) ∧ w.cell? ⟨G, 2, none⟩ = some (.int .i64 x.c) ∧ w.cell? ⟨G, 3, none⟩ = some (.int .i64 x.p) ∧ w.cell? ⟨G, 4, none⟩ = some (.string x.f) ∧ w.cell? ⟨G, 5, none⟩ = some (.slice x.A x.ls.length x.cap) ∧ G < w.heap.size :=
  ⟨h.blk.cell 0, h.blk.cell 1, h.blk.cell 2, h.blk.cell 3, h.blk.cell 4, h.blk.cell 5, h.blk.lt⟩

/-- And the lines that are given: a row of the law's own. -/
structure PlG (w0 : World) (n0 base X BP BO R G : Nat) (x : Opn) (pr : List (Int × Int)) (os : List (Int × Od)) (A1 : Option Addr) (c1 : Nat) (is : List (Int × Int)) (A2 : Option Addr) (c2 : Nat) (rs : List Od) (Ag : Option Addr) (cg : Nat) (w : World) : Prop where
  pl : PlR w0 n0 base X BP BO R G x pr os A1 c1 is A2 c2 rs w
  giv : w.ownsRow w0.heap.size 47 2 (.slice Ag x.ls.length cg) x.ls.length (x.ls.flatMap enL)
  sep : ∀ p ∈ os, Ag.map (·.block) ≠ some p.2.b
variable {Ag : Option Addr} {cg : Nat}
theorem own_cap {base : Nat} {e : TypeId} {size n cap m : Nat} {A : Option Addr} {xs : List Value} (h : w.ownsRow base e size (.slice A n cap) m xs) : m ≤ cap ∧ cap ≤ maxLen := by
  rcases h.2 with ⟨h1, h2⟩ | ⟨g, cap', cur, h1, _, _, h3, h4, _⟩
  · injection h1 with _ _ h3
    exact ⟨by omega, by rw [h3]; unfold maxLen; omega⟩
  · injection h1 with _ _ h5
    exact ⟨by omega, by omega⟩
theorem PlG.next (h : PlG w0 n0 base X BP BO R G x pr os A1 c1 is A2 c2 rs Ag cg w) (hb : Below w.heap.size w w') : PlG w0 n0 base X BP BO R G x pr os A1 c1 is A2 c2 rs Ag cg w' :=
  ⟨h.pl.next hb, h.giv.kept (grown_of_below hb none) (by cases hv : (Value.slice Ag x.ls.length cg).ownBlock <;> simp), h.sep⟩
theorem PlG.notBlk (h : PlG w0 n0 base X BP BO R G x pr os A1 c1 is A2 c2 rs Ag cg w) : ∀ g, (Value.slice Ag x.ls.length cg).ownBlock = some g → ∃ cs, Blk w g 47 cs := fun g hg =>
  rowBlk h.giv (b := g) (by cases Ag with | none => simp [Value.ownBlock] at hg | some a => simpa [Value.ownBlock] using hg)
theorem PlG.stepB (h : PlG w0 n0 base X BP BO R G x pr os A1 c1 is A2 c2 rs Ag cg w) {id : Int} {o : Od} (hB : IsBook n0 w' X BP BO pr (mset os id o)) (ho : OsOk (mset os id o)) (hT : Touch (Own BP BO) w w') (hn : w.heap.size ≤ o.b) : PlG w0 n0 base X BP BO R G x pr (mset os id o) A1 c1 is A2 c2 rs Ag cg w' :=
  ⟨h.pl.stepB hB h.pl.st.pok ho hT, own_touch h.giv hT (fun g hg => by
    obtain ⟨cs, hb⟩ := h.notBlk g hg
    exact notOwn h.pl.st.book hb), fun p hp => by
    rcases mem_mset hp with rfl | ⟨hp', _⟩
    · intro e
      have := (own_blk h.giv o.b e).2
      omega
    · exact h.sep p hp'⟩
theorem PlG.stepR2 (h : PlG w0 n0 base X BP BO R G x pr os A1 c1 is A2 c2 rs Ag cg w) (hF : IsRef base w' R A1 c1 is A2' c2' rs') (hT : Touch (RT w.heap.size R A2) w w') : PlG w0 n0 base X BP BO R G x pr os A1 c1 is A2' c2' rs' Ag cg w' :=
  ⟨h.pl.stepR2 hF hT, own_touch h.giv hT (fun g hg => by
    obtain ⟨cs, hb⟩ := h.notBlk g hg
    exact rt_not h.pl.ref.blk h.pl.ref.own2 hb (by decide) (by decide)), h.sep⟩
/-- What only the row's own block turns. -/
theorem PlR.givSet (h : PlR w0 n0 base X BP BO R G x pr os A1 c1 is A2 c2 rs w) {g : Nat} {cs : Array Value} (hT : Touch (· = g) w w') (hg : Blk w g 47 cs) (hlow : w0.heap.size ≤ g) (hs : ∀ p ∈ os, p.2.b ≠ g) : PlR w0 n0 base X BP BO R G x pr os A1 c1 is A2 c2 rs w' := by
  have row : ∀ {A : Option Addr} {n cap m s : Nat} {t : TypeId} {xs : List Value}, w.ownsRow base t s (.slice A n cap) m xs → t ≠ 47 → w'.ownsRow base t s (.slice A n cap) m xs := fun {A n cap m s t xs} hO ht =>
    own_touch hO hT (fun k hk => by
      obtain ⟨cs, hb⟩ := rowBlk hO (b := k) (by cases A with | none => simp [Value.ownBlock] at hk | some a => simpa [Value.ownBlock] using hk)
      exact hb.ne_ hg ht)
  refine ⟨⟨h.st.book.touch hT (h.st.book.blk.ne_ hg (by decide)) ⟨fun e => h.st.book.prs.notBlk hg e, fun e => h.st.book.ods.notBlk hg e⟩ hs, h.st.pok, h.st.ook, h.st.bel.trans (hT.below h.st.bel.size (fun k hk => by rw [hk]; exact hlow)), h.st.low.1, Nat.le_trans h.st.low.2 hT.size⟩,
    ⟨hT.blk h.ref.blk (h.ref.blk.ne_ hg (by decide)), row h.ref.own1 (by decide), row h.ref.own2 (by decide), fun o ho => (h.ref.lns o ho).touch hT (by
      obtain ⟨_, _, cs, hb⟩ := h.ref.lns o ho
      exact hb.ne_ hg (by decide)), h.ref.lt⟩, hT.blk h.blk (h.blk.ne_ hg (by decide)), Nat.le_trans h.bw hT.size, h.low⟩

/-- The calls of play. -/
theorem PlR.lens (h : PlR w0 n0 base X BP BO R G x pr os A1 c1 is A2 c2 rs w) (hM : RelO pr os is rs) : is.length ≤ 64 ∧ rs.length ≤ 256 := by
  have h1 := hM.its.len
  have h2 := hM.ods.len
  rw [List.length_map] at h2
  have h3 := h.st.fewP
  have h4 := h.st.fewO
  omega
theorem PlR.state (h : PlR w0 n0 base X BP BO R G x pr os A1 c1 is A2 c2 rs w) (hM : RelO pr os is rs) :
    Calls Try.prog 23 #[.pointer (some ⟨X, 0, none⟩), .pointer (some ⟨R, 0, none⟩)] w fun e w' => e = .returned (.bool true) ∧ Below w.heap.size w w' :=
  state_any h.st.book h.ref hM h.st.ook h.st.fewP h.st.fewO
theorem PlR.itemYes (h : PlR w0 n0 base X BP BO R G x pr os A1 c1 is A2 c2 rs w) (id p : Int) (hok : itemOk id p) :
    Calls Try.prog 11 #[.pointer (some ⟨X, 0, none⟩), .int .i64 id, .int .i64 p] w fun e w' => e = .returned (.int .i64 0) ∧ PlR w0 n0 base X BP BO R G x (mset pr id p) os A1 c1 is A2 c2 rs w' :=
  (item_yes h.st.book id p hok).mono fun _ _ ⟨h1, h2, h3⟩ => ⟨h1, h.stepB h2 (prOk_set h.st.pok hok) h.st.ook h3⟩
theorem PlR.setYes (h : PlR w0 n0 base X BP BO R G x pr os A1 c1 is A2 c2 rs w) (hs : SortedK Prod.fst ltI is) (hl : is.length ≤ 64) (id p : Int) (hok : itemOk id p) :
    Calls Try.prog 30 #[.pointer (some ⟨R, 0, none⟩), .int .i64 id, .int .i64 p] w fun e w' => e = .returned (.int .i64 0) ∧ ∃ A' c', PlR w0 n0 base X BP BO R G x pr os A' c' (isC is id p) A2 c2 rs w' :=
  (rset_yes h.ref hs id p hok (by omega) h.bw).mono fun _ _ ⟨A', c', h1, h2, h3⟩ => ⟨h1, A', c', h.stepR1 h2 h3⟩
theorem PlG.may (h : PlG w0 n0 base X BP BO R G x pr os A1 c1 is A2 c2 rs Ag cg w) (hf : x.f.size ≤ maxLen) :
    Calls Try.prog 13 #[.pointer (some ⟨X, 0, none⟩), .int .i64 x.i, .int .i64 x.c, .string x.f, .slice Ag x.ls.length cg] w fun e w' => e = .returned (.int .i64 (errL pr os x.i x.c x.f x.ls)) ∧ Below w.heap.size w w' :=
  may_any h.pl.st.book x.i x.c x.f Ag cg x.ls hf (own_rd h.giv) (own_cap h.giv).1 (own_cap h.giv).2
theorem PlG.addNo (h : PlG w0 n0 base X BP BO R G x pr os A1 c1 is A2 c2 rs Ag cg w) (hf : x.f.size ≤ maxLen) (hz : errL pr os x.i x.c x.f x.ls ≠ 0) :
    Calls Try.prog 14 #[.pointer (some ⟨X, 0, none⟩), .int .i64 x.i, .int .i64 x.c, .string x.f, .slice Ag x.ls.length cg] w fun e w' => e = .returned (.int .i64 (errL pr os x.i x.c x.f x.ls)) ∧ Below w.heap.size w w' :=
  add_no h.pl.st.book x.i x.c x.f Ag cg x.ls hf (own_rd h.giv) (own_cap h.giv).1 (own_cap h.giv).2 hz
def okO (pr : List (Int × Int)) (x : Opn) (o : Od) : Prop := o.i = x.i ∧ o.c = x.c ∧ o.f = x.f ∧ o.ls = x.ls ∧ o.n = netT (prL pr x.ls) ∧ o.t = taxT (prL pr x.ls)
theorem PlG.addYes (h : PlG w0 n0 base X BP BO R G x pr os A1 c1 is A2 c2 rs Ag cg w) (hf : x.f.size ≤ maxLen) (hz : errL pr os x.i x.c x.f x.ls = 0) :
    Calls Try.prog 14 #[.pointer (some ⟨X, 0, none⟩), .int .i64 x.i, .int .i64 x.c, .string x.f, .slice Ag x.ls.length cg] w fun e w' => ∃ o : Od, e = .returned (.int .i64 0) ∧ okO pr x o ∧ PlG w0 n0 base X BP BO R G x pr (mset os x.i o) A1 c1 is A2 c2 rs Ag cg w' :=
  (add_new h.pl.st.book h.pl.st.pok x.i x.c x.f Ag cg x.ls hf (own_rd h.giv) (own_cap h.giv).1 (own_cap h.giv).2 h.pl.st.low.2 hz).mono fun _ _ ⟨o, h1, h2, h3, h4, h5⟩ =>
    ⟨o, h1, h3, h.stepB h2 (osOk_set h.pl.st.ook (errL_zero hz).1 h3.1 h3.2.1 h3.2.2.2.1) h5 h4⟩
def AddRel (pr : List (Int × Int)) (os : List (Int × Od)) (x : Opn) (os' : List (Int × Od)) : Prop :=
  (errL pr os x.i x.c x.f x.ls ≠ 0 ∧ os' = os) ∨ (errL pr os x.i x.c x.f x.ls = 0 ∧ ∃ o, okO pr x o ∧ os' = mset os x.i o)
theorem PlG.add (h : PlG w0 n0 base X BP BO R G x pr os A1 c1 is A2 c2 rs Ag cg w) (hf : x.f.size ≤ maxLen) :
    Calls Try.prog 14 #[.pointer (some ⟨X, 0, none⟩), .int .i64 x.i, .int .i64 x.c, .string x.f, .slice Ag x.ls.length cg] w fun e w' => e = .returned (.int .i64 (errL pr os x.i x.c x.f x.ls)) ∧ ∃ os', AddRel pr os x os' ∧ PlG w0 n0 base X BP BO R G x pr os' A1 c1 is A2 c2 rs Ag cg w' := by
  by_cases hz : errL pr os x.i x.c x.f x.ls = 0
  · exact (h.addYes hf hz).mono fun _ _ ⟨o, h1, h2, h3⟩ => ⟨by rw [hz]; exact h1, _, .inr ⟨hz, o, h2, rfl⟩, h3⟩
  · exact (h.addNo hf hz).mono fun _ _ ⟨h1, h2⟩ => ⟨h1, os, .inl ⟨hz, rfl⟩, h.next h2⟩
theorem radd_any (h : IsRef base w R A1 c1 is A2 c2 rs) (hr : RelO pr os is rs) (id c : Int) (f : ByteArray) (A : Option Addr) (cap : Nat) (ls : List Ln) (hfs : f.size ≤ maxLen) (hR : Rd w A (ls.flatMap enL)) (hl1 : is.length ≤ 140737488355328) (hl2 : rs.length * 72 + 72 ≤ 140737488355328) (hbw : base ≤ w.heap.size) :
    Calls Try.prog 31 #[.pointer (some ⟨R, 0, none⟩), .int .i64 id, .int .i64 c, .string f, .slice A ls.length cap] w (AddD base R A1 A2 c1 is rs pr os id c f ls w) := by
  by_cases hok : OrdOk id c f ls
  · exact radd_ok h hr id c f A cap ls hfs hR hok hl1 hl2 hbw
  · by_cases hh : headOk id c f ls.length
    · exact (radd_bad id c f A cap ls _ hfs hR hh hok).mono fun _ _ ⟨h1, h2⟩ => by subst h1; exact addD_err (errL_bad hok) (by omega) h2
    · exact (radd_head id c f A cap ls _ hfs hh).mono fun _ _ ⟨h1, h2⟩ => by subst h1; exact addD_err (errL_bad hok) (by omega) h2
theorem PlG.radd (h : PlG w0 n0 base X BP BO R G x pr os' A1 c1 is A2 c2 rs Ag cg w) (hM : RelO pr os is rs) (ha : AddRel pr os x os') (hf : x.f.size ≤ maxLen) (hl1 : is.length ≤ 64) (hl2 : rs.length ≤ 256) {A5 : Option Addr} {c5 : Nat} (hR5 : Rd w A5 (x.ls.flatMap enL)) :
    Calls Try.prog 31 #[.pointer (some ⟨R, 0, none⟩), .int .i64 x.i, .int .i64 x.c, .string x.f, .slice A5 x.ls.length c5] w fun e w' => e = .returned (.int .i64 (errL pr os x.i x.c x.f x.ls)) ∧ ∃ A2' c2' rs', RelO pr os' is rs' ∧ PlG w0 n0 base X BP BO R G x pr os' A1 c1 is A2' c2' rs' Ag cg w' := by
  refine (radd_any h.pl.ref hM x.i x.c x.f A5 c5 x.ls hf hR5 (by omega) (by omega) h.pl.bw).mono ?_
  rintro e w' (⟨hz, rfl, hb⟩ | ⟨hz, o, A2', c2', rfl, hI, ho, hT⟩)
  · rcases ha with ⟨_, rfl⟩ | ⟨h0, _⟩
    · exact ⟨rfl, A2, c2, rs, hM, h.next hb⟩
    · exact absurd h0 hz
  · rcases ha with ⟨h0, _⟩ | ⟨_, o', ho', rfl⟩
    · exact absurd hz h0
    · obtain ⟨a1, a2, a3, a4, a5, a6, _⟩ := ho
      obtain ⟨b1, b2, b3, b4, b5, b6⟩ := ho'
      exact ⟨by rw [hz], A2', c2', _, hM.addO (errL_zero hz).2.2 a1 (by unfold bare; rw [a1, a2, a3, a4, a5, a6, b1, b2, b3, b4, b5, b6]), h.stepR2 hI hT⟩
theorem PlR.lines (h : PlR w0 n0 base X BP BO R G x pr os A1 c1 is A2 c2 rs w) (hx : OkOp w0 x) :
    Calls Try.prog 21 #[.slice x.A x.ls.length x.cap] w fun e w' => ∃ A5 c5, e = .returned (.slice A5 x.ls.length c5) ∧ Rd w' A5 (x.ls.flatMap enL) ∧ Below w.heap.size w w' :=
  (lawLines_any x.ls x.A x.cap w (hx.rd.below h.st.bel) (by have := hx.len; omega)).mono fun _ _ ⟨A5, c5, h1, h2, h3⟩ => ⟨A5, c5, h1, own_rd h2, h3⟩
theorem PlR.getNone (h : PlR w0 n0 base X BP BO R G x pr os A1 c1 is A2 c2 rs w) (id : Int) (hm : mget os id = none) :
    Calls Try.prog 15 #[.pointer (some ⟨X, 0, none⟩), .int .i64 id] w fun e w' => e = .returned (.tuple #[.agg #[.int .i64 0, .int .i64 0, .string ByteArray.empty, .slice none 0 0, .int .i64 0, .int .i64 0], .bool false]) ∧ Below w.heap.size w w' :=
  (get_any h.st.book h.st.four id).mono fun _ _ ⟨h1, _, h2⟩ => ⟨h1 hm, h2⟩
theorem PlR.getSome (h : PlR w0 n0 base X BP BO R G x pr os A1 c1 is A2 c2 rs w) (id : Int) {v : Od} (hm : mget os id = some v) :
    Calls Try.prog 15 #[.pointer (some ⟨X, 0, none⟩), .int .i64 id] w fun e w' => ∃ pb pcp, e = .returned (.tuple #[.agg #[.int .i64 v.i, .int .i64 v.c, .string v.f, .slice (some ⟨pb, 0, none⟩) v.ls.length pcp, .int .i64 v.n, .int .i64 v.t], .bool true]) ∧ Below w.heap.size w w' :=
  (get_any h.st.book h.st.four id).mono fun _ _ ⟨_, h1, h2⟩ => by
    obtain ⟨b, cap, e1, _⟩ := h1 v hm
    exact ⟨b, cap, e1, h2⟩
/-- What one operation leaves. -/
def PC (w0 : World) (n0 base X BP BO R G : Nat) (x : Opn) (wx : World) : Prop :=
  ∃ (pr : List (Int × Int)) (os : List (Int × Od)) (A1 : Option Addr) (c1 : Nat) (is : List (Int × Int)) (A2 : Option Addr) (c2 : Nat) (rs : List Od), RelO pr os is rs ∧ PlR w0 n0 base X BP BO R G x pr os A1 c1 is A2 c2 rs wx
theorem RelO.item (h : RelO pr os is rs) (id p : Int) : RelO (mset pr id p) os (isC is id p) rs := h.setI id p _ rfl
end

end Go.Proofs.Ytdgoifnhlpjnpaa
