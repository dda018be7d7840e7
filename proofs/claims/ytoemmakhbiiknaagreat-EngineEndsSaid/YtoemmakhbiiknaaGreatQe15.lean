/-
  The document's engine: Start.
  twin of what is saved; Get of an instance that is there.
  (*Engine).Get of an instance that is there.
  Layer 13: the laws' alike.
  A range over a map, inside a fence: for the iterators of the library (maps.Keys, maps.Values).
  The closure of a library function, laid at this program (the numbers as the kit's command told them). No condition.
  Keys, sorted: slices.Sort at ints.
  maps.Keys over a map of the book: its iterator's contracts; slices.Sorted of the keys (printed by gen_keys.py).
  (*Engine).Orders, (*Engine).Live.
  Layer 13: the laws' state, of one instance.
  Structs of scalars compared: a struct is equal to itself.
-/
import Derived.Test.YtoemmakhbiiknaaGreatQe14
import Derived.Laws.MakeOwn
import Derived.Deep.RegionWith
import Derived.Shelf.SlIterI.Sorted
import Derived.Shelf.SlLaysZI
import Derived.Test.YtoemmakhbiiknaaGreatProg
import Derived.Shelf.SortM.Plain
import Derived.Shelf.SortM.SortNone
import Derived.Laws.StructEq
namespace Go.Proofs.YtoemmakhbiiknaaGreat
open Go.RowKit Go.WideShapes Go.ChangeShapes Go.ChangeAt Go.Deep
set_option linter.unusedVariables false

/-- The document's engine. -/
structure DEn (n1 R : Nat) (LA : Option Addr) (lc : Nat) (bs : List Nat) (od : Nat → Int) (vO : Value) (w : World) : Prop where
  r : Blk w R 34 #[.slice LA bs.length lc, vO]
  own : w.ownsRow n1 139 1 (.slice LA bs.length lc) bs.length (bs.flatMap enB13)
  inst : ∀ b ∈ bs, ∃ v l RP, Blk w b 106 (inD RP v l) ∧ v.ord = od b
  lo : n1 ≤ R ∧ ∀ b ∈ bs, n1 ≤ b
section
variable {n1 R lc RP bG base2 sc : Nat} {LA SA : Option Addr} {bs : List Nat} {od : Nat → Int} {vO : Value} {w w' : World} {nm : ByteArray} {Ls Lr : List Stp} {Bs : List IRow}
/-- What a call of the document's engine may write. -/
def DV (R : Nat) (LA : Option Addr) (n lc g : Nat) : Prop := g = R ∨ (Value.slice LA n lc).ownBlock = some g
theorem DEn.touch {S : Nat → Prop} (h : DEn n1 R LA lc bs od vO w) (hT : Touch S w w') (h1 : ¬ S R) (h2 : ∀ g, (Value.slice LA bs.length lc).ownBlock = some g → ¬ S g) (h3 : ∀ b ∈ bs, ¬ S b) : DEn n1 R LA lc bs od vO w' :=
  ⟨hT.blk h.r h1, own_touch h.own hT (fun g hg => h2 g hg), fun b hb => by
    obtain ⟨v, l, RP, a, e⟩ := h.inst b hb
    exact ⟨v, l, RP, hT.blk a (h3 b hb), e⟩, h.lo⟩
theorem DEn.next (h : DEn n1 R LA lc bs od vO w) (hb : Below w.heap.size w w') : DEn n1 R LA lc bs od vO w' := h.touch (S := fun _ => False) (Touch.of_below hb) (fun h => h) (fun _ _ h => h) (fun _ _ h => h)
theorem DEn.find (h : DEn n1 R LA lc bs od vO w) (o : Int) (hl : bs.length ≤ 140737488355328) : Calls Tryz.prog 56 #[.pointer (some ⟨R, 0, none⟩), .int .i64 o] w fun e w' => e = .returned (dfV od bs o) ∧ w' = w :=
  dfind_any R LA lc bs od o w (h.r.cell 0) h.r.lt (own_rd h.own) hl (fun b hb => by
    obtain ⟨v, l, RP, a, e⟩ := h.inst b hb
    exact ⟨by rw [a.cell 0]; simp [inD, e], a.lt⟩)
theorem DEn.push {J : Nat} {v : Iv} {l : Il} {o : Int} (h : DEn n1 R LA lc bs od vO w) (hJ : Blk w J 106 (inD RP v l)) (ho : v.ord = o) (hne : ∀ b ∈ bs, b ≠ J) (hlo : n1 ≤ J) {B : Obj} {w3 : World} {A' : Option Addr} {cap' : Nat} (hO : w3.ownsRow n1 139 1 (.slice A' (bs.length + 1) cap') (bs.length + 1) (bs.flatMap enB13 ++ [.pointer (some ⟨J, 0, none⟩)])) (hg : (w.alloc B).grownBy w3 (Value.slice LA bs.length lc).ownBlock) :
    DEn n1 R A' cap' (bs ++ [J]) (fun b => if b = J then o else od b) vO (w3.setCell ⟨R, 0, none⟩ (.slice A' (bs.length + 1) cap')) ∧ Touch (DV R LA bs.length lc) w (w3.setCell ⟨R, 0, none⟩ (.slice A' (bs.length + 1) cap')) ∧ Blk w3 R 34 #[.slice LA bs.length lc, vO] := by
  have hT7 : Touch (fun b => (Value.slice LA bs.length lc).ownBlock = some b) w w3 := (Touch.of_below ((Below.refl _ _).alloc (Nat.le_refl _) B)).then ⟨hg.os, hg.tape, hg.output, hg.size, fun k hk hn => hg.block k hk (fun e => hn e.symm)⟩
  have hr3 := hT7.blk h.r (fun e => own_notBlk h.own h.r (by decide) e)
  have hS := Touch.setCell w3 R 0 (.slice A' (bs.length + 1) cap')
  have hst : ∀ {b : Nat} {cs : Array Value}, Blk w b 106 cs → Blk (w3.setCell ⟨R, 0, none⟩ (.slice A' (bs.length + 1) cap')) b 106 cs := fun {b cs} hb => by
    have h3 := hT7.blk hb (fun e => own_notBlk h.own hb (by decide) e)
    exact hS.blk h3 (fun e => h3.ne_ hr3 (by decide) e)
  refine ⟨⟨?_, ?_, fun b hb => ?_, h.lo.1, fun b hb => ?_⟩, ?_, hr3⟩
  · have := hr3.set_ 0 (.slice A' (bs.length + 1) cap')
    simpa using this
  · have := own_touch hO hS (fun q hq e => own_notBlk hO hr3 (by decide) (by rw [hq, e]))
    simpa [enB13, pB] using this
  · rcases List.mem_append.1 hb with hb | hb
    · obtain ⟨v2, l2, RP2, a, e⟩ := h.inst b hb
      exact ⟨v2, l2, RP2, hst a, by rw [if_neg (hne b hb)]; exact e⟩
    · obtain rfl : b = J := by simpa using hb
      exact ⟨v, l, RP, hst hJ, by rw [if_pos rfl]; exact ho⟩
  · rcases List.mem_append.1 hb with hb | hb
    · exact h.lo.2 b hb
    · obtain rfl : b = J := by simpa using hb
      exact hlo
  · exact (hT7.mono (fun k hk => .inr hk)).then (hS.mono (fun k hk => .inl hk))
theorem DEn.setOut {u : Value} (h : DEn n1 R LA lc bs od vO w) : DEn n1 R LA lc bs od u (w.setCell ⟨R, 1, none⟩ u) := by
  have hS := Touch.setCell w R 1 u
  refine ⟨by simpa using h.r.set_ 1 u, own_touch h.own hS (fun q hq e => own_notBlk h.own h.r (by decide) (by rw [hq, e])), fun b hb => ?_, h.lo⟩
  obtain ⟨v2, l2, RP2, a, e⟩ := h.inst b hb
  exact ⟨v2, l2, RP2, hS.blk a (fun e => a.ne_ h.r (by decide) e), e⟩
/-- The class of blocks that an instance under way has. -/
def XN (J g1 g2 n0 : Nat) (g : Nat) : Prop := g = J ∨ g = g1 ∨ g = g2 ∨ n0 ≤ g
theorem newV_mk (o : Int) (n : Nat) : MkOk (newV o n).ms := fun m hm => by
  have := List.eq_of_mem_replicate (show m ∈ List.replicate n (0 : Int) from hm)
  omega
theorem dstart_fin {n J g1 g2 nz : Nat} {o : Int} {W w3 : World} {B : Obj} {A' : Option Addr} {cap' : Nat} (hnz : nz ≤ W.heap.size) (hE : DEn n1 R LA lc bs od vO W) (hP : RpS base2 RP nm SA sc Lr W) (haf : ∀ s ∈ Lr, ∀ b, s.A.map (·.block) = some b → b < bG) (hbG : bG ≤ n1) (hn1 : n1 ≤ nz) (hPz : RP < nz) (hSz : ∀ g, (Value.slice SA Lr.length sc).ownBlock = some g → g < nz) (hbz : ∀ b ∈ bs, b < nz) (hn : n ≤ 1000)
    (hBJ : Blk W J 106 (inD RP (newV o n) ⟨some ⟨g1, 0, none⟩, n, some ⟨g2, 0, none⟩, n, none, 0⟩)) (hO1 : W.ownsRow nz 3 1 (.slice (some ⟨g1, 0, none⟩) n n) n ((List.replicate n (0 : Int)).flatMap en1)) (hO2 : W.ownsRow nz 3 1 (.slice (some ⟨g2, 0, none⟩) n n) n ((List.replicate n (0 : Int)).flatMap en1)) (hJ : nz ≤ J) (h12 : g1 ≠ g2)
    (hO : w3.ownsRow n1 139 1 (.slice A' (bs.length + 1) cap') (bs.length + 1) (bs.flatMap enB13 ++ [.pointer (some ⟨J, 0, none⟩)])) (hg : (W.alloc B).grownBy w3 (Value.slice LA bs.length lc).ownBlock) (W5 : World) (hW5 : W5 = (w3.setCell ⟨R, 0, none⟩ (.slice A' (bs.length + 1) cap')).setCell ⟨R, 1, none⟩ (.slice none 0 0)) :
    DEn n1 R A' cap' (bs ++ [J]) (fun b => if b = J then o else od b) (.slice none 0 0) W5 ∧ Touch (DV R LA bs.length lc) W W5 ∧
    IsD W5.heap.size (XN J g1 g2 W5.heap.size) R J RP (.slice A' (bs.length + 1) cap') (newV o n) ⟨some ⟨g1, 0, none⟩, n, some ⟨g2, 0, none⟩, n, none, 0⟩ W5 ∧ RpK (XN J g1 g2 W5.heap.size) R bG base2 RP nm SA sc Lr W5 ∧ Blk w3 R 34 #[.slice LA bs.length lc, vO] := by
  obtain ⟨P1, P2, P3⟩ := hE.push hBJ (o := o) rfl (fun b hb e => by have := hbz b hb; omega) (by omega) hO hg
  have P4 := P1.setOut (u := .slice none 0 0)
  have hT : Touch (DV R LA bs.length lc) W W5 := by
    rw [hW5]
    exact P2.then ((Touch.setCell _ R 1 (.slice none 0 0)).mono (fun k hk => .inl hk))
  rw [← hW5] at P4
  have hsz := hT.size
  have hg1 := (hO1.lt g1 rfl)
  have hg2 := (hO2.lt g2 rfl)
  have hJlt := hBJ.lt
  have hJ5 := hT.blk hBJ (fun hS => by
    rcases hS with hS | hS
    · exact hBJ.ne_ hE.r (by decide) hS
    · exact own_notBlk hE.own hBJ (by decide) hS)
  have hrow : ∀ {q : Nat} , W.ownsRow nz 3 1 (.slice (some ⟨q, 0, none⟩) n n) n ((List.replicate n (0 : Int)).flatMap en1) → W5.ownsRow 0 3 1 (.slice (some ⟨q, 0, none⟩) n n) n ((List.replicate n (0 : Int)).flatMap en1) := fun {q} h => own_base (own_touch h hT (fun g hg' hS => by
    rcases hS with hS | hS
    · exact own_notBlk h hE.r (by decide) (by rw [hg', hS])
    · exact own_ne (own_base h (Nat.zero_le _)) (own_base hE.own (Nat.zero_le _)) (by decide) hg' hS)) (Nat.zero_le _)
  have hRK : ∀ g, DV R LA bs.length lc g → bG ≤ g ∧ g ≠ RP ∧ (Value.slice SA Lr.length sc).ownBlock ≠ some g := fun g hg' => by
    rcases hg' with hg' | hg'
    · subst hg'
      exact ⟨by have := hE.lo.1; omega, fun e => hE.r.ne_ hP.p (by decide) e, fun e => own_notBlk hP.os hE.r (by decide) e⟩
    · exact ⟨by have := (hE.own.lt g hg').1; omega, fun e => own_notBlk hE.own hP.p (by decide) (by rw [hg', e]), fun e => own_ne (own_base hP.os (Nat.zero_le _)) (own_base hE.own (Nat.zero_le _)) (by decide) e hg'⟩
  refine ⟨P4, hT, ⟨P4.r |> fun h => by simpa [newV] using h, hJ5, ?_, ?_, World.ownsRow_nil _ _ _ _, ?_, ?_, ?_, ⟨.inl rfl, Nat.le_refl _, fun g hg' => .inr (.inr (.inr hg'))⟩, by simpa [newV] using hn, by simp [newV]⟩, ⟨hP.touch haf hT hRK, haf, ?_⟩, P3⟩
  · simpa [newV] using hrow hO1
  · simpa [newV] using hrow hO2
  · intro g ha hb
    have e1 : g1 = g := by simpa [Value.ownBlock] using ha
    have e2 : g2 = g := by simpa [Value.ownBlock] using hb
    exact h12 (e1.trans e2.symm)
  · intro g ha
    have e1 : g1 = g := by simpa [Value.ownBlock] using ha
    exact .inr (.inl e1.symm)
  · intro g ha
    have e1 : g2 = g := by simpa [Value.ownBlock] using ha
    exact .inr (.inr (.inl e1.symm))
  · intro g hg'
    rcases hg' with hg' | hg' | hg' | hg' | hg'
    · exact hRK g (.inl hg')
    all_goals exact ⟨by omega, by omega, fun e => by have := hSz g e; omega⟩
theorem goV_ord (Ls : List Stp) (Bs : List IRow) (v : Iv) : (goV Ls Bs v).ord = v.ord := by
  have hN : ∀ k, (goN Ls Bs v k).ord = v.ord := fun k => by
    induction k with
    | zero => rfl
    | succ k ih =>
      show (goS Ls Bs (goN Ls Bs v k) k).ord = _
      unfold goS
      split
      · cases Ls[k]? with
        | none => exact ih
        | some t => show (bgV _ _ _).ord = _; unfold bgV; split <;> (try split) <;> exact ih
      · exact ih
  unfold goV
  split <;> exact hN _
theorem goV_ms (Ls : List Stp) (Bs : List IRow) (v : Iv) : (goV Ls Bs v).ms.length = v.ms.length := by
  unfold goV
  split <;> exact goN_ms Ls Bs v _
theorem dstart_end {J g1 g2 : Nat} {W5 w9 : World} {vL : Value} {u : Iv} {l9 : Il} (hE : DEn n1 R LA lc bs od vO W5) {v5 : Iv} {l5 : Il} (hJ : Blk W5 J 106 (inD RP v5 l5)) (h1 : ∃ b t s v n xs, W5.ownsRow b t s v n xs ∧ v.ownBlock = some g1 ∧ t = 3) (h2 : ∃ b t s v n xs, W5.ownsRow b t s v n xs ∧ v.ownBlock = some g2 ∧ t = 3) (hd : IsD W5.heap.size (XN J g1 g2 W5.heap.size) R J RP vL u l9 w9) (hT : Touch (DU (XN J g1 g2 W5.heap.size) R) W5 w9) (hL : vL = .slice LA bs.length lc) (hJb : ∀ b ∈ bs, b ≠ J ∨ u.ord = od b) :
    DEn n1 R LA lc bs od (.slice l9.OA u.out.length l9.oc) w9 := by
  subst hL
  have hx : ∀ {g : Nat}, ∀ {t : TypeId} {cs : Array Value}, Blk W5 g t cs → t ≠ 3 → g ≠ R → g ≠ J → ¬ DU (XN J g1 g2 W5.heap.size) R g := fun {g t cs} hb ht hR hJ hu => by
    rcases hu with hu | hu | hu | hu | hu
    · exact hR hu
    · exact hJ hu
    · obtain ⟨_, _, _, _, _, _, a, b, rfl⟩ := h1
      exact own_notBlk a hb (fun e => ht e.symm) (by rw [b, hu])
    · obtain ⟨_, _, _, _, _, _, a, b, rfl⟩ := h2
      exact own_notBlk a hb (fun e => ht e.symm) (by rw [b, hu])
    · have := hb.lt; omega
  refine ⟨hd.r, own_touch hE.own hT (fun g hg hu => ?_), fun b hb => ?_, hE.lo⟩
  · rcases hu with hu | hu | hu | hu | hu
    · exact own_notBlk hE.own hE.r (by decide) (by rw [hg, hu])
    · exact own_notBlk hE.own hJ (by decide) (by rw [hg, hu])
    · obtain ⟨_, _, _, _, _, _, a, b, rfl⟩ := h1
      exact own_ne (own_base hE.own (Nat.zero_le _)) (own_base a (Nat.zero_le _)) (by decide) hg (by rw [hu]; exact b)
    · obtain ⟨_, _, _, _, _, _, a, b, rfl⟩ := h2
      exact own_ne (own_base hE.own (Nat.zero_le _)) (own_base a (Nat.zero_le _)) (by decide) hg (by rw [hu]; exact b)
    · have := (hE.own.lt g hg).2; omega
  · by_cases e : b = J
    · subst e
      exact ⟨u, l9, RP, hd.b, (hJb b hb).resolve_left (fun h => h rfl)⟩
    · obtain ⟨v2, l2, RP2, a, e2⟩ := hE.inst b hb
      exact ⟨v2, l2, RP2, hT.blk a (hx a (by decide) (fun e3 => a.ne_ hE.r (by decide) e3) e), e2⟩
theorem info_dptr : (Tryz.prog.info? 139).map (fun i => (i.zero, i.size, i.bytes)) = some (some (.pointer none), 1, 8) := by kernel_rfl
set_option maxRecDepth 100000 in
set_option maxHeartbeats 16000000 in
theorem dstart_no (h : DEn n1 R LA lc bs od vO w) (o : Int) (rv : Value) (hl : bs.length ≤ 140737488355328) (b : Nat) (hf : dfV od bs o = pB b) : Calls Tryz.prog 23 #[.pointer (some ⟨R, 0, none⟩), .int .i64 o, rv] w fun e w' => e = .returned (.tuple #[.slice none 0 0, .int .i64 71]) ∧ w' = w := by
  have K := hid (h.find o hl)
  rw [hf] at K
  unfold pB at K
  clear h hf
  go_enter Tryz.func23, Tryz.ntmps23
  go_wp2_with fail
  refine K.out.mono ?_
  rintro e w2 ⟨rfl, rfl⟩
  go_wp2_with fail
  go_ret2
  exact ⟨rfl, rfl⟩
set_option maxRecDepth 100000 in
set_option maxHeartbeats 16000000 in
theorem dstart_any (h : DEn n1 R LA lc bs od vO w) (hp : RpS base2 RP nm SA sc Lr w) (haf : ∀ s ∈ Lr, ∀ b, s.A.map (·.block) = some b → b < bG) (hbG : bG ≤ n1) (hs : SameP Ls Bs Lr) (o : Int) (hl : bs.length * 8 + 8 ≤ 140737488355328) (hf : dfV od bs o = .pointer none) :
    Calls Tryz.prog 23 #[.pointer (some ⟨R, 0, none⟩), .int .i64 o, .pointer (some ⟨RP, 0, none⟩)] w fun e w' => ∃ (J : Nat) (LA' : Option Addr) (lc' : Nat) (l' : Il) (n0 : Nat) (X : Nat → Prop), e = .returned (.tuple #[.slice l'.OA (goV Ls Bs (newV o Ls.length)).out.length l'.oc, .int .i64 0]) ∧
      DEn n1 R LA' lc' (bs ++ [J]) (fun b => if b = J then o else od b) (.slice l'.OA (goV Ls Bs (newV o Ls.length)).out.length l'.oc) w' ∧ IsD n0 X R J RP (.slice LA' (bs.length + 1) lc') (goV Ls Bs (newV o Ls.length)) l' w' ∧ Touch (DV R LA bs.length lc) w w' ∧ w.heap.size ≤ J ∧ (∀ g, (Value.slice LA' (bs.length + 1) lc').ownBlock = some g → (Value.slice LA bs.length lc).ownBlock = some g ∨ w.heap.size ≤ g) := by
  have K := hid (h.find o (by omega))
  rw [hf] at K
  have HE := hid h
  have HP := hid hp
  have HAF := hid (And.intro haf hbG)
  have HS := hid hs
  have p1 : w.cell? ⟨RP, 1, none⟩ = some (.slice SA Lr.length sc) := hp.p.cell 1
  have lP := hp.p.lt
  have hLn := hp.n
  clear h hp haf hbG hs hf
  go_enter Tryz.func23, Tryz.ntmps23
  go_wp2_with fail
  refine K.out.mono ?_
  rintro e w2 ⟨rfl, rfl⟩
  clear K
  obtain ⟨n, hn⟩ : ∃ n, n = Lr.length := ⟨_, rfl⟩
  rw [← hn] at p1 hLn
  have HN := hid hn
  clear hn
  obtain ⟨i2, hk, hx0, hx1, hx2⟩ := info_parts info_int13
  obtain ⟨Z, hZ⟩ : ∃ Z, Z = madeCells (Value.int .i64 0).cells (n * 1) := ⟨_, rfl⟩
  have HZ := hid hZ
  have hmk : ∀ w' : World, (Instr.makeSlice 38 (.int .i64 (n : Int)) (.int .i64 (n : Int))).run Tryz.prog w' = .ok (.slice (some ⟨w'.heap.size, 0, none⟩) n n) (w'.alloc (.cells Z 3)) := fun w' => by
    have := run_makeSlice (P := Tryz.prog) (w := w') 38 3 i2 (.int .i64 0) Tryz.underlying38 hk hx0 .i64 .i64 n n (by omega) (by omega) (by rw [hx1]; omega) (by rw [hx2]; omega) (by omega)
    rw [hx1, Int.toNat_natCast, ← hZ] at this
    exact this
  clear hk hx0 hx1 hx2 hZ
  go_upto_region 4 with fail
  obtain ⟨nz, hnz⟩ : ∃ nz, nz = w2.heap.size := ⟨_, rfl⟩
  have HMO := hid (show ∀ (w' : World), nz ≤ w'.heap.size → (w'.alloc (.cells Z 3)).ownsRow nz 3 1 (.slice (some ⟨w'.heap.size, 0, none⟩) n n) n ((List.replicate n (0 : Int)).flatMap en1) from fun w' hw => by
    obtain ⟨i2, hk, hx0, hx1, hx2⟩ := info_parts info_int13
    obtain ⟨w'', h1, h2, h3⟩ := run_makeSlice_full (P := Tryz.prog) (w := w') nz 38 3 i2 (.int .i64 0) 1 Tryz.underlying38 hk hx0 hx1 .i64 .i64 n (by omega) (by rw [hx2]; omega) (by unfold maxLen; omega) hw
    rw [hmk w'] at h1
    simp only [Result.ok.injEq, true_and] at h1
    rw [made_zeros, ← h1] at h2
    exact h2)
  have HFR := hid (show ∀ (g1 g2 : Nat), (g1 = w2.heap.size ∧ g2 = w2.heap.size + 1 ∨ g1 = w2.heap.size + 1 ∧ g2 = w2.heap.size) → ∀ W : World, W = (((w2.alloc (.cells Z 3)).alloc (.cells Z 3)).alloc (.cells #[.int .i64 o, .int .i64 0, .bool false, .slice (some ⟨g1, 0, none⟩) n n, .slice (some ⟨g2, 0, none⟩) n n, .pointer (some ⟨RP, 0, none⟩)] 106)).drew →
      Below w2.heap.size w2 W ∧ Blk W (w2.heap.size + 1 + 1) 106 (inD RP (newV o n) ⟨some ⟨g1, 0, none⟩, n, some ⟨g2, 0, none⟩, n, none, 0⟩) ∧ W.ownsRow nz 3 1 (.slice (some ⟨g1, 0, none⟩) n n) n ((List.replicate n (0 : Int)).flatMap en1) ∧ W.ownsRow nz 3 1 (.slice (some ⟨g2, 0, none⟩) n n) n ((List.replicate n (0 : Int)).flatMap en1) ∧ nz ≤ w2.heap.size + 1 + 1 ∧ g1 ≠ g2 from by
    rintro g1 g2 hgg W rfl
    have hb1 : Below w2.heap.size w2 (w2.alloc (.cells Z 3)) := (Below.refl _ _).alloc (Nat.le_refl _) _
    have hm1 := HMO.out w2 (by omega)
    have hm2 := HMO.out (w2.alloc (.cells Z 3)) (by simp; omega)
    have hs1 : (w2.alloc (.cells Z 3)).heap.size = w2.heap.size + 1 := by simp
    rw [hs1] at hm2
    have hb2 : Below (w2.alloc (.cells Z 3)).heap.size (w2.alloc (.cells Z 3)) ((w2.alloc (.cells Z 3)).alloc (.cells Z 3)) := (Below.refl _ _).alloc (Nat.le_refl _) _
    have hm1' := own_next hm1 hb2
    have hs2 : ((w2.alloc (.cells Z 3)).alloc (.cells Z 3)).heap.size = w2.heap.size + 1 + 1 := by simp
    generalize hW2 : (w2.alloc (.cells Z 3)).alloc (.cells Z 3) = W2 at *
    have hB := Blk.new W2 106 #[.int .i64 o, .int .i64 0, .bool false, .slice (some ⟨g1, 0, none⟩) n n, .slice (some ⟨g2, 0, none⟩) n n, .pointer (some ⟨RP, 0, none⟩)]
    have hb3 : Below W2.heap.size W2 (W2.alloc (.cells #[.int .i64 o, .int .i64 0, .bool false, .slice (some ⟨g1, 0, none⟩) n n, .slice (some ⟨g2, 0, none⟩) n n, .pointer (some ⟨RP, 0, none⟩)] 106)).drew := ((Below.refl _ _).alloc (Nat.le_refl _) _).drew
    have hn1 := own_next hm1' hb3
    have hn2 := own_next hm2 hb3
    rw [hs2] at hB
    refine ⟨bthen (bthen hb1 hb2) hb3, ?_, ?_, ?_, by omega, by omega⟩
    · exact (hB.next (w' := (W2.alloc (.cells #[.int .i64 o, .int .i64 0, .bool false, .slice (some ⟨g1, 0, none⟩) n n, .slice (some ⟨g2, 0, none⟩) n n, .pointer (some ⟨RP, 0, none⟩)] 106)).drew) (Below.refl _ _).drew) |> fun h => by simpa [inD, newV] using h
    · rcases hgg with ⟨rfl, rfl⟩ | ⟨rfl, rfl⟩
      · exact hn1
      · exact hn2
    · rcases hgg with ⟨rfl, rfl⟩ | ⟨rfl, rfl⟩
      · exact hn2
      · exact hn1)
  have HNZ := hid hnz
  clear HMO hnz
  obtain ⟨i0, hi, hz0, hz1, hz2⟩ := info_parts info_dptr
  go_region
  · have HF := hid (HFR.out (w2.heap.size) (w2.heap.size + 1) (.inl ⟨rfl, rfl⟩) _ rfl)
    clear HFR hmk
    generalize (((w2.alloc (.cells Z 3)).alloc (.cells Z 3)).alloc (.cells #[.int .i64 o, .int .i64 0, .bool false, .slice (some ⟨w2.heap.size, 0, none⟩) n n, .slice (some ⟨w2.heap.size + 1, 0, none⟩) n n, .pointer (some ⟨RP, 0, none⟩)] 106)).drew = W at HF ⊢
    generalize w2.heap.size + 1 + 1 = J at HF ⊢
    have HBL := hid HF.out.1
    have HF2 := hid HF.out.2
    clear HF
    generalize w2.heap.size + 1 = g2 at HF2 ⊢
    generalize w2.heap.size = g1 at HF2 ⊢
    have HEW := hid (HE.out.next HBL.out)
    have HPW := hid (HP.out.next HBL.out)
    have r0 : W.cell? ⟨R, 0, none⟩ = some (.slice LA bs.length lc) := HEW.out.r.cell 0
    have lR := HEW.out.r.lt
    have HOL := hid HEW.out.own
    have hlow : n1 ≤ W.heap.size := by have := HEW.out.lo.1; omega
    have HSZ := hid HBL.out.size
    have HPZ := hid (And.intro HP.out.p.lt (And.intro (fun g (hg : (Value.slice SA Lr.length sc).ownBlock = some g) => (HP.out.os.lt g hg).2) (And.intro (fun b (hb : b ∈ bs) => by obtain ⟨v, l, RP, a, e⟩ := HE.out.inst b hb; exact a.lt) (show n1 ≤ w2.heap.size from by have := HE.out.lo.1; have := HE.out.r.lt; omega))))
    clear p1 lP
    go_wp2_with (at_builtin; refine wpList_push_at _ rfl _ _ 31 rfl n1 139 i0 _ 1 8 Tryz.underlying31 hi hz0 hz1 hz2 rfl (by decide) _ _ _ (by rfl) HOL.out #[.pointer (some ⟨J, 0, none⟩)] W.heap.size rfl (by rfl) (by rfl) (by rfl) (by unfold maxLen; omega) (by omega) hlow ?_; intro v' w3 hO4 hg4 hat4; obtain ⟨A', cap', rfl, _⟩ := own_slice hO4; have HFI := hid (dstart_fin (W := W) (w3 := w3) (by rw [HNZ.out]; exact HSZ.out) HEW.out HPW.out HAF.out.1 HAF.out.2 (by rw [HNZ.out]; exact HPZ.out.2.2.2) (by rw [HNZ.out]; exact HPZ.out.1) (by rw [HNZ.out]; exact HPZ.out.2.1) (by rw [HNZ.out]; exact HPZ.out.2.2.1) hLn HF2.out.1 HF2.out.2.1 HF2.out.2.2.1 HF2.out.2.2.2.1 HF2.out.2.2.2.2 hO4 hg4 _ rfl); have c3 : w3.cell? ⟨R, 0, none⟩ = some (.slice LA bs.length lc) := HFI.out.2.2.2.2.cell 0; have c4 : w3.cell? ⟨R, 1, none⟩ = some vO := HFI.out.2.2.2.2.cell 1; have f3 := HFI.out.2.2.2.2.free 0; have f4 := HFI.out.2.2.2.2.free 1; have l3 := HFI.out.2.2.2.2.lt; have HO4 := hid hO4; have HAT := hid hat4; clear hO4 hg4 hat4)
    generalize hW5 : (w3.setCell ⟨R, 0, none⟩ (.slice A' (bs.length + 1) cap')).setCell ⟨R, 1, none⟩ (.slice none 0 0) = W5 at HFI ⊢
    clear c3 c4 f3 f4 l3 hW5 r0 lR HOL
    have HNL := hid (show n = Ls.length from HN.out.trans HS.out.len)
    have KG := hid (dgoOn_any HFI.out.2.2.1 HFI.out.2.2.2.1 HS.out (show (newV o n).ms.length = Ls.length from by rw [← HNL.out]; simp [newV]) (newV_mk o n) (by simp [newV]))
    refine KG.out.mono ?_
    rintro e w9 ⟨rfl, l9, G9⟩
    clear KG
    have HG9 := hid G9
    have c1 : w9.cell? ⟨R, 1, none⟩ = some (.slice l9.OA (goV Ls Bs (newV o n)).out.length l9.oc) := G9.d.r.cell 1
    have l9' := G9.d.r.lt
    clear G9
    go_wp2_with fail
    go_ret2
    rw [← HNL.out]
    have hnz : nz = w2.heap.size := HNZ.out
    have hd := HG9.out.d
    refine ⟨J, A', cap', l9, _, _, rfl, ?_, hd, ?_, ?_, ?_⟩
    · refine dstart_end HFI.out.1 HFI.out.2.2.1.b ⟨_, _, _, _, _, _, HFI.out.2.2.1.m, rfl, rfl⟩ ⟨_, _, _, _, _, _, HFI.out.2.2.1.t, rfl, rfl⟩ hd HG9.out.t (by simp) (fun b hb => ?_)
      by_cases e : b = J
      · right
        rw [goV_ord, if_pos e]
        rfl
      · exact .inl e
    · refine ((Touch.of_below HBL.out).then HFI.out.2.1).trans HG9.out.t (fun k hk => ?_)
      rcases hk with hk | hk | hk | hk | hk
      · exact .inl (.inl hk)
      · right; have := HF2.out.2.2.2.1; omega
      · right; have := (HF2.out.2.1.lt k (by rw [hk]; rfl)).1; omega
      · right; have := (HF2.out.2.2.1.lt k (by rw [hk]; rfl)).1; omega
      · right
        have h1 := HBL.out.size
        have h2 := HFI.out.2.1.size
        omega
    · have := HF2.out.2.2.2.1; omega
    · intro g hg
      rcases HAT.out with h | h
      · exact .inl (by rw [← h]; exact hg)
      · right
        rw [h] at hg
        have h1 := HBL.out.size
        simp only [Option.some.injEq] at hg
        omega
  · have HF := hid (HFR.out (w2.heap.size + 1) (w2.heap.size) (.inr ⟨rfl, rfl⟩) _ rfl)
    clear HFR hmk
    generalize (((w2.alloc (.cells Z 3)).alloc (.cells Z 3)).alloc (.cells #[.int .i64 o, .int .i64 0, .bool false, .slice (some ⟨w2.heap.size + 1, 0, none⟩) n n, .slice (some ⟨w2.heap.size, 0, none⟩) n n, .pointer (some ⟨RP, 0, none⟩)] 106)).drew = W at HF ⊢
    generalize w2.heap.size + 1 + 1 = J at HF ⊢
    have HBL := hid HF.out.1
    have HF2 := hid HF.out.2
    clear HF
    generalize w2.heap.size + 1 = g1 at HF2 ⊢
    generalize w2.heap.size = g2 at HF2 ⊢
    have HEW := hid (HE.out.next HBL.out)
    have HPW := hid (HP.out.next HBL.out)
    have r0 : W.cell? ⟨R, 0, none⟩ = some (.slice LA bs.length lc) := HEW.out.r.cell 0
    have lR := HEW.out.r.lt
    have HOL := hid HEW.out.own
    have hlow : n1 ≤ W.heap.size := by have := HEW.out.lo.1; omega
    have HSZ := hid HBL.out.size
    have HPZ := hid (And.intro HP.out.p.lt (And.intro (fun g (hg : (Value.slice SA Lr.length sc).ownBlock = some g) => (HP.out.os.lt g hg).2) (And.intro (fun b (hb : b ∈ bs) => by obtain ⟨v, l, RP, a, e⟩ := HE.out.inst b hb; exact a.lt) (show n1 ≤ w2.heap.size from by have := HE.out.lo.1; have := HE.out.r.lt; omega))))
    clear p1 lP
    go_wp2_with (at_builtin; refine wpList_push_at _ rfl _ _ 31 rfl n1 139 i0 _ 1 8 Tryz.underlying31 hi hz0 hz1 hz2 rfl (by decide) _ _ _ (by rfl) HOL.out #[.pointer (some ⟨J, 0, none⟩)] W.heap.size rfl (by rfl) (by rfl) (by rfl) (by unfold maxLen; omega) (by omega) hlow ?_; intro v' w3 hO4 hg4 hat4; obtain ⟨A', cap', rfl, _⟩ := own_slice hO4; have HFI := hid (dstart_fin (W := W) (w3 := w3) (by rw [HNZ.out]; exact HSZ.out) HEW.out HPW.out HAF.out.1 HAF.out.2 (by rw [HNZ.out]; exact HPZ.out.2.2.2) (by rw [HNZ.out]; exact HPZ.out.1) (by rw [HNZ.out]; exact HPZ.out.2.1) (by rw [HNZ.out]; exact HPZ.out.2.2.1) hLn HF2.out.1 HF2.out.2.1 HF2.out.2.2.1 HF2.out.2.2.2.1 HF2.out.2.2.2.2 hO4 hg4 _ rfl); have c3 : w3.cell? ⟨R, 0, none⟩ = some (.slice LA bs.length lc) := HFI.out.2.2.2.2.cell 0; have c4 : w3.cell? ⟨R, 1, none⟩ = some vO := HFI.out.2.2.2.2.cell 1; have f3 := HFI.out.2.2.2.2.free 0; have f4 := HFI.out.2.2.2.2.free 1; have l3 := HFI.out.2.2.2.2.lt; have HO4 := hid hO4; have HAT := hid hat4; clear hO4 hg4 hat4)
    generalize hW5 : (w3.setCell ⟨R, 0, none⟩ (.slice A' (bs.length + 1) cap')).setCell ⟨R, 1, none⟩ (.slice none 0 0) = W5 at HFI ⊢
    clear c3 c4 f3 f4 l3 hW5 r0 lR HOL
    have HNL := hid (show n = Ls.length from HN.out.trans HS.out.len)
    have KG := hid (dgoOn_any HFI.out.2.2.1 HFI.out.2.2.2.1 HS.out (show (newV o n).ms.length = Ls.length from by rw [← HNL.out]; simp [newV]) (newV_mk o n) (by simp [newV]))
    refine KG.out.mono ?_
    rintro e w9 ⟨rfl, l9, G9⟩
    clear KG
    have HG9 := hid G9
    have c1 : w9.cell? ⟨R, 1, none⟩ = some (.slice l9.OA (goV Ls Bs (newV o n)).out.length l9.oc) := G9.d.r.cell 1
    have l9' := G9.d.r.lt
    clear G9
    go_wp2_with fail
    go_ret2
    rw [← HNL.out]
    have hnz : nz = w2.heap.size := HNZ.out
    have hd := HG9.out.d
    refine ⟨J, A', cap', l9, _, _, rfl, ?_, hd, ?_, ?_, ?_⟩
    · refine dstart_end HFI.out.1 HFI.out.2.2.1.b ⟨_, _, _, _, _, _, HFI.out.2.2.1.m, rfl, rfl⟩ ⟨_, _, _, _, _, _, HFI.out.2.2.1.t, rfl, rfl⟩ hd HG9.out.t (by simp) (fun b hb => ?_)
      by_cases e : b = J
      · right
        rw [goV_ord, if_pos e]
        rfl
      · exact .inl e
    · refine ((Touch.of_below HBL.out).then HFI.out.2.1).trans HG9.out.t (fun k hk => ?_)
      rcases hk with hk | hk | hk | hk | hk
      · exact .inl (.inl hk)
      · right; have := HF2.out.2.2.2.1; omega
      · right; have := (HF2.out.2.1.lt k (by rw [hk]; rfl)).1; omega
      · right; have := (HF2.out.2.2.1.lt k (by rw [hk]; rfl)).1; omega
      · right
        have h1 := HBL.out.size
        have h2 := HFI.out.2.1.size
        omega
    · have := HF2.out.2.2.2.1; omega
    · intro g hg
      rcases HAT.out with h | h
      · exact .inl (by rw [← h]; exact hg)
      · right
        rw [h] at hg
        have h1 := HBL.out.size
        simp only [Option.some.injEq] at hg
        omega
end

end Go.Proofs.YtoemmakhbiiknaaGreat

namespace Go.Proofs.YtoemmakhbiiknaaGreat
open Go.RowKit Go.WideShapes Go.ChangeShapes Go.ChangeAt Go.Deep
set_option linter.unusedVariables false

set_option maxRecDepth 100000 in
set_option maxHeartbeats 2000000 in
theorem cloneM_any (l : List Int) (A : Option Addr) (cap : Nat) (w : World) (hR : Rd w A (l.flatMap en1)) (hl : l.length * 8 ≤ 140737488355328) :
    Calls Tryz.prog 70 #[.slice A l.length cap] w (NewRowOf en1 71 1 l w) := by
  obtain ⟨i0, hi, hz0, hz1, hz2⟩ := info_parts info_mk13
  cases A with
  | none =>
    have hl0 : l = [] := by
      rcases hR with h | ⟨_, _, h, _⟩
      · cases l with
        | nil => rfl
        | cons x l => simp [en1] at h
      · cases h
    subst hl0
    have hnil : ∀ W, (binOp .eql 37 (.slice none 0 cap) (.slice none 0 0)).run Tryz.prog W = .ok (.bool true) W := fun W => Lib.run_eql_slice_nil_nil W _ _ Tryz.underlying37
    go_enter Tryz.func70, Tryz.ntmps70
    go_wp2_with fail
    go_ret
    exact ⟨none, 0, rfl, World.ownsRow_nil _ _ _ _, Below.refl _ _⟩
  | some a =>
    have hR1 := hid (hR.below ((Below.refl w.heap.size w).alloc (Nat.le_refl _) (.cells #[] 71)))
    have hO := hid (show (w.alloc (.cells #[] 71)).ownsRow w.heap.size 71 1 (.slice (some ⟨w.heap.size, 0, none⟩) 0 0) 0 [] from ⟨rfl, .inr ⟨w.heap.size, 0, #[], rfl, Nat.le_refl _, heap_alloc_new w _, Nat.le_refl _, Nat.zero_le _, rfl, rfl⟩⟩)
    have hnil : ∀ W, (binOp .eql 37 (.slice (some a) l.length cap) (.slice none 0 0)).run Tryz.prog W = .ok (.bool false) W := fun W => Lib.run_eql_slice_some_nil W _ _ _ Tryz.underlying37
    clear hR
    go_enter Tryz.func70, Tryz.ntmps70
    go_wp2_with (first
      | (at_builtin; refine wpList_append_own _ rfl _ _ 37 rfl w.heap.size 71 i0 _ 1 8 Tryz.underlying37 hi hz0 hz1 hz2 rfl (by decide) _ 0 [] (by rfl) hO.out a l.length cap (l.flatMap en1) (by rfl) (length_flatMap_const en1 1 en1_len l) ?_ (en1_one l) (by unfold maxLen; omega) (by omega) (by simp) ?_))
    · intro j u hu
      rcases hR1.out with h0 | ⟨b', off', hA, hlt, hc⟩
      · rw [h0] at hu; simp at hu
      · simp only [Option.some.injEq] at hA
        subst hA
        rw [add_plain]
        exact hc j u hu
    · intro v' w' h2 h3 _
      obtain ⟨A', cap', rfl, _⟩ := own_slice h2
      have hbb := hid (((Below.refl w.heap.size w).alloc (Nat.le_refl _) (.cells #[] 71)).grown h3 (by simp) (fun k hk => by simp [Value.ownBlock] at hk; omega))
      go_wp2_with fail
      go_ret
      exact ⟨A', cap', rfl, h2, hbb.out⟩

section
variable {base I : Nat} {vP : Value} {v : Iv} {l : Il} {w w' : World}
/-- What is saved, as a value. -/
def svC (o st : Int) (pd : Bool) (ms : List Int) (MA : Option Addr) (mc : Nat) (ts : List Int) (TA : Option Addr) (tc : Nat) : Array Value := #[.int .i64 o, .int .i64 st, .bool pd, .slice MA ms.length mc, .slice TA ts.length tc]
/-- What twin leaves. -/
def TwR (o st : Int) (pd : Bool) (ms ts : List Int) (w : World) (e : Ending) (w' : World) : Prop := ∃ MA mc TA tc, e = .returned (.agg (svC o st pd ms MA mc ts TA tc)) ∧ w'.ownsRow w.heap.size 71 1 (.slice MA ms.length mc) ms.length (ms.flatMap en1) ∧ w'.ownsRow w.heap.size 3 1 (.slice TA ts.length tc) ts.length (ts.flatMap en1) ∧ Below w.heap.size w w'
set_option maxRecDepth 100000 in
set_option maxHeartbeats 16000000 in
theorem etwin_any (o st : Int) (pd : Bool) (ms : List Int) (MA : Option Addr) (mc : Nat) (ts : List Int) (TA : Option Addr) (tc : Nat) (hm : Rd w MA (ms.flatMap en1)) (ht : Rd w TA (ts.flatMap en1)) (hml : ms.length ≤ 17592186044416) (htl : ts.length ≤ 17592186044416) :
    Calls Tryz.prog 29 #[.agg #[.int .i64 o, .int .i64 st, .bool pd, .slice MA ms.length mc, .slice TA ts.length tc]] w (TwR o st pd ms ts w) := by
  have hwa : Below w.heap.size w ((w.alloc (.cells #[.int .i64 o, .int .i64 st, .bool pd, .slice MA ms.length mc, .slice TA ts.length tc] 40)).alloc (.cells #[.int .i64 0, .int .i64 0, .bool false, .slice none 0 0, .slice none 0 0] 40)) := ((Below.refl _ _).alloc (Nat.le_refl _) _).alloc (by simp) _
  have hB0 := (Blk.new w 40 #[.int .i64 o, .int .i64 st, .bool pd, .slice MA ms.length mc, .slice TA ts.length tc]).alloc (.cells #[.int .i64 0, .int .i64 0, .bool false, .slice none 0 0, .slice none 0 0] 40)
  have hB1 := Blk.new (w.alloc (.cells #[.int .i64 o, .int .i64 st, .bool pd, .slice MA ms.length mc, .slice TA ts.length tc] 40)) 40 #[.int .i64 0, .int .i64 0, .bool false, .slice none 0 0, .slice none 0 0]
  rw [World.size_alloc] at hB1
  obtain ⟨W, hW⟩ : ∃ W, W = (w.alloc (.cells #[.int .i64 o, .int .i64 st, .bool pd, .slice MA ms.length mc, .slice TA ts.length tc] 40)).alloc (.cells #[.int .i64 0, .int .i64 0, .bool false, .slice none 0 0, .slice none 0 0] 40) := ⟨_, rfl⟩
  obtain ⟨G, hG⟩ : ∃ G, G = w.heap.size := ⟨_, rfl⟩
  rw [← hW] at hwa hB0 hB1
  rw [← hG] at hB0 hB1
  have HW := hid (And.intro hB0 (And.intro hB1 hwa))
  have HWG := hid (And.intro hW hG)
  have KM := hid (show ∀ w', Below W.heap.size W w' → Calls Tryz.prog 70 #[.slice MA ms.length mc] w' (NewRowOf en1 71 1 ms w') from fun w' hb => cloneM_any ms MA mc w' (hm.below (bthen hwa hb)) (by omega))
  have KI := hid (show ∀ w', Below W.heap.size W w' → Calls Tryz.prog 48 #[.slice TA ts.length tc] w' (NewRowOf en1 3 1 ts w') from fun w' hb => cloneI_any ts TA tc w' (ht.below (bthen hwa hb)) (by omega))
  have g3 : W.cell? ⟨G, 3, none⟩ = some (.slice MA ms.length mc) := hB0.cell 3
  have g4 : W.cell? ⟨G, 4, none⟩ = some (.slice TA ts.length tc) := hB0.cell 4
  have lG := hB0.lt
  have HD := hid (show Below W.heap.size W W.drew from (Below.refl _ _).drew)
  clear hwa hB0 hB1 hW hG hm ht
  go_enter Tryz.func29, Tryz.ntmps29
  go_upto_region 1 with fail
  rw [← HWG.out.1, ← HWG.out.2]
  go_region_with ((first
    | (go_at_call 70; refine (KM.out _ HD.out).mono ?_; rintro e w7 ⟨A7, c7, rfl, hO7, hb7⟩
       have HB7 := hid (HD.out.trans (hb7.mono HD.out.size))
       have HO7 := hid hO7
       have g37 : w7.cell? ⟨G, 3, none⟩ = some (.slice MA ms.length mc) := (HW.out.1.next HB7.out).cell 3
       have g47 : w7.cell? ⟨G, 4, none⟩ = some (.slice TA ts.length tc) := (HW.out.1.next HB7.out).cell 4
       have lG7 := (HW.out.1.next HB7.out).lt
       clear hO7 hb7)
    | (go_at_call 48; refine (KI.out _ HB7.out).mono ?_; rintro e w8 ⟨A8, c8, rfl, hO8, hb8⟩
       have HB8 := hid (HB7.out.trans (hb8.mono HB7.out.size))
       have HO8 := hid hO8
       have HO78 := hid (own_next HO7.out hb8)
       have g38 : w8.cell? ⟨G, 3, none⟩ = some (.slice MA ms.length mc) := (HW.out.1.next HB8.out).cell 3
       have g48 : w8.cell? ⟨G, 4, none⟩ = some (.slice TA ts.length tc) := (HW.out.1.next HB8.out).cell 4
       have f38 := (HW.out.1.next HB8.out).free 3
       have f48 := (HW.out.1.next HB8.out).free 4
       have lG8 := (HW.out.1.next HB8.out).lt
       clear hO8 hb8)))
  all_goals
    clear g3 g4 lG g37 g47 lG7 g38 g48 f38 f48 lG8 KM KI
    have hT9 := (Touch.setCell w8 G 3 (.slice A7 ms.length c7)).then (Touch.setCell (w8.setCell ⟨G, 3, none⟩ (.slice A7 ms.length c7)) G 4 (.slice A8 ts.length c8))
    have hB9 := ((HW.out.1.next HB8.out).set_ 3 (.slice A7 ms.length c7)).set_ 4 (.slice A8 ts.length c8)
    have hC9 := ((HW.out.2.1.next HB8.out).far (p := ⟨G, 3, none⟩) (by simp) (.slice A7 ms.length c7)).far (p := ⟨G, 4, none⟩) (by simp) (.slice A8 ts.length c8)
    have hM9 := own_touch HO78.out hT9 (fun g hg e => own_notBlk HO78.out (HW.out.1.next HB8.out) (by decide) (by rw [hg, e]))
    have hI9 := own_touch HO8.out hT9 (fun g hg e => own_notBlk HO8.out (HW.out.1.next HB8.out) (by decide) (by rw [hg, e]))
    have hb8 := bthen HW.out.2.2 HB8.out
    have hb9 := hb8.trans (hT9.below hb8.size (fun k hk => by rw [hk]; exact Nat.le_of_eq HWG.out.2.symm))
    generalize (w8.setCell ⟨G, 3, none⟩ (.slice A7 ms.length c7)).setCell ⟨G, 4, none⟩ (.slice A8 ts.length c8) = w9 at hT9 hB9 hC9 hM9 hI9 hb9 ⊢
    have hB9' : Blk w9 G 40 #[.int .i64 o, .int .i64 st, .bool pd, .slice A7 ms.length c7, .slice A8 ts.length c8] := hB9
    have q0 : w9.cell? ⟨G, 0, none⟩ = some (.int .i64 o) := hB9'.cell 0
    have q1 : w9.cell? ⟨G, 1, none⟩ = some (.int .i64 st) := hB9'.cell 1
    have q2 : w9.cell? ⟨G, 2, none⟩ = some (.bool pd) := hB9'.cell 2
    have q3 : w9.cell? ⟨G, 3, none⟩ = some (.slice A7 ms.length c7) := hB9'.cell 3
    have q4 : w9.cell? ⟨G, 4, none⟩ = some (.slice A8 ts.length c8) := hB9'.cell 4
    have lG := hB9'.lt
    have hT5 := Touch.setRow w9 (G + 1) #[.int .i64 o, .int .i64 st, .bool pd, .slice A7 ms.length c7, .slice A8 ts.length c8]
    have hC5 := hC9.setRow #[.int .i64 o, .int .i64 st, .bool pd, .slice A7 ms.length c7, .slice A8 ts.length c8]
    have hM5 := own_touch hM9 hT5 (fun g hg e => own_notBlk hM9 hC9 (by decide) (by rw [hg, e]))
    have hI5 := own_touch hI9 hT5 (fun g hg e => own_notBlk hI9 hC9 (by decide) (by rw [hg, e]))
    have hb5 := hb9.trans (hT5.below hb9.size (fun k hk => by rw [hk]; have := HWG.out.2; omega))
    obtain ⟨w5, hw5⟩ : ∃ w5, w5 = w9.setRow (G + 1) #[.int .i64 o, .int .i64 st, .bool pd, .slice A7 ms.length c7, .slice A8 ts.length c8] := ⟨_, rfl⟩
    rw [← hw5] at hC5 hM5 hI5 hb5
    have HW5 := hid hw5
    have HF := hid (And.intro hM5 (And.intro hI5 hb5))
    have r0 : w5.cell? ⟨G + 1, 0, none⟩ = some (.int .i64 o) := hC5.cell 0
    have r1 : w5.cell? ⟨G + 1, 1, none⟩ = some (.int .i64 st) := hC5.cell 1
    have r2 : w5.cell? ⟨G + 1, 2, none⟩ = some (.bool pd) := hC5.cell 2
    have r3 : w5.cell? ⟨G + 1, 3, none⟩ = some (.slice A7 ms.length c7) := hC5.cell 3
    have r4 : w5.cell? ⟨G + 1, 4, none⟩ = some (.slice A8 ts.length c8) := hC5.cell 4
    have lG5 := hC5.lt
    have HC9 := hid hC9
    clear hT5 hC5 hM5 hI5 hb5 hw5 hC9 hM9 hI9 hb9 hb8 hB9 hB9' hT9
    go_wp2_with (first
      | (refine wpList_store_row rfl 40 _ _ rfl (G + 1) #[.int .i64 o, .int .i64 st, .bool pd, .slice A7 ms.length c7, .slice A8 ts.length c8] rfl rfl 40 _ HC9.out (by kernel_rfl) (by rfl) (by simp [Value.oneCell']) ?_; rw [← HW5.out]))
    refine bodyPost_ret (v := .agg #[.int .i64 o, .int .i64 st, .bool pd, .slice A7 ms.length c7, .slice A8 ts.length c8]) (by simp [results, Tryz.results29, go_sem, r0, r1, r2, r3, r4]) rfl ?_
    have hsz := HW.out.2.2.size
    have hsz7 := Nat.le_trans hsz HB7.out.size
    exact ⟨A7, c7, A8, c8, rfl, own_base HF.out.1 hsz, own_base HF.out.2.1 hsz7, HF.out.2.2⟩
end

end Go.Proofs.YtoemmakhbiiknaaGreat

namespace Go.Proofs.YtoemmakhbiiknaaGreat
open Go.RowKit Go.WideShapes Go.ChangeShapes Go.ChangeAt Go.Deep
set_option linter.unusedVariables false

theorem step_store_row13 {P : Program} {ops : Array Oper} {o : Oper} {a : Act} {w : World} {K : Act → World → Prop} {Q : Exit → Act → World → Prop} {E : Prop} (hgd : o.guard = none) (ty : TypeId) (x y : Operand) (ho : o.op = .store ty x y)
    (g : Nat) (cells : Array Value) (hx : a.eval x = .pointer (some ⟨g, 0, none⟩)) (hy : a.eval y = .agg cells)
    (t : TypeId) (old : Array Value) (hg : w.heap[g]? = some (.cells old t (0, 0))) (hi : (P.info? ty).map (·.size) = some cells.size)
    (hold : old.size = cells.size) (h1 : cells.all (·.oneCell') = true)
    (h : K (a.put o.dst undef) (w.setRow g cells)) : if Region.wanted o (yielded ops a.tmps) = true then Oper.wp P o a w K Q else E := by
  have hw : Region.wanted o (yielded ops a.tmps) = true := by simp [Region.wanted, hgd]
  rw [if_pos hw]
  exact wp_store_row ty x y ho g cells hx hy t old hg hi hold h1 h
section
variable {base I P : Nat} {v : Iv} {l : Il} {w w' : World}
/-- What Get answers of an instance. -/
def GetR (P : Nat) (v : Iv) (w : World) (e : Ending) (w' : World) : Prop := ∃ MA mc TA tc, e = .returned (.tuple #[.agg (svC v.ord v.st v.paid v.ms MA mc v.ts TA tc), .pointer (some ⟨P, 0, none⟩), .bool true]) ∧ w'.ownsRow w.heap.size 71 1 (.slice MA v.ms.length mc) v.ms.length (v.ms.flatMap en1) ∧ w'.ownsRow w.heap.size 3 1 (.slice TA v.ts.length tc) v.ts.length (v.ts.flatMap en1) ∧ Below w.heap.size w w'
set_option maxRecDepth 100000 in
set_option maxHeartbeats 16000000 in
theorem get_some (h : IsI base I (.pointer (some ⟨P, 0, none⟩)) v l w) (xv : Value) (o : Int)
    (hat : ∀ w' : World, Below w.heap.size w w' → Calls Tryz.prog 28 #[xv, .int .i64 o] w' fun e w'' => e = .returned (.tuple #[.pointer (some ⟨I, 0, none⟩), .int .i64 0]) ∧ w'' = w') :
    Calls Tryz.prog 9 #[xv, .int .i64 o] w (GetR P v w) := by
  have hwa : Below w.heap.size w (w.alloc (.cells #[.int .i64 0, .int .i64 0, .bool false, .slice none 0 0, .slice none 0 0] 40)) := (Below.refl _ _).alloc (Nat.le_refl _) _
  have hB1 := Blk.new w 40 #[.int .i64 0, .int .i64 0, .bool false, .slice none 0 0, .slice none 0 0]
  obtain ⟨W, hW⟩ : ∃ W, W = w.alloc (.cells #[.int .i64 0, .int .i64 0, .bool false, .slice none 0 0, .slice none 0 0] 40) := ⟨_, rfl⟩
  obtain ⟨G, hG⟩ : ∃ G, G = w.heap.size := ⟨_, rfl⟩
  rw [← hW] at hwa hB1
  rw [← hG] at hB1
  have K := hid (hat W hwa)
  have hI := h.next hwa
  have HI := hid hI
  have HB := hid hB1
  have HWA := hid hwa
  have HWG := hid (And.intro hW hG)
  have HGI := hid (show G ≠ I from fun e => hB1.ne_ hI.b (by decide) e)
  obtain ⟨ord, ho⟩ : ∃ x, x = v.ord := ⟨_, rfl⟩
  obtain ⟨st, hs⟩ : ∃ x, x = v.st := ⟨_, rfl⟩
  obtain ⟨pd, hp⟩ : ∃ x, x = v.paid := ⟨_, rfl⟩
  obtain ⟨ms, hm⟩ : ∃ x, x = v.ms := ⟨_, rfl⟩
  obtain ⟨ts, ht⟩ : ∃ x, x = v.ts := ⟨_, rfl⟩
  have i0 : W.cell? ⟨I, 0, none⟩ = some (.int .i64 ord) := by rw [ho]; exact hI.b.cell 0
  have i1 : W.cell? ⟨I, 1, none⟩ = some (.int .i64 st) := by rw [hs]; exact hI.b.cell 1
  have i2 : W.cell? ⟨I, 2, none⟩ = some (.bool pd) := by rw [hp]; exact hI.b.cell 2
  have i3 : W.cell? ⟨I, 3, none⟩ = some (.slice l.MA ms.length l.mc) := by rw [hm]; exact hI.b.cell 3
  have i4 : W.cell? ⟨I, 4, none⟩ = some (.slice l.TA ts.length l.tc) := by rw [ht]; exact hI.b.cell 4
  have i5 : W.cell? ⟨I, 5, none⟩ = some (.pointer (some ⟨P, 0, none⟩)) := hI.b.cell 5
  have lI := hI.b.lt
  have lG := hB1.lt
  have KT := hid (etwin_any (w := W.drew) ord st pd ms l.MA l.mc ts l.TA l.tc (by rw [hm]; exact own_rd (hI.next (Below.refl _ _).drew).m) (by rw [ht]; exact own_rd (hI.next (Below.refl _ _).drew).t) (by rw [hm]; have := hI.n; omega) (by rw [ht, hI.tl]; have := hI.n; omega))
  have HGR : Hid (∀ e w', (∃ MA mc TA tc, e = .returned (.tuple #[.agg #[.int .i64 ord, .int .i64 st, .bool pd, .slice MA ms.length mc, .slice TA ts.length tc], .pointer (some ⟨P, 0, none⟩), .bool true]) ∧ w'.ownsRow w.heap.size 71 1 (.slice MA ms.length mc) ms.length (ms.flatMap en1) ∧ w'.ownsRow w.heap.size 3 1 (.slice TA ts.length tc) ts.length (ts.flatMap en1) ∧ Below w.heap.size w w') → GetR P v w e w') := hid (fun e w' hh => by subst ho hs hp hm ht; exact hh)
  have HD := hid (show Below W.heap.size W W.drew from (Below.refl _ _).drew)
  clear hwa hB1 hW hG hI h ho hs hp hm ht
  go_enter Tryz.func9, Tryz.ntmps9
  go_wp2_with fail
  rw [← HWG.out.1, ← HWG.out.2]
  refine K.out.mono ?_
  rintro e w1 ⟨rfl, rfl⟩
  clear K
  go_upto_region 4 with fail
  go_region_with ((first
    | (go_at_call 29; refine KT.out.mono ?_; rintro e w7 ⟨A7, c7, A8, c8, rfl, hO7, hO8, hb7⟩
       simp only [svC]
       have HB7 := hid (HD.out.trans (hb7.mono HD.out.size))
       have HO7 := hid (And.intro hO7 hO8)
       have HG7 := hid (HB.out.next HB7.out)
       have i57 : w7.cell? ⟨I, 5, none⟩ = some (.pointer (some ⟨P, 0, none⟩)) := (HI.out.next HB7.out).b.cell 5
       have lI7 := (HI.out.next HB7.out).b.lt
       have z0 : w7.cell? ⟨G, 0, none⟩ = some (.int .i64 0) := HG7.out.cell 0
       have z1 : w7.cell? ⟨G, 1, none⟩ = some (.int .i64 0) := HG7.out.cell 1
       have z2 : w7.cell? ⟨G, 2, none⟩ = some (.bool false) := HG7.out.cell 2
       have z3 : w7.cell? ⟨G, 3, none⟩ = some (.slice none 0 0) := HG7.out.cell 3
       have z4 : w7.cell? ⟨G, 4, none⟩ = some (.slice none 0 0) := HG7.out.cell 4
       have f0 := HG7.out.free 0
       have f1 := HG7.out.free 1
       have f2 := HG7.out.free 2
       have f3 := HG7.out.free 3
       have f4 := HG7.out.free 4
       have lG7 := HG7.out.lt
       have hGI := HGI.out
       clear hO7 hO8 hb7)))
  all_goals
    clear z0 z1 z2 z3 z4 f0 f1 f2 f3 f4 i0 i1 i2 i3 i4 i5 i57 lI7 lG7 KT lI lG
    have hT := ((((Touch.setCell w7 G 0 (.int .i64 ord)).then (Touch.setCell (w7.setCell ⟨G, 0, none⟩ (.int .i64 ord)) G 1 (.int .i64 st))).then (Touch.setCell ((w7.setCell ⟨G, 0, none⟩ (.int .i64 ord)).setCell ⟨G, 1, none⟩ (.int .i64 st)) G 2 (.bool pd))).then (Touch.setCell (((w7.setCell ⟨G, 0, none⟩ (.int .i64 ord)).setCell ⟨G, 1, none⟩ (.int .i64 st)).setCell ⟨G, 2, none⟩ (.bool pd)) G 3 (.slice A7 ms.length c7))).then (Touch.setCell ((((w7.setCell ⟨G, 0, none⟩ (.int .i64 ord)).setCell ⟨G, 1, none⟩ (.int .i64 st)).setCell ⟨G, 2, none⟩ (.bool pd)).setCell ⟨G, 3, none⟩ (.slice A7 ms.length c7)) G 4 (.slice A8 ts.length c8))
    have hBf := ((((HG7.out.set_ 0 (.int .i64 ord)).set_ 1 (.int .i64 st)).set_ 2 (.bool pd)).set_ 3 (.slice A7 ms.length c7)).set_ 4 (.slice A8 ts.length c8)
    have hM := own_touch HO7.out.1 hT (fun g hg e => own_notBlk HO7.out.1 HG7.out (by decide) (by rw [hg, e]))
    have hI := own_touch HO7.out.2 hT (fun g hg e => own_notBlk HO7.out.2 HG7.out (by decide) (by rw [hg, e]))
    have hb7 := bthen HWA.out HB7.out
    have hb9 := hb7.trans (hT.below hb7.size (fun k hk => by rw [hk]; exact Nat.le_of_eq HWG.out.2.symm))
    generalize (((((w7.setCell ⟨G, 0, none⟩ (.int .i64 ord)).setCell ⟨G, 1, none⟩ (.int .i64 st)).setCell ⟨G, 2, none⟩ (.bool pd)).setCell ⟨G, 3, none⟩ (.slice A7 ms.length c7)).setCell ⟨G, 4, none⟩ (.slice A8 ts.length c8)) = wf at hT hBf hM hI hb9 ⊢
    have hB' : Blk wf G 40 #[.int .i64 ord, .int .i64 st, .bool pd, .slice A7 ms.length c7, .slice A8 ts.length c8] := hBf
    have r0 : wf.cell? ⟨G, 0, none⟩ = some (.int .i64 ord) := hB'.cell 0
    have r1 : wf.cell? ⟨G, 1, none⟩ = some (.int .i64 st) := hB'.cell 1
    have r2 : wf.cell? ⟨G, 2, none⟩ = some (.bool pd) := hB'.cell 2
    have r3 : wf.cell? ⟨G, 3, none⟩ = some (.slice A7 ms.length c7) := hB'.cell 3
    have r4 : wf.cell? ⟨G, 4, none⟩ = some (.slice A8 ts.length c8) := hB'.cell 4
    have HF := hid (And.intro hM (And.intro hI hb9))
    clear hT hBf hM hI hb9 hb7 hB'
    go_wp2_with fail
    refine bodyPost_ret (v := .tuple #[.agg #[.int .i64 ord, .int .i64 st, .bool pd, .slice A7 ms.length c7, .slice A8 ts.length c8], .pointer (some ⟨P, 0, none⟩), .bool true]) (by simp [results, Tryz.results9, go_sem, r0, r1, r2, r3, r4]) rfl ?_
    have hsz := HWA.out.size
    exact HGR.out _ _ ⟨A7, c7, A8, c8, rfl, own_base HF.out.1 hsz, own_base HF.out.2.1 hsz, HF.out.2.2⟩
end

end Go.Proofs.YtoemmakhbiiknaaGreat

namespace Go.Proofs.YtoemmakhbiiknaaGreat
open Go.RowKit Go.WideShapes Go.ChangeShapes Go.ChangeAt Go.Deep
set_option linter.unusedVariables false

/-- The document's instance holds these. -/
structure DsI (J RP : Nat) (v : Iv) (l : Il) (w : World) : Prop where
  b : Blk w J 106 (inD RP v l)
  m : Rd w l.MA (v.ms.flatMap en1)
  t : Rd w l.TA (v.ts.flatMap en1)
theorem DsI.next {J RP : Nat} {v : Iv} {l : Il} {w w' : World} (h : DsI J RP v l w) (hb : Below w.heap.size w w') : DsI J RP v l w' := ⟨h.b.next hb, h.m.below hb, h.t.below hb⟩
set_option maxRecDepth 100000 in
set_option maxHeartbeats 32000000 in
theorem alike_any (v : Iv) (MA TA : Option Addr) (mc tc : Nat) (J RP : Nat) (l : Il) (w : World) (hd : DsI J RP v l w) (hm : Rd w MA (v.ms.flatMap en1)) (ht : Rd w TA (v.ts.flatMap en1)) (hn : v.ms.length ≤ 1000) (htl : v.ts.length = v.ms.length) :
    Calls Tryz.prog 59 #[.agg (svC v.ord v.st v.paid v.ms MA mc v.ts TA tc), .pointer (some ⟨J, 0, none⟩)] w fun e w' => e = .returned (.bool true) ∧ Below w.heap.size w w' := by
  have hb1 : Below w.heap.size w (w.alloc (.cells (svC v.ord v.st v.paid v.ms MA mc v.ts TA tc) 40)) := (Below.refl _ _).alloc (Nat.le_refl _) _
  have hB := Blk.new w 40 (svC v.ord v.st v.paid v.ms MA mc v.ts TA tc)
  obtain ⟨W, hW⟩ : ∃ W, W = w.alloc (.cells (svC v.ord v.st v.paid v.ms MA mc v.ts TA tc) 40) := ⟨_, rfl⟩
  obtain ⟨G, hG⟩ : ∃ G, G = w.heap.size := ⟨_, rfl⟩
  rw [← hW] at hb1 hB
  rw [← hG] at hB
  obtain ⟨C, hCd⟩ : ∃ C : World → Prop, ∀ w', C w' ↔ Below W.heap.size W w' := ⟨_, fun _ => Iff.rfl⟩
  have HCd := hid hCd
  have HW := hid (And.intro hW hG)
  have HB1 := hid hb1
  have HM := hid (hm.below hb1)
  have HTR := hid (ht.below hb1)
  have HD := hid (hd.next hb1)
  obtain ⟨vo, vs, vp, ms, ts, vu⟩ := v
  obtain ⟨n, hn0⟩ : ∃ n, n = ms.length := ⟨_, rfl⟩
  have hB' : Blk W G 40 #[.int .i64 vo, .int .i64 vs, .bool vp, .slice MA n mc, .slice TA n tc] := by rw [hn0]; simp only [svC] at hB; simp only at htl; rw [htl] at hB; exact hB
  have hJ' : Blk W J 106 #[.int .i64 vo, .int .i64 vs, .bool vp, .slice l.MA n l.mc, .slice l.TA n l.tc, .pointer (some ⟨RP, 0, none⟩)] := by
    have := HD.out.b
    simp only [inD] at this
    simp only at htl
    rw [hn0]
    rw [htl] at this
    exact this
  have HBB := hid hB'
  have HJJ := hid hJ'
  have HN := hid (And.intro hn0 htl)
  have hn' : n ≤ 1000 := by rw [hn0]; exact hn
  have g0 : ∀ p : In C, p.w.cell? ⟨G, 0, none⟩ = some (.int .i64 vo) := fun p => (hB'.next ((hCd _).1 p.h)).cell 0
  have g1 : ∀ p : In C, p.w.cell? ⟨G, 1, none⟩ = some (.int .i64 vs) := fun p => (hB'.next ((hCd _).1 p.h)).cell 1
  have g2 : ∀ p : In C, p.w.cell? ⟨G, 2, none⟩ = some (.bool vp) := fun p => (hB'.next ((hCd _).1 p.h)).cell 2
  have g3 : ∀ p : In C, p.w.cell? ⟨G, 3, none⟩ = some (.slice MA n mc) := fun p => (hB'.next ((hCd _).1 p.h)).cell 3
  have g4 : ∀ p : In C, p.w.cell? ⟨G, 4, none⟩ = some (.slice TA n tc) := fun p => (hB'.next ((hCd _).1 p.h)).cell 4
  have j0 : ∀ p : In C, p.w.cell? ⟨J, 0, none⟩ = some (.int .i64 vo) := fun p => (hJ'.next ((hCd _).1 p.h)).cell 0
  have j1 : ∀ p : In C, p.w.cell? ⟨J, 1, none⟩ = some (.int .i64 vs) := fun p => (hJ'.next ((hCd _).1 p.h)).cell 1
  have j2 : ∀ p : In C, p.w.cell? ⟨J, 2, none⟩ = some (.bool vp) := fun p => (hJ'.next ((hCd _).1 p.h)).cell 2
  have j3 : ∀ p : In C, p.w.cell? ⟨J, 3, none⟩ = some (.slice l.MA n l.mc) := fun p => (hJ'.next ((hCd _).1 p.h)).cell 3
  have j4 : ∀ p : In C, p.w.cell? ⟨J, 4, none⟩ = some (.slice l.TA n l.tc) := fun p => (hJ'.next ((hCd _).1 p.h)).cell 4
  have t1 : (vo != vo) = false := by simp
  have t2 : (vs != vs) = false := by simp
  have t3 : (vp != vp) = false := by simp
  have t4 : ((n : Int) != (n : Int)) = false := by simp
  have hCW : C W.drew := (hCd _).2 (Below.refl _ _).drew
  clear hW hG hb1 hm ht hd hn hB hJ' hB' hn0 htl hCd
  go_enter Tryz.func59, Tryz.ntmps59
  go_upto_region 1 with fail
  rw [← HW.out.1, ← HW.out.2]
  refine wp_region_in C (by kernel_rfl) (by kernel_rfl) hCW ?_
  intro hne
  clear hCW
  repeat (first | go_big_quiet_step (fail) | quiet_step (fail))
  refine wpQuiet_nil ?_
  intro wq hq
  have HQ := hid ((HCd.out _).1 hq)
  have j3q : wq.cell? ⟨J, 3, none⟩ = some (.slice l.MA n l.mc) := (HJJ.out.next HQ.out).cell 3
  have lJq := (HJJ.out.next HQ.out).lt
  clear g0 g1 g2 g3 g4 j0 j1 j2 j3 j4 t1 t2 t3 t4 hne hq
  go_wp2_with fail
  clear j3q lJq
  go_loopw [58] (fun i wr => ∃ k : Nat, k ≤ n ∧ i = .int .i64 k ∧ Hid (Below W.heap.size W wr)) (fun i _ => n - nOf i)
  case atStart => exact ⟨0, Nat.zero_le _, rfl, HQ⟩
  case round =>
    obtain ⟨k, hk, rfl, HBR⟩ := hrel
    by_cases hlt : k < n
    · have hk1 : k < ms.length := by have := HN.out.1; omega
      have hk2 : k < ts.length := by have h1 := HN.out.1; have h2 : ts.length = ms.length := HN.out.2; omega
      obtain ⟨m, hm⟩ : ∃ m, ms[k]? = some m := ⟨_, List.getElem?_eq_getElem hk1⟩
      obtain ⟨tq, htq⟩ : ∃ tq, ts[k]? = some tq := ⟨_, List.getElem?_eq_getElem hk2⟩
      obtain ⟨b1, o1, hA1, _, _⟩ := HM.out.at_ 1 (fun _ => rfl) (by omega) hm
      obtain ⟨b2, o2, hA2, _, _⟩ := HTR.out.at_ 1 (fun _ => rfl) (by omega) htq
      obtain ⟨b3, o3, hA3, _, _⟩ := HD.out.m.at_ 1 (fun _ => rfl) (by omega) hm
      obtain ⟨b4, o4, hA4, _, _⟩ := HD.out.t.at_ 1 (fun _ => rfl) (by omega) htq
      have hb0 : Below W.heap.size W wr := HBR.out
      have hx : ∀ {A : Option Addr} {l : List Int} {z : Int} {b o : Nat}, Rd W A (l.flatMap en1) → A = some ⟨b, o, none⟩ → l[k]? = some z → ∀ w', Below W.heap.size W w' → w'.cell? ⟨b, o + k, none⟩ = some (.int .i64 z) := fun {A l z b o} hr hA hz w' hb => by
        subst hA
        obtain ⟨b', o', e, _, hcc⟩ := (hr.below hb).at_ 1 (fun _ => rfl) (by omega) hz
        simp only [Option.some.injEq, Addr.mk.injEq, and_true] at e
        obtain ⟨rfl, rfl⟩ := e
        have := hcc 0 _ rfl
        rw [Nat.mul_one] at this
        exact this
      have x1 : ∀ p : In C, p.w.cell? ⟨b1, o1 + k, none⟩ = some (.int .i64 m) := fun p => hx HM.out hA1 hm _ ((HCd.out _).1 p.h)
      have x2 : ∀ p : In C, p.w.cell? ⟨b2, o2 + k, none⟩ = some (.int .i64 tq) := fun p => hx HTR.out hA2 htq _ ((HCd.out _).1 p.h)
      have x3 : ∀ p : In C, p.w.cell? ⟨b3, o3 + k, none⟩ = some (.int .i64 m) := fun p => hx HD.out.m hA3 hm _ ((HCd.out _).1 p.h)
      have x4 : ∀ p : In C, p.w.cell? ⟨b4, o4 + k, none⟩ = some (.int .i64 tq) := fun p => hx HD.out.t hA4 htq _ ((HCd.out _).1 p.h)
      have g3 : ∀ p : In C, p.w.cell? ⟨G, 3, none⟩ = some (.slice (some ⟨b1, o1, none⟩) n mc) := fun p => by rw [← hA1]; exact (HBB.out.next ((HCd.out _).1 p.h)).cell 3
      have g4 : ∀ p : In C, p.w.cell? ⟨G, 4, none⟩ = some (.slice (some ⟨b2, o2, none⟩) n tc) := fun p => by rw [← hA2]; exact (HBB.out.next ((HCd.out _).1 p.h)).cell 4
      have j3 : ∀ p : In C, p.w.cell? ⟨J, 3, none⟩ = some (.slice (some ⟨b3, o3, none⟩) n l.mc) := fun p => by rw [← hA3]; exact (HJJ.out.next ((HCd.out _).1 p.h)).cell 3
      have j4 : ∀ p : In C, p.w.cell? ⟨J, 4, none⟩ = some (.slice (some ⟨b4, o4, none⟩) n l.tc) := fun p => by rw [← hA4]; exact (HJJ.out.next ((HCd.out _).1 p.h)).cell 4
      have t1 : (m != m) = false := by simp
      have t2 : (tq != tq) = false := by simp
      have hCW : C wr.drew := (HCd.out _).2 hb0.drew
      clear hx hA1 hA2 hA3 hA4 hm htq hb0 hk1 hk2
      go_upto_region 6 with fail
      refine wp_region_in C (by kernel_rfl) (by kernel_rfl) hCW ?_
      intro hne
      clear hCW
      repeat (first | go_big_quiet_step (fail) | quiet_step (fail))
      refine wpQuiet_nil ?_
      intro wq2 hq2
      have HQ2 := hid ((HCd.out _).1 hq2)
      clear x1 x2 x3 x4 g3 g4 j3 j4 t1 t2 hne hq2
      go_wp2_with fail
      go_roundw
      case rel => exact ⟨k + 1, by omega, by go_num, HQ2⟩
      case measure => simp [nOf]; omega
    · have hk' : k = n := by omega
      subst hk'
      go_wp2_with fail
      go_ret
      exact ⟨rfl, bthen HB1.out HBR.out⟩

end Go.Proofs.YtoemmakhbiiknaaGreat

namespace Go.Proofs.YtoemmakhbiiknaaGreat
open Go.RowKit Go.MapKept Go.ChangeMaps
set_option linter.unusedVariables false

section
variable {κ ν : Type} {P : Program} {w w' : World} {r B : Nat} {kE : κ → Value} {vE : ν → Value} {m left : List (κ × ν)} {F : Fence} {n : Nat}

theorem IsMap.of_walks (h : IsMap w B kE vE m) (hk : KeepsWalks w w') : IsMap w' B kE vE m := by
  obtain ⟨es, clock, h1, h2, h3, h4, h5⟩ := h
  exact ⟨es, clock, hk.same B _ h1 rfl, h2, h3, h4, h5⟩
theorem IsIter.of_walks (h : IsIter w r B kE vE m left) (hk : KeepsWalks w w') : IsIter w' r B kE vE m left := by
  obtain ⟨es, clock, since, c0, seen, h1, h2, h3, h4, h5, h6, h7, h8, h9⟩ := h
  exact ⟨es, clock, since, c0, seen, hk.same B _ h1 rfl, h2, h3, h4, h5, h6, h7, hk.same r _ h8 rfl, h9⟩
theorem IsIter.iter_walk (h : IsIter w r B kE vE m left) : ∃ o : Obj, w.heap[r]? = some o ∧ o.isWalk = true := by
  obtain ⟨es, clock, since, c0, seen, _, _, _, _, _, _, _, h8, _⟩ := h
  exact ⟨_, h8, rfl⟩

theorem wpListIn_range_m {ops : Array Oper} {rest : List Oper} {o : Oper} {a : Act} {Q : Exit → Act → World → Prop} (w : World)
    (hg : o.guard = none) (mo : Operand) (mt kt et : TypeId) (hop : o.op = Op.range mt mo) (hm : P.underlying mt = some (.map kt et)) (B : Nat) (m : List (κ × ν)) (hM : a.eval mo = .map (some B)) (h : IsMap w B kE vE m)
    (hK : ∀ w', IsIter w' w.heap.size B kE vE m m → w.grownBy w' none → w'.heap.size = w.heap.size + 1 → wpListIn F n P ops Q rest (a.put o.dst (.pointer (some ⟨w.heap.size, 0, none⟩))) w') : wpListIn F n P ops Q (o :: rest) a w := by
  refine wpListIn_plain hg fun K' hK' => ?_
  obtain ⟨w', hrun, r1, r2, r3⟩ := h.range hm
  unfold Oper.wpIn
  refine ⟨?_, ?_⟩
  · simp [Oper.about, hop]
  · rw [Oper.semAt_plain F _ _ (by rw [hop]; intro c hc'; cases hc')]
    simp [execOp, hop, hM, hrun, Result.andThen]
    exact hK' _ _ (hK w' r1 ⟨r2.os, r2.tape, r2.output, by omega, fun i hi _ => r2.block i hi⟩ r3)

theorem wpListIn_next_m {ops : Array Oper} {rest : List Oper} {o : Oper} {a : Act} {Q : Exit → Act → World → Prop} (w : World)
    (hg : o.guard = none) (it : Operand) (hop : o.op = Op.next it false) (r B : Nat) (m left : List (κ × ν)) (hit : a.eval it = .pointer (some ⟨r, 0, none⟩)) (h : IsIter w r B kE vE m left)
    (hDone : left = [] → wpListIn F n P ops Q rest (a.put o.dst (.tuple #[.bool false])) w)
    (hMore : ∀ (k : κ) (v : ν) (left' : List (κ × ν)) (w' : World), left.Perm ((k, v) :: left') → IsIter w' r B kE vE m left' → w.grownBy w' (some r) → w'.heap.size = w.heap.size →
      (Instr.entry (.pointer (some ⟨r, 0, none⟩))).run P w' = .ok (.tuple #[kE k, vE v]) w' → wpListIn F n P ops Q rest (a.put o.dst (.tuple #[.bool true, kE k, vE v])) w') : wpListIn F n P ops Q (o :: rest) a w := by
  refine wpListIn_plain hg fun K' hK' => ?_
  unfold Oper.wpIn
  refine ⟨by simp [Oper.about, hop], ?_⟩
  rw [Oper.semAt_plain F _ _ (by rw [hop]; intro c hc'; cases hc')]
  rcases h.step (P := P) o.type with ⟨h0, hrun⟩ | ⟨k, v, left', w', hp, hrun, hi, hgr, hs, hen⟩
  · simp [execOp, hop, hit, hrun, Result.andThen]
    exact hK' _ _ (hDone h0)
  · simp [execOp, hop, hit, hrun, Result.andThen]
    exact hK' _ _ (hMore k v left' w' hp hi hgr hs hen)
end

end Go.Proofs.YtoemmakhbiiknaaGreat

namespace Go.Proofs
open Go.Shelf
def Tryz.sortedI_ren : Go.Shelf.Ren := ⟨fun | 6 => 54 | 8 => 84 | 9 => 66 | 11 => 108 | 13 => 95 | 12 => 94 | 23 => 121 | 24 => 122 | 14 => 112 | 15 => 113 | 16 => 114 | 17 => 115 | 18 => 116 | 19 => 117 | 20 => 118 | 21 => 119 | 22 => 120 | 25 => 130 | 26 => 131 | 27 => 132 | 28 => 133 | 29 => 134 | 30 => 135 | 31 => 144 | n => n, fun | 26 => 3 | 28 => 137 | 24 => 38 | 0 => 0 | 3 => 3 | 37 => 187 | 48 => 113 | 50 => 212 | 4 => 4 | 40 => 204 | 39 => 203 | 45 => 149 | 5 => 5 | 9 => 9 | 51 => 218 | 55 => 222 | 57 => 231 | 58 => 232 | 33 => 129 | n => n, fun | n => n⟩
theorem Tryz.sortedI : SlLaysZI.n6 Tryz.prog Tryz.sortedI_ren := {
  mixed := by kernel_rfl
  f6 := ⟨Tryz.f54.name, by decide, Tryz.func54.trans (congrArg some (by kernel_rfl))⟩
  f8 := ⟨Tryz.f84.name, by decide, Tryz.func84.trans (congrArg some (by kernel_rfl))⟩
  f11 := ⟨Tryz.f108.name, by decide, Tryz.func108.trans (congrArg some (by kernel_rfl))⟩
  t0 := Tryz.underlying0
  a0 := Tryz.isAgg0
  z0 := Tryz.sizeOf0
  v0 := Tryz.zeroValue0
  t24 := Tryz.underlying38
  a24 := Tryz.isAgg38
  z24 := Tryz.sizeOf38
  v24 := Tryz.zeroValue38
  t26 := Tryz.underlying3
  a26 := Tryz.isAgg3
  z26 := Tryz.sizeOf3
  v26 := Tryz.zeroValue3
  t28 := Tryz.underlying137
  a28 := Tryz.isAgg137
  z28 := Tryz.sizeOf137
  v28 := Tryz.zeroValue137
  i26 := by kernel_rfl
}
end Go.Proofs

namespace Go.Proofs.YtoemmakhbiiknaaGreat
open Go.RowKit Go.Maps Go.Sort
set_option linter.unusedVariables false

theorem sortsI (m : Nat) : AnyZI.SortsIn Tryz.prog Tryz.sortedI_ren Fence.wide m :=
  ⟨fun blk off cap ss W hH hblk hsz => callsIn_wide.2 (AnyM.slices_Sort_int Tryz.sortI blk off cap ss W hH hblk hsz),
   fun p cap W => callsIn_wide.2 (AnyM.slices_Sort_int_none Tryz.sortI p cap W)⟩
/-- The keys, sorted. -/
def srt (l : List Int) : List Int := l.mergeSort (fun x y => decide (x ≤ y))
theorem srt_perm (l : List Int) : (srt l).Perm l := List.mergeSort_perm _ _
theorem srt_sorted (l : List Int) : (srt l).Pairwise (fun a b => a ≤ b) := by
  have := List.pairwise_mergeSort (le := fun x y : Int => decide (x ≤ y)) (fun a b c h g => by simp only [decide_eq_true_eq] at *; omega) (fun a b => by simp only [Bool.or_eq_true, decide_eq_true_eq]; omega) l
  exact this.imp (fun h => by simpa using h)
theorem srt_rise {l : List Int} (hn : l.Nodup) : (srt l).Pairwise (fun a b => a < b) := by
  have h1 := srt_sorted l
  have h2 : (srt l).Nodup := (srt_perm l).nodup_iff.2 hn
  refine (h1.and h2).imp ?_
  rintro a b ⟨h, h'⟩
  omega

end Go.Proofs.YtoemmakhbiiknaaGreat

namespace Go.Proofs.YtoemmakhbiiknaaGreat
open Go.RowKit Go.Maps Go.Sort
set_option linter.unusedVariables false

set_option maxRecDepth 100000 in
set_option maxHeartbeats 2000000 in
theorem keys1_inE13 (F : Fence) (n : Nat) (hf : F.fn 85) (hro : F.round = none) (hn : 1 ≤ n) (l Bm b : Nat) (m : List (Int × Nat)) (J : List Int → World → Prop)
    (hY : ∀ pre x W, J pre W → pre.length < m.length → YieldAt F (n - 1) Tryz.prog l #[kE13 x] W fun e W' => e = .returned (.bool true) ∧ J (pre ++ [x]) W' ∧ KeepsWalks W W')
    (W : World) (hJ : AbidesFrom W.heap.size J) (hm : W.cell? ⟨Bm, 0, none⟩ = some (.map (some b))) (hM : IsMap W b kE13 pB m) (h0 : J [] W) :
    CallsIn F n Tryz.prog 85 #[.func (.yield l) #[] #[], .pointer (some ⟨Bm, 0, none⟩)] W fun e W' => (∃ v, e = .returned v) ∧ ∃ xs : List Int, xs.Perm (m.map (·.1)) ∧ J xs W' := by
  refine callsIn_of_wp Tryz.func85 rfl hf ?_ hro
  simp only [Tryz.ntmps85, List.size_toArray, List.length_cons, List.length_nil, Nat.reduceAdd, Nat.reduceSub, Array.replicate_succ, Array.replicate_zero, List.push_toArray, List.append_toArray, List.nil_append, List.cons_append]
  gi_wp2_with (first
    | (gi_at_range; refine wpListIn_range_m _ rfl _ 88 3 91 rfl Tryz.underlying88 b m rfl hM ?_; intro w0 hrg0 hg0 hs0)
    | gi_in)
  go_frame
  gi_loopw [3] (fun _ wr => ∃ (left ps : List (Int × Nat)), IsIter wr W.heap.size b kE13 pB m left ∧ (ps ++ left).Perm m ∧ J (ps.map (·.1)) wr)
    (fun _ wr => wr.rangeLeft b W.heap.size)
  case atStart =>
    exact ⟨m, [], hrg0, List.Perm.refl _, hJ [] W w0 none h0 hg0 (fun r e => by cases e)⟩
  case round =>
    obtain ⟨left, ps, hrg, hP, hJs⟩ := hrel
    gi_wp2_with (first
      | (gi_at_next; refine wpListIn_next_m _ rfl _ rfl W.heap.size b m left rfl hrg ?_ ?_)
      | gi_in)
    · intro hl0
      subst hl0
      gi_wp2
      go_end0
      exact ⟨⟨_, rfl⟩, ps.map (·.1), by rw [List.append_nil] at hP; exact hP.map _, hJs⟩
    · intro k v left' w2 hp hrg2 hg2 hs2 hen
      have hJ2 : J (ps.map (·.1)) w2 := hJ _ wr w2 (some W.heap.size) hJs hg2 (fun r e => by cases e; exact ⟨Nat.le_refl _, hrg.iter_walk⟩)
      have hlen : (ps.map (·.1)).length < m.length := by
        have h1 := hP.length_eq
        have h2 := hp.length_eq
        simp at h1 h2 ⊢
        omega
      obtain ⟨fn, tmps, assign, body, hy, hR⟩ := hY _ k _ hJ2 hlen
      clear hs2
      simp only [kE13] at hen hy
      gi_wp2
      refine hR.mono ?_
      rintro e W3 ⟨rfl, hJ4, hk4⟩
      gi_wp2
      have hrg4 := hrg2.of_walks hk4
      go_roundw
      case rel => exact ⟨left', ps ++ [(k, v)], hrg4, by rw [List.append_assoc]; exact ((hp.symm).append_left ps).trans hP, by simpa using hJ4⟩
      case measure => rw [hrg4.left_len, hrg.left_len]; have := hp.length_eq; simp at this; omega

theorem keys_givesE13 (F : Fence) (n : Nat) (hf : F.fn 85) (hro : F.round = none) (hn : 1 ≤ n) (Bm b : Nat) (m : List (Int × Nat)) (w : World) (hBm : Bm < w.heap.size)
    (hm : w.cell? ⟨Bm, 0, none⟩ = some (.map (some b))) (hM : IsMap w b kE13 pB m) :
    SeqGives F n Tryz.prog 85 #[.pointer (some ⟨Bm, 0, none⟩)] kE13 (fun xs => xs.Perm (m.map (·.1))) m.length w := fun l J W hW hJ hY h0 =>
  keys1_inE13 F n hf hro hn l Bm b m J hY W hJ ((hW.cell (p := ⟨Bm, 0, none⟩) hBm).trans hm) (hM.next hW) h0

set_option maxHeartbeats 1000000 in
theorem keysCall_inE13 (F : Fence) (n : Nat) (hf : F.fn 55) (hro : F.round = none) (mb : Option Nat) (w : World) :
    CallsIn F n Tryz.prog 55 #[.map mb] w fun e w' => e = .returned (.func (.func 85) #[] #[.pointer (some ⟨w.heap.size, 0, none⟩)]) ∧ w' = w.alloc (.cells #[.map mb] 88) := by
  refine callsIn_of_wp Tryz.func55 rfl hf ?_ hro
  simp only [Tryz.ntmps55, List.size_toArray, List.length_cons, List.length_nil, Nat.reduceAdd, Nat.reduceSub, Array.replicate_succ, Array.replicate_zero, List.push_toArray, List.append_toArray, List.nil_append, List.cons_append]
  gi_wp2
  go_ret
  exact ⟨rfl, rfl⟩

set_option maxRecDepth 100000 in
set_option maxHeartbeats 2000000 in
theorem sortedKeysE13 (w : World) (Bm b : Nat) (m : List (Int × Nat)) (hm : m.length * 8 ≤ 140737488351232) (hBm : Bm < w.heap.size) (hc : w.cell? ⟨Bm, 0, none⟩ = some (.map (some b))) (hM : IsMap w b kE13 pB m) :
    Calls Tryz.prog 54 #[.func (.func 85) #[] #[.pointer (some ⟨Bm, 0, none⟩)]] w fun e w' =>
      ∃ (v : Value) (ss : List Int), e = .returned v ∧ ss.Perm (m.map (·.1)) ∧ w'.ownsRow w.heap.size 3 1 v ss.length ((srt ss).map kE13) ∧ Below w.heap.size w w' := by
  refine (callsIn_wide (n := 5)).1 ?_
  have hseq : SeqGives Fence.wide 2 Tryz.prog 85 #[.pointer (some ⟨Bm, 0, none⟩)] kE13 (fun xs => xs.Perm (m.map (·.1))) m.length w := keys_givesE13 Fence.wide 2 trivial rfl (by omega) Bm b m w hBm hc hM
  have cS := AnyZI.sorted_in Tryz.sortedI Fence.wide 5 trivial trivial trivial trivial rfl (by omega) (sortsI _) (enters_of Tryz.func66 (by kernel_rfl) rfl) 85 #[.pointer (some ⟨Bm, 0, none⟩)] trivial (enters_of Tryz.func85 (by kernel_rfl) rfl) _ m.length (by unfold maxLen; omega) (by omega) w hseq
  exact cS.mono fun e w' ⟨v, ss, h1, h2, h3, _, h5⟩ => ⟨v, ss, h1, h2, h3, h5⟩

end Go.Proofs.YtoemmakhbiiknaaGreat

namespace Go.Proofs.YtoemmakhbiiknaaGreat
open Go.RowKit Go.WideShapes Go.ChangeShapes Go.ChangeAt Go.Deep Go.Maps Go.Sort
set_option linter.unusedVariables false

section
variable {n0 X M : Nat} {es : List (Int × Nat)} {w w' : World}
theorem ownsRow_low13 {n m : Nat} {t s : Nat} {v : Value} {k : Nat} {xs : List Value} (h : w.ownsRow n t s v k xs) (hm : m ≤ n) : w.ownsRow m t s v k xs := own_base h hm
/-- What Orders answers: the orders, rising. -/
def OrdR (es : List (Int × Nat)) (w : World) (e : Ending) (w' : World) : Prop := ∃ (A : Option Addr) (cap : Nat) (ids : List Int), e = .returned (.slice A ids.length cap) ∧ ids.Perm (es.map (·.1)) ∧ ids.Pairwise (fun a b => a < b) ∧ w'.ownsRow w.heap.size 3 1 (.slice A ids.length cap) ids.length (ids.map kE13) ∧ Below w.heap.size w w'
set_option maxRecDepth 100000 in
set_option maxHeartbeats 4000000 in
theorem orders_any (h : IsEng n0 X M es w) (hl : es.length * 8 ≤ 140737488351232) :
    Calls Tryz.prog 22 #[.pointer (some ⟨X, 0, none⟩)] w (OrdR es w) := by
  have c0 : w.cell? ⟨X, 0, none⟩ = some (.map (some M)) := h.blk.cell 0
  have lX := h.blk.lt
  have hb1 : Below w.heap.size w (w.alloc (.cells #[.map (some M)] 88)) := (Below.refl _ _).alloc (Nat.le_refl _) _
  have K := hid (sortedKeysE13 (w.alloc (.cells #[.map (some M)] 88)) w.heap.size M es hl (by simp) (by simp) (h.map.alloc _))
  have V := hid ((callsIn_wide (n := 6)).1 (keysCall_inE13 Fence.wide 6 trivial rfl (some M) w))
  have HND := hid h.map.nodup
  have HB1 := hid hb1
  clear h hb1
  go_enter Tryz.func22, Tryz.ntmps22
  go_wp2_with fail
  refine V.out.mono ?_
  rintro e w1 ⟨rfl, rfl⟩
  go_wp2_with fail
  refine K.out.mono ?_
  rintro e w2 ⟨v, ss, rfl, hp, hrow, hb2⟩
  have HB := hid (bthen HB1.out hb2)
  have hln : (srt ss).length = ss.length := (srt_perm ss).length_eq
  have HPM := hid ((srt_perm ss).trans hp)
  have HRS := hid (srt_rise (hp.nodup_iff.2 HND.out))
  have hrow' : w2.ownsRow w.heap.size 3 1 v ss.length ((srt ss).map kE13) := own_base hrow (by simp)
  clear K V hp hrow
  obtain ⟨A, cap, rfl, _⟩ := own_slice hrow'
  have HO := hid hrow'
  have HL := hid hln
  clear hrow' hln
  go_wp2_with fail
  go_ret
  exact ⟨A, cap, srt ss, by rw [HL.out]; rfl, HPM.out, HRS.out, by rw [HL.out]; exact HO.out, HB.out⟩
def livB (f : Int → Int) (o : Int) : Bool := f o == 0 || f o == 1
set_option maxRecDepth 100000 in
set_option maxHeartbeats 8000000 in
theorem live_any (h : IsEng n0 X M es w) (hl : es.length * 8 ≤ 140737488351232) (f : Int → Int) (hall : ∀ p ∈ es, ∃ base vP v l, IsI base p.2 vP v l w ∧ v.st = f p.1) :
    Calls Tryz.prog 20 #[.pointer (some ⟨X, 0, none⟩)] w fun e w' => e = .returned (.int .i64 (((es.map (·.1)).countP (livB f) : Nat) : Int)) ∧ Below w.heap.size w w' := by
  have K := hid (orders_any h hl)
  have HE := hid h
  have HALL := hid hall
  have HL := hid hl
  clear h hall hl
  go_enter Tryz.func20, Tryz.ntmps20
  go_wp2_with fail
  refine K.out.mono ?_
  rintro e w2 ⟨A, cap, ids, rfl, hpm, _, hO, hb⟩
  have HPM := hid hpm
  have HB := hid hb
  have HRd := hid (show Rd w2 A (ids.flatMap en1) from by rw [flat_en1]; exact own_rd hO)
  have hlen : ids.length * 8 ≤ 140737488351232 := by have h1 := hpm.length_eq; have h2 := HL.out; simp at h1; omega
  have HCN := hid (show (ids.countP (livB f)) = (es.map (·.1)).countP (livB f) from hpm.countP_eq _)
  clear K hpm hO hb
  go_wp2_with fail
  go_loopw [3, 5, 6, 10] (fun n _a _b i wr => ∃ k : Nat, k ≤ ids.length ∧ i = .int .i64 k ∧ n = .int .i64 (((ids.take k).countP (livB f) : Nat) : Int) ∧ wr = w2) (fun _n _a _b i _ => ids.length - nOf i)
  case atStart => exact ⟨0, Nat.zero_le _, rfl, rfl, rfl⟩
  case round =>
    obtain ⟨k, hk, rfl, rfl, rfl⟩ := hrel
    by_cases hlt : k < ids.length
    · obtain ⟨o, ho⟩ : ∃ o, ids[k]? = some o := ⟨ids[k], List.getElem?_eq_getElem hlt⟩
      obtain ⟨b, off, hAA, hbs, hcc⟩ := HRd.out.at_ 1 (fun _ => rfl) (by omega) ho
      subst hAA
      have q0 : wr.cell? ⟨b, off + k * 1, none⟩ = some (.int .i64 o) := hcc 0 _ rfl
      rw [Nat.mul_one] at q0
      have hE := HE.out.next HB.out
      have hom : o ∈ es.map (·.1) := HPM.out.mem_iff.1 (List.mem_of_getElem? ho)
      obtain ⟨p, hp, hpo⟩ := List.mem_map.1 hom
      have hg : mget es o = some p.2 := by rw [← hpo]; exact mget_of_mem HE.out.map.nodup hp
      obtain ⟨base, vP, v, l, hi, hst⟩ := HALL.out p hp
      have hLk := hE.look o
      rw [hg] at hLk
      simp only [pB] at hLk
      have hi2 := hi.next HB.out
      have c1 : wr.cell? ⟨p.2, 1, none⟩ = some (.int .i64 v.st) := hi2.b.cell 1
      have lI := hi2.b.lt
      have c0 : wr.cell? ⟨X, 0, none⟩ = some (.map (some M)) := hE.blk.cell 0
      have lX := hE.blk.lt
      have HTK := hid (take_succ_of ho)
      have HST := hid (show v.st = f o from by rw [hst, hpo])
      obtain ⟨st, hs⟩ : ∃ st, st = v.st := ⟨_, rfl⟩
      rw [← hs] at c1 HST
      have hcl : ((ids.take k).countP (livB f)) ≤ ids.length := Nat.le_trans List.countP_le_length (by simp; omega)
      have HLV := hid (show ((ids.take (k + 1)).countP (livB f)) = (ids.take k).countP (livB f) + (if livB f o = true then 1 else 0) from by rw [HTK.out, List.countP_append]; simp [List.countP_cons])
      generalize (ids.take k).countP (livB f) = cn at hcl HLV ⊢
      clear hcc ho hE hom hg hi hi2 hs hst hpo hp
      cases h0 : (st == 0) with
      | true =>
        have HZ := hid (show livB f o = true from by unfold livB; rw [← HST.out, h0]; rfl)
        go_wp2_with fail
        go_roundw
        case rel => exact ⟨k + 1, by omega, by go_num, by rw [HLV.out, if_pos HZ.out]; go_num, by trivial⟩
        case measure => simp [nOf]; omega
      | false =>
        cases h1 : (st == 1) with
        | true =>
          have HZ := hid (show livB f o = true from by unfold livB; rw [← HST.out, h0, h1]; rfl)
          go_wp2_with fail
          go_roundw
          case rel => exact ⟨k + 1, by omega, by go_num, by rw [HLV.out, if_pos HZ.out]; go_num, by trivial⟩
          case measure => simp [nOf]; omega
        | false =>
          have HZ := hid (show livB f o = false from by unfold livB; rw [← HST.out, h0, h1]; rfl)
          go_wp2_with fail
          go_roundw
          case rel => exact ⟨k + 1, by omega, by go_num, by rw [HLV.out, if_neg (by rw [HZ.out]; decide)]; rfl, by trivial⟩
          case measure => simp [nOf]; omega
    · have hk' : k = ids.length := by omega
      subst hk'
      have HTA := hid (show ids.take ids.length = ids from List.take_length)
      rw [HTA.out]
      go_wp2_with fail
      go_ret
      exact ⟨by rw [HCN.out]; rfl, HB.out⟩
end

end Go.Proofs.YtoemmakhbiiknaaGreat

namespace Go.Proofs.YtoemmakhbiiknaaGreat
open Go.RowKit Go.WideShapes Go.ChangeShapes Go.ChangeAt Go.Deep
set_option linter.unusedVariables false

set_option maxRecDepth 100000 in
set_option maxHeartbeats 32000000 in
theorem state_one {n0 X M I base b2 P R J RP n1 lc b3 sc : Nat} {nm : ByteArray} {vS vB vH vO : Value} {Ls Lr : List Stp} {Bs Hs : List IRow} {dn : Bool} {ask : Int} {v : Iv} {l lj : Il} {LA SA : Option Addr} {od : Nat → Int} (w : World) (hE : IsEng n0 X M [(v.ord, I)] w) (hI : IsI base I (.pointer (some ⟨P, 0, none⟩)) v l w) (hP : PlW b2 nm P vS vB vH Ls Bs Hs dn ask w) (hD : DEn n1 R LA lc [J] od vO w) (hod : od J = v.ord) (hJ : DsI J RP v lj w) (hRP : RpS b3 RP nm SA sc Lr w) :
    Calls Tryz.prog 24 #[.pointer (some ⟨X, 0, none⟩), .pointer (some ⟨R, 0, none⟩)] w fun e w' => e = .returned (.bool true) ∧ Below w.heap.size w w' := by
  have HE := hid hE
  have HI := hid hI
  have HP := hid hP
  have HD := hid hD
  have HJ := hid hJ
  have HRP := hid hRP
  have hn := hI.n
  have KO := hid (orders_any hE (by simp))
  clear hE hI hP hD hJ hRP
  go_enter Tryz.func24, Tryz.ntmps24
  go_wp2_with fail
  refine KO.out.mono ?_
  rintro e w1 ⟨A, cap, ids, rfl, hperm, _, hO, hb1⟩
  have hids : ids = [v.ord] := List.perm_singleton.1 hperm
  subst hids
  clear KO hperm
  have HB1 := hid hb1
  have HO := hid (show Rd w1 A ([v.ord].flatMap en1) from own_rd hO)
  have r0 : w1.cell? ⟨R, 0, none⟩ = some (.slice LA 1 lc) := (HD.out.next hb1).r.cell 0
  have lR := (HD.out.next hb1).r.lt
  have KL := hid (live_any (HE.out.next hb1) (by simp) (fun _ => v.st) (fun p hp => by
    obtain rfl : p = (v.ord, I) := by simpa using hp
    exact ⟨_, _, _, _, HI.out.next hb1, rfl⟩))
  obtain ⟨c, hc⟩ : ∃ c : Int, c = ((([(v.ord, I)].map (·.1)).countP (livB fun _ => v.st) : Nat) : Int) := ⟨_, rfl⟩
  rw [← hc] at KL
  have HC := hid hc
  clear hc hO hb1
  go_wp2_with fail
  refine KL.out.mono ?_
  rintro e w2 ⟨rfl, hb2⟩
  have HB2 := hid (bthen HB1.out hb2)
  clear r0 lR KL
  have hD2 := HD.out.next HB2.out
  have KD := hid (dlive_any R LA lc [J] (fun _ => v.st) w2 (hD2.r.cell 0) hD2.r.lt (own_rd hD2.own) (by simp) (fun b hb => by
    obtain rfl : b = J := by simpa using hb
    have := HJ.out.next HB2.out
    exact ⟨this.b.cell 1, this.b.lt⟩))
  rw [show (([J].countP (livS fun _ => v.st) : Nat) : Int) = c from by rw [HC.out]; simp [livS, livB, List.countP_cons]] at KD
  have HO2 := hid (HO.out.below hb2)
  have tc : (c != c) = false := by simp
  clear hD2 hb2
  go_wp2_with fail
  refine KD.out.mono ?_
  rintro e w3 ⟨rfl, rfl⟩
  go_wp2_with fail
  clear tc
  go_loopw [31] (fun i wr => ∃ k : Nat, k ≤ 1 ∧ i = .int .i64 k ∧ Hid (Below w3.heap.size w3 wr)) (fun i _ => 1 - nOf i)
  case atStart => exact ⟨0, by omega, rfl, hid (Below.refl _ _)⟩
  case round =>
    obtain ⟨k, hk, rfl, HBR⟩ := hrel
    by_cases hlt : k < 1
    · obtain rfl : k = 0 := by omega
      have HBA := hid (bthen HB2.out HBR.out)
      obtain ⟨b, off, hAA, _, hcc⟩ := (HO2.out.below HBR.out).at_ (l := [v.ord]) 1 (fun _ => rfl) (by omega) (k := 0) rfl
      have q0 : wr.cell? ⟨b, off, none⟩ = some (.int .i64 v.ord) := by simpa using hcc 0 _ rfl
      have HAA := hid hAA
      rw [hAA]
      have hDr := HD.out.next HBA.out
      have KF := hid (hDr.find v.ord (by simp))
      rw [show dfV od [J] v.ord = .pointer (some ⟨J, 0, none⟩) from by unfold dfV; simp [hod]; rfl] at KF
      have KG := hid (get_some (HI.out.next HBA.out) (.pointer (some ⟨X, 0, none⟩)) v.ord (fun w' hb' => by
        have := efind_any ((HE.out.next HBA.out).next hb') v.ord
        rw [show findV [(v.ord, I)] v.ord = (.pointer (some ⟨I, 0, none⟩), 0) from by unfold findV; simp [mget, pB]] at this
        exact this))
      clear hcc hDr hAA
      go_wp2_with fail
      refine KF.out.mono ?_
      rintro e w4 ⟨rfl, rfl⟩
      clear KF
      go_wp2_with fail
      refine KG.out.mono ?_
      rintro e w5 ⟨MA, mc, TA, tc', rfl, hm, ht, hb5⟩
      clear KG
      have HB5 := hid (bthen HBA.out hb5)
      have HM := hid (own_rd hm)
      have HT := hid (own_rd ht)
      have HBX := hid (bthen HBR.out hb5)
      clear hm ht hb5 q0
      rw [show svC v.ord v.st v.paid v.ms MA mc v.ts TA tc' = #[.int .i64 v.ord, .int .i64 v.st, .bool v.paid, .slice MA v.ms.length mc, .slice TA v.ts.length tc'] from rfl]
      have hB := Blk.new w5 40 #[.int .i64 v.ord, .int .i64 v.st, .bool v.paid, .slice MA v.ms.length mc, .slice TA v.ts.length tc']
      have hbW : Below w5.heap.size w5 (w5.alloc (.cells #[.int .i64 v.ord, .int .i64 v.st, .bool v.paid, .slice MA v.ms.length mc, .slice TA v.ts.length tc'] 40)) := (Below.refl _ _).alloc (Nat.le_refl _) _
      go_upto_region 9 with fail
      generalize w5.alloc (.cells #[.int .i64 v.ord, .int .i64 v.st, .bool v.paid, .slice MA v.ms.length mc, .slice TA v.ts.length tc'] 40) = W1 at hB hbW ⊢
      have HBW := hid (bthen HB5.out hbW)
      have HBZ := hid (bthen HBX.out hbW)
      have HMW := hid (HM.out.below hbW)
      have HTW := hid (HT.out.below hbW)
      generalize w5.heap.size = G at hB hbW ⊢
      obtain ⟨C, hCd⟩ : ∃ C : World → Prop, ∀ w', C w' ↔ Below W1.heap.size W1 w' := ⟨_, fun _ => Iff.rfl⟩
      have HCd := hid hCd
      have hCW : C W1.drew := (hCd _).2 (Below.refl _ _).drew
      have g0 : ∀ p : In C, p.w.cell? ⟨G, 0, none⟩ = some (.int .i64 v.ord) := fun p => (hB.next ((hCd _).1 p.h)).cell 0
      have g1 : ∀ p : In C, p.w.cell? ⟨G, 1, none⟩ = some (.int .i64 v.st) := fun p => (hB.next ((hCd _).1 p.h)).cell 1
      have g2 : ∀ p : In C, p.w.cell? ⟨G, 2, none⟩ = some (.bool v.paid) := fun p => (hB.next ((hCd _).1 p.h)).cell 2
      have g3 : ∀ p : In C, p.w.cell? ⟨G, 3, none⟩ = some (.slice MA v.ms.length mc) := fun p => (hB.next ((hCd _).1 p.h)).cell 3
      have g4 : ∀ p : In C, p.w.cell? ⟨G, 4, none⟩ = some (.slice TA v.ts.length tc') := fun p => (hB.next ((hCd _).1 p.h)).cell 4
      have j5 : ∀ p : In C, p.w.cell? ⟨J, 5, none⟩ = some (.pointer (some ⟨RP, 0, none⟩)) := fun p => ((HJ.out.next HBW.out).next ((hCd _).1 p.h)).b.cell 5
      have r0 : ∀ p : In C, p.w.cell? ⟨RP, 0, none⟩ = some (.string nm) := fun p => ((HRP.out.next HBW.out).next ((hCd _).1 p.h)).p.cell 0
      have O1 : Hid (∀ p : In C, Calls Tryz.prog 59 #[.agg #[.int .i64 v.ord, .int .i64 v.st, .bool v.paid, .slice MA v.ms.length mc, .slice TA v.ts.length tc'], .pointer (some ⟨J, 0, none⟩)] p.w fun e w' => e = .returned (.bool true) ∧ C w') :=
        hid (fun p => (alike_any v MA TA mc tc' J RP lj p.w ((HJ.out.next HBW.out).next ((hCd _).1 p.h)) (HMW.out.below ((hCd _).1 p.h)) (HTW.out.below ((hCd _).1 p.h)) hn HI.out.tl).mono fun _ _ ⟨e1, e2⟩ => ⟨e1, (hCd _).2 (bthen ((hCd _).1 p.h) e2)⟩)
      have O2 : Hid (∀ p : In C, Calls Tryz.prog 60 #[.pointer (some ⟨P, 0, none⟩)] p.w fun e w' => e = .returned (.string nm) ∧ C w') :=
        hid (fun p => (name_some ((HP.out.next HBW.out).next ((hCd _).1 p.h))).mono fun _ _ ⟨e1, e2⟩ => ⟨e1, by rw [e2]; exact p.h⟩)
      have t1 : (nm.toList == nm.toList) = true := by simp
      clear hCd hB hbW
      refine wp_region_in C (by kernel_rfl) (by kernel_rfl) hCW ?_
      intro hne
      clear hCW
      repeat (first | go_big_quiet_step ((first | (go_at_call 59; exact Calls.in_of (O1.out _)) | (go_at_call 60; exact Calls.in_of (O2.out _)))) | quiet_step ((first | (go_at_call 59; exact Calls.in_of (O1.out _)) | (go_at_call 60; exact Calls.in_of (O2.out _)))))
      refine wpQuiet_nil ?_
      intro wq hq
      have HQ := hid (bthen HBZ.out ((HCd.out _).1 hq))
      clear g0 g1 g2 g3 g4 j5 r0 O1 O2 t1 hne hq
      go_wp2_with fail
      go_roundw
      case rel => exact ⟨1, by omega, by go_num, HQ⟩
      case measure => simp [nOf]
    · have hk' : k = 1 := by omega
      subst hk'
      go_wp2_with fail
      go_ret
      exact ⟨rfl, bthen HB2.out HBR.out⟩

end Go.Proofs.YtoemmakhbiiknaaGreat

namespace Go.Proofs.YtoemmakhbiiknaaGreat
open Go.RowKit
set_option linter.unusedVariables false

theorem eqFields_same {P : Program} {d : Nat} {xs : Array Value} : ∀ (fs : List Field), (∀ f ∈ fs, ∃ v, (∀ w, (part f.type xs f.offset).run P w = .ok v w) ∧ ∀ w, (Op.equalIn d f.type v v).run P w = .ok true w) → ∀ w, (Op.eqFields d xs xs fs).run P w = .ok true w
  | [], _, w => by simp [Op.eqFields]
  | f :: fs, h, w => by
    obtain ⟨v, h1, h2⟩ := h f (by simp)
    simp only [Op.eqFields]
    split
    · simp [h1, h2]
      exact eqFields_same fs (fun g hg => h g (by simp [hg])) w
    · exact eqFields_same fs (fun g hg => h g (by simp [hg])) w

/-- A scalar's field, read out of a struct, is equal to itself. -/
def SameAt (P : Program) (xs : Array Value) (q : TypeId × Nat) : Prop := ∃ v, (∀ w, (part q.1 xs q.2).run P w = .ok v w) ∧ ∀ w, (Op.equalIn 9999 q.1 v v).run P w = .ok true w
theorem sameAt_int {P : Program} {xs : Array Value} {t : TypeId} {o : Nat} {k k' : IntKind} {n : Int} (hu : P.underlying t = some (.int k')) (ha : ∀ w, (isAgg t).run P w = .ok false w) (hx : xs[o]? = some (.int k n)) : SameAt P xs (t, o) :=
  ⟨.int k n, fun w => by unfold part; simp [ha, hx], fun w => by
    have := run_equalIn_int (P := P) w 9998 t k k' n n hu
    simpa using this⟩
theorem sameAt_bool {P : Program} {xs : Array Value} {t : TypeId} {o : Nat} {b : Bool} (hu : P.underlying t = some .bool) (ha : ∀ w, (isAgg t).run P w = .ok false w) (hx : xs[o]? = some (.bool b)) : SameAt P xs (t, o) :=
  ⟨.bool b, fun w => by unfold part; simp [ha, hx], fun w => by
    have := run_equalIn_bool' (P := P) w 9998 t b b hu
    simpa using this⟩
theorem sameAt_str {P : Program} {xs : Array Value} {t : TypeId} {o : Nat} {s : ByteArray} (hu : P.underlying t = some .string) (ha : ∀ w, (isAgg t).run P w = .ok false w) (hx : xs[o]? = some (.string s)) : SameAt P xs (t, o) :=
  ⟨.string s, fun w => by unfold part; simp [ha, hx], fun w => by
    have := run_equalIn_string (P := P) w 9998 t s s hu
    simpa using this⟩

theorem agg_same {P : Program} {t : TypeId} {xs : Array Value} {L : List (TypeId × Nat)} (ht : P.underlying t = some (.struct (P.fieldsOf t))) (hp : P.stoodInHeld t = false) (hL : (P.fieldsOf t).toList.map (fun f => (f.type, f.offset)) = L) (h : ∀ q ∈ L, SameAt P xs q) (w : World) :
    (Op.equalIn 10000 t (.agg xs) (.agg xs)).run P w = .ok true w := by
  have := run_equalIn_struct (P := P) w 9999 t xs xs ht hp
  rw [this]
  refine eqFields_same _ (fun f hf => ?_) w
  exact h (f.type, f.offset) (by rw [← hL]; exact List.mem_map.2 ⟨f, hf, rfl⟩)

end Go.Proofs.YtoemmakhbiiknaaGreat
