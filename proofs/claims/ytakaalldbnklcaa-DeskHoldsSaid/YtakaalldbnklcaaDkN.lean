/-
  The desk: New; the state of the laws about holds, and the calls at it.
-/
import Derived.Test.YtakaalldbnklcaaDk20
namespace Go.Proofs.Ytakaalldbnklcaa
open Go.RowKit Go.WideShapes Go.ChangeShapes Go.ChangeAt Go.Deep
set_option linter.unusedVariables false

theorem stockNew_any (w : World) : Calls Try.prog 18 #[] w fun e w' => (∃ X, e = .returned (.pointer (some ⟨X, 0, none⟩))) ∧ Below w.heap.size w w' := by
  have hmm := @run_makeMap Try.prog
  go_enter Try.func18, Try.ntmps18
  go_wp2_with fail
  go_ret
  exact ⟨⟨_, rfl⟩, (((Below.refl _ _).alloc (Nat.le_refl _) _).alloc (by simp) _).alloc (by simp; omega) _⟩
theorem ledgerNew_any (w : World) : Calls Try.prog 28 #[] w fun e w' => (∃ X, e = .returned (.pointer (some ⟨X, 0, none⟩))) ∧ Below w.heap.size w w' := by
  have hmm := @run_makeMap Try.prog
  go_enter Try.func28, Try.ntmps28
  go_wp2_with fail
  go_ret
  exact ⟨⟨_, rfl⟩, ((Below.refl _ _).alloc (Nat.le_refl _) _).alloc (by simp) _⟩
theorem cashNew_any (w : World) : Calls Try.prog 19 #[] w fun e w' => (∃ X, e = .returned (.pointer (some ⟨X, 0, none⟩))) ∧ Below w.heap.size w w' := by
  have hmm := @run_makeMap Try.prog
  go_enter Try.func19, Try.ntmps19
  go_wp2_with fail
  refine (ledgerNew_any _).mono ?_
  rintro e w1 ⟨⟨X, rfl⟩, hb⟩
  go_wp2_with fail
  go_ret
  exact ⟨⟨_, rfl⟩, ((hb.alloc hb.size _).alloc (by have := hb.size; simp; omega) _)⟩

theorem Or.IsBook.base {n0 n1 : Nat} {w : World} {X BP BO : Nat} {pr : List (Int × Int)} {os : List (Int × Or.Od)} (h : Or.IsBook n0 w X BP BO pr os) (hn : n1 ≤ n0) : Or.IsBook n1 w X BP BO pr os :=
  ⟨h.blk, h.prs, h.ods, fun p hp => by obtain ⟨h1, h2, h3⟩ := h.lns p hp; exact ⟨h1, Nat.le_trans hn h2, h3⟩, h.two, Nat.le_trans hn h.low.1, Nat.le_trans hn h.low.2.1, Nat.le_trans hn h.low.2.2⟩

set_option maxRecDepth 100000 in
set_option maxHeartbeats 4000000 in
theorem dnew_any (w : World) : Calls Try.prog 7 #[] w fun e w' => ∃ D XC BA BH XO BP BO XI BI XS XM, e = .returned (.pointer (some ⟨D, 0, none⟩)) ∧ DS w w' D XC BA BH XO BP BO XI BI XS XM [] [] [] [] [] := by
  go_enter Try.func7, Try.ntmps7
  go_wp2_with fail
  refine (Cr.new_any _).mono ?_
  rintro e w1 ⟨XC, BA, BH, rfl, hc, hb1, lA, lH, _⟩
  go_wp2_with fail
  refine (stockNew_any _).mono ?_
  rintro e w2 ⟨⟨XS, rfl⟩, hb2⟩
  go_wp2_with fail
  refine (cashNew_any _).mono ?_
  rintro e w3 ⟨⟨XM, rfl⟩, hb3⟩
  go_wp2_with fail
  refine (Or.new_any _).mono ?_
  rintro e w4 ⟨XO, BP, BO, rfl, ho, hb4⟩
  go_wp2_with fail
  refine (In.new_some _).mono ?_
  rintro e w5 ⟨XI, BI, rfl, hlo, hi, hb5, lB⟩
  have s1 := hb1.size
  have s2 := hb2.size
  have s3 := hb3.size
  have s4 := hb4.size
  have s5 := hb5.size
  have lP := ho.prs.lt
  have lO := ho.ods.lt
  have hP := ho.low.2.1
  have hO := ho.low.2.2
  have hc5 := ((((hc.next hb2).next hb3).next hb4).next hb5).alloc (.cells #[.pointer (some ⟨XC, 0, none⟩), .pointer (some ⟨XS, 0, none⟩), .pointer (some ⟨XM, 0, none⟩), .pointer (some ⟨XO, 0, none⟩), .pointer (some ⟨XI, 0, none⟩)] 32)
  have ho5 := ((Or.IsBook.base ho (n1 := w.heap.size) (by omega)).next hb5).alloc (.cells #[.pointer (some ⟨XC, 0, none⟩), .pointer (some ⟨XS, 0, none⟩), .pointer (some ⟨XM, 0, none⟩), .pointer (some ⟨XO, 0, none⟩), .pointer (some ⟨XI, 0, none⟩)] 32)
  have hi5 := hi.alloc (.cells #[.pointer (some ⟨XC, 0, none⟩), .pointer (some ⟨XS, 0, none⟩), .pointer (some ⟨XM, 0, none⟩), .pointer (some ⟨XO, 0, none⟩), .pointer (some ⟨XI, 0, none⟩)] 32)
  have hD := Blk.new w5 32 #[.pointer (some ⟨XC, 0, none⟩), .pointer (some ⟨XS, 0, none⟩), .pointer (some ⟨XM, 0, none⟩), .pointer (some ⟨XO, 0, none⟩), .pointer (some ⟨XI, 0, none⟩)]
  have hbl := hid ((bthen (bthen (bthen (bthen hb1 hb2) hb3) hb4) hb5).alloc (by omega) (.cells #[.pointer (some ⟨XC, 0, none⟩), .pointer (some ⟨XS, 0, none⟩), .pointer (some ⟨XM, 0, none⟩), .pointer (some ⟨XO, 0, none⟩), .pointer (some ⟨XI, 0, none⟩)] 32))
  have HM := hid (show BA ≠ BP ∧ BA ≠ BO ∧ BA ≠ BI ∧ BH ≠ BP ∧ BH ≠ BO ∧ BH ≠ BI ∧ BP ≠ BI ∧ BO ≠ BI from ⟨by omega, by omega, by omega, by omega, by omega, by omega, by omega, by omega⟩)
  have HL := hid (show w.heap.size ≤ BI from by omega)
  have HH := hid (And.intro hD (And.intro hc5 (And.intro ho5 hi5)))
  clear hc ho hi hb1 hb2 hb3 hb4 hb5 hc5 ho5 hi5 hD
  go_wp2_with fail
  go_ret
  exact ⟨_, XC, BA, BH, XO, BP, BO, XI, BI, XS, XM, rfl, HH.out.1, HH.out.2.1, HH.out.2.2.1, HH.out.2.2.2, HM.out, HL.out, hbl.out⟩

/-- The state of the laws about holds: orders up to ko are known, requests up to k are done. -/
structure HL (w0 w : World) (D XC BA BH XO BP BO XI BI XS XM : Nat) (ac : List (Int × Cr.Acc)) (hs : List (Int × Cr.Hd)) (pr : List (Int × Int)) (os : List (Int × Or.Od)) (m : List ((Int × Int) × In.Ent)) (lim sum ko k : Int) : Prop where
  ds : DS w0 w D XC BA BH XO BP BO XI BI XS XM ac hs pr os m
  pok : Or.PrOk pr
  acc : ∃ g, mget ac 1 = some ⟨g, lim, sum⟩
  noh : ∀ j, k < j → mget hs j = none
  noo : ∀ j, ko < j → mget os j = none
  nom : ∀ j, k < j → mget m (j, 0) = none
  four : ∀ p ∈ os, 1 ≤ p.2.ls.length ∧ p.2.ls.length ≤ 4
  rng : 0 ≤ sum ∧ sum ≤ lim ∧ lim ≤ 100000

def sale : ByteArray := ⟨#[115, 97, 108, 101]⟩
theorem isW_sale : isW sale = true := by decide
theorem sale_len : sale.size ≤ maxLen := by unfold maxLen; decide
theorem one_rd (w : World) (x : Ln) : Rd (w.alloc (.cells #[.int .i64 x.i, .int .i64 x.q] 45)) (some ⟨w.heap.size, 0, none⟩) ([x].flatMap enL) := by
  right
  refine ⟨w.heap.size, 0, rfl, by simp, fun j u hu => ?_⟩
  have hb := Blk.new w 45 #[.int .i64 x.i, .int .i64 x.q]
  rw [Nat.zero_add, hb.cell j]
  simpa [enL] using hu
theorem ordOk_one (id : Int) (h : 1 ≤ id ∧ id ≤ 256) : Or.OrdOk id 1 sale [⟨1, 1⟩] := by
  refine ⟨⟨h.1, h.2, by omega, by omega, isW_sale, by simp, by simp⟩, fun k x hx => ?_⟩
  cases k with
  | zero => simp at hx; subst hx; exact ⟨by decide, by decide, rfl⟩
  | succ k => simp at hx
theorem tot_one {p : Int} (h0 : 0 ≤ p) (h1 : p ≤ 1000000) : 0 ≤ netT [(1, p)] + taxT [(1, p)] ∧ netT [(1, p)] + taxT [(1, p)] ≤ 100000000 ∧ 0 ≤ netT [(1, p)] ∧ 0 ≤ taxT [(1, p)] := by
  have hf : fits [(1, p)] = true := by
    simp only [fits, List.length_cons, List.length_nil, List.all_cons, List.all_nil, Bool.and_true, Bool.and_eq_true, decide_eq_true_eq]
    exact ⟨⟨by omega, by omega⟩, lok_iff.2 ⟨by simp, by simp, h0, h1⟩⟩
  have en : netT [(1, p)] = p := by unfold netT; rw [if_pos hf]; simp [netOf, net1]
  have et : taxT [(1, p)] = (p * 20 + 50) / 100 := by unfold taxT; rw [if_pos hf]; simp [taxOf, tax1]
  rw [en, et]
  omega

section
variable {w0 w w' : World} {D XC BA BH XO BP BO XI BI XS XM : Nat} {ac ac' : List (Int × Cr.Acc)} {hs hs' : List (Int × Cr.Hd)} {pr pr' : List (Int × Int)} {os os' : List (Int × Or.Od)} {m m' : List ((Int × Int) × In.Ent)} {lim sum ko k : Int}
theorem HL.next (h : HL w0 w D XC BA BH XO BP BO XI BI XS XM ac hs pr os m lim sum ko k) (hb : Below w.heap.size w w') : HL w0 w' D XC BA BH XO BP BO XI BI XS XM ac hs pr os m lim sum ko k :=
  ⟨h.ds.next hb, h.pok, h.acc, h.noh, h.noo, h.nom, h.four, h.rng⟩
theorem hl_customer (h : DS w0 w D XC BA BH XO BP BO XI BI XS XM [] [] [] [] []) (lim : Int) (h0 : 0 ≤ lim) (h1 : lim ≤ 100000) :
    Calls Try.prog 8 #[.pointer (some ⟨XC, 0, none⟩), .int .i64 1, .int .i64 lim] w fun e w' => ∃ ac, e = .returned (.int .i64 0) ∧ HL w0 w' D XC BA BH XO BP BO XI BI XS XM ac [] [] [] [] lim 0 0 0 :=
  (Cr.customer_yes h.cr h.bel.size 1 lim ⟨by omega, by omega, h0, by omega⟩).mono fun e w' ⟨g, h1', _, h2, h3⟩ => ⟨_, h1', h.credit h2 h3, fun _ _ hp => by simp [mget] at hp, ⟨g, by unfold Cr.custAc; rw [mget_mset, if_pos rfl]; rfl⟩, fun _ _ => rfl, fun _ _ => rfl, fun _ _ => rfl, fun p hp => (by cases hp), by omega, h0, h1⟩
theorem hl_item (h : HL w0 w D XC BA BH XO BP BO XI BI XS XM ac hs pr os m lim sum ko k) (p : Int) (h0 : 0 ≤ p) (h1 : p ≤ 1000000) :
    Calls Try.prog 9 #[.pointer (some ⟨XO, 0, none⟩), .int .i64 1, .int .i64 p] w fun e w' => e = .returned (.int .i64 0) ∧ HL w0 w' D XC BA BH XO BP BO XI BI XS XM ac hs (mset pr 1 p) os m lim sum ko k :=
  (Or.item_yes h.ds.od 1 p ⟨by omega, by omega, h0, h1⟩).mono fun e w' ⟨e1, h2, h3⟩ => ⟨e1, h.ds.orders h2 h3, fun i q hq => by
    rw [mget_mset] at hq
    split at hq
    · injection hq with hq; subst hq; rename_i e; subst e; exact ⟨by omega, by omega, h0, h1⟩
    · exact h.pok i q hq, h.acc, h.noh, h.noo, h.nom, h.four, h.rng⟩
theorem hl_add (h : HL w0 w D XC BA BH XO BP BO XI BI XS XM ac hs pr os m lim sum ko k) (A : Option Addr) (hR : Rd w A ([(⟨1, 1⟩ : Ln)].flatMap enL)) (id : Int) (hid1 : 1 ≤ id ∧ id ≤ 256) (hko : ko < id) (p : Int) (hp : mget pr 1 = some p) :
    Calls Try.prog 10 #[.pointer (some ⟨XO, 0, none⟩), .int .i64 id, .int .i64 1, .string sale, .slice A 1 1] w fun e w' => ∃ o, e = .returned (.int .i64 0) ∧ HL w0 w' D XC BA BH XO BP BO XI BI XS XM ac hs pr (mset os id o) m lim sum id k ∧ (o.i = id ∧ o.c = 1 ∧ o.n = netT [(1, p)] ∧ o.t = taxT [(1, p)]) := by
  have hok := ordOk_one id hid1
  have hz : Or.errL pr os id 1 sale [⟨1, 1⟩] = 0 := Or.errL_ok hok (by simp [Or.knowB, hp]) (by rw [h.noo id hko]; rfl)
  have hpr : Or.prL pr [⟨1, 1⟩] = [(1, p)] := by simp [Or.prL, hp]
  have K := Or.add_yes h.ds.od h.pok id 1 sale A 1 [⟨1, 1⟩] sale_len hR (by simp) (by unfold maxLen; omega) h.ds.bel.size hz
  refine K.mono ?_
  rintro e w' ⟨o, e1, h2, o1, o2, o3, o4, o5, o6, h3⟩
  rw [hpr] at o5 o6
  refine ⟨o, e1, ⟨h.ds.orders h2 h3, h.pok, h.acc, h.noh, fun j hj => ?_, h.nom, fun q hq => ?_, h.rng⟩, o1, o2, o5, o6⟩
  · rw [mget_mset, if_neg (by omega)]
    exact h.noo j (by omega)
  · rcases mem_mset hq with rfl | ⟨hq', _⟩
    · simp only; rw [o4]; simp
    · exact h.four q hq'
theorem entAt_none {m : List ((Int × Int) × In.Ent)} {p : Int × Int} (h : mget m p = none) : In.entAt m p = ⟨0, 0, 0, 0, false⟩ := by unfold In.entAt; rw [h]; rfl
/-- A request to hold, the first time. -/
theorem hl_do (h : HL w0 w D XC BA BH XO BP BO XI BI XS XM ac hs pr os m lim sum ko k) (id : Int) (hid1 : 1 ≤ id) (hk : k < id) (o : Or.Od) (ho : mget os id = some o) (o1 : o.i = id) (o2 : o.c = 1) (hn0 : 0 ≤ o.n + o.t) (hn1 : o.n + o.t ≤ 100000000) :
    Calls Try.prog 6 #[.pointer (some ⟨D, 0, none⟩), .int .i64 id, .int .i64 0, .int .i64 1, .string vb0, .bool false] w fun e w' => ∃ c sum' ac' hs' m', e = .returned (vAns true c false false) ∧ HL w0 w' D XC BA BH XO BP BO XI BI XS XM ac' hs' pr os m' lim sum' ko id ∧ In.askF (In.entAt m' (id, 0)) 1 false = (1, c) ∧ ((c = 0 ∧ sum' = sum + (o.n + o.t) ∧ sum + (o.n + o.t) ≤ lim) ∨ (c = 140 ∧ sum' = sum ∧ lim < sum + (o.n + o.t))) ∧ (∀ g t cs, Blk w g t cs → t ≠ 72 → Blk w' g t cs) := by
  have hnm := h.nom id hk
  have hent := entAt_none hnm
  obtain ⟨g, hg⟩ := h.acc
  obtain ⟨r1, r2, r3⟩ := h.rng
  have hw1 : wrap64 (lim - sum) = lim - sum := by unfold wrap64; omega
  have hw2 : wrap64 (sum + (o.n + o.t)) = sum + (o.n + o.t) := by unfold wrap64; omega
  have hr : Cr.holdR ac hs o.i o.c (o.n + o.t) = if lim - sum < o.n + o.t then 140 else 0 := by
    unfold Cr.holdR
    rw [if_pos ⟨by omega, hn0, by omega⟩, o1, o2, hg, h.noh id hk]
    simp [hw1]
  have K := doHold_any h.ds h.four id 0 1 (by omega) (by rw [hent]; rfl) o ho ⟨by omega, by omega⟩
  refine K.mono ?_
  rintro e w' ⟨e1, ac', hs', hR, hD, hT⟩
  have hB : ∀ g t cs, Blk w g t cs → t ≠ 72 → Blk w' g t cs := fun g t cs hb ht => hT.blk hb (fun hk => by
    rcases hk with hk | hk
    · exact Cr.not_blk h.ds.cr hb ht hk
    · exact h.ds.ib.2.notBlk hb hk.symm)
  rw [hent] at hD
  have hkeep : ∀ c, In.keepE ⟨0, 0, 0, 0, false⟩ id 0 1 false c = ⟨id, 0, 1, c, false⟩ := fun c => by simp [In.keepE]
  rw [hkeep] at hD
  have hask : ∀ c, In.askF (In.entAt (mset m (id, 0) ⟨id, 0, 1, c, false⟩) (id, 0)) 1 false = (1, c) := fun c => by
    unfold In.entAt
    rw [mget_mset, if_pos rfl]
    simp [In.askF]
  have hnom : ∀ c j, id < j → mget (mset m (id, 0) ⟨id, 0, 1, c, false⟩) (j, 0) = none := fun c j hj => by
    rw [mget_mset, if_neg (by simp; omega)]
    exact h.nom j (by omega)
  by_cases hc : lim - sum < o.n + o.t
  · rw [if_pos hc] at hr
    rw [hr] at e1 hD
    rcases hR with ⟨_, rfl, rfl⟩ | ⟨h0, _⟩
    · exact ⟨140, sum, ac', hs', _, e1, ⟨hD, h.pok, ⟨g, hg⟩, fun j hj => h.noh j (by omega), h.noo, hnom _, h.four, r1, r2, r3⟩, hask _, .inr ⟨rfl, rfl, by omega⟩, hB⟩
    · rw [hr] at h0; cases h0
  · rw [if_neg hc] at hr
    rw [hr] at e1 hD
    rcases hR with ⟨h0, _⟩ | ⟨_, a, ha, _, rfl, rfl⟩
    · exact absurd hr h0
    · rw [o2, hg] at ha
      injection ha with ha
      subst ha
      simp only [hw2] at hD
      rw [o1, o2] at hD
      refine ⟨0, sum + (o.n + o.t), _, _, _, e1, ⟨hD, h.pok, ⟨g, by rw [mget_mset, if_pos rfl]⟩, fun j hj => ?_, h.noo, hnom _, h.four, by omega, by omega, r3⟩, hask _, .inl ⟨rfl, rfl, by omega⟩, hB⟩
      rw [mget_mset, if_neg (by omega)]
      exact h.noh j (by omega)
/-- .. and once more. -/
theorem hl_again (h : HL w0 w D XC BA BH XO BP BO XI BI XS XM ac hs pr os m lim sum ko k) (id c : Int) (ha : In.askF (In.entAt m (id, 0)) 1 false = (1, c)) :
    Calls Try.prog 6 #[.pointer (some ⟨D, 0, none⟩), .int .i64 id, .int .i64 0, .int .i64 1, .string vb0, .bool false] w fun e w' => e = .returned (vAns true c false false) ∧ Below w.heap.size w w' :=
  doKnown_any h.ds id 0 1 false vb0 c ha
theorem hl_exposure (h : HL w0 w D XC BA BH XO BP BO XI BI XS XM ac hs pr os m lim sum ko k) :
    Calls Try.prog 12 #[.pointer (some ⟨XC, 0, none⟩), .int .i64 1] w fun e w' => e = .returned (.tuple #[.int .i64 lim, .int .i64 sum, .bool true]) ∧ Below w.heap.size w w' := by
  obtain ⟨g, hg⟩ := h.acc
  have := Cr.exposure_any h.ds.cr 1
  unfold Cr.expF at this
  rw [hg] at this
  exact this
theorem hl_get (h : HL w0 w D XC BA BH XO BP BO XI BI XS XM ac hs pr os m lim sum ko k) (id : Int) (o : Or.Od) (ho : mget os id = some o) :
    Calls Try.prog 11 #[.pointer (some ⟨XO, 0, none⟩), .int .i64 id] w fun e w' => (∃ b cap, e = .returned (.tuple #[.agg #[.int .i64 o.i, .int .i64 o.c, .string o.f, .slice (some ⟨b, 0, none⟩) o.ls.length cap, .int .i64 o.n, .int .i64 o.t], .bool true])) ∧ Below w.heap.size w w' := by
  have G := Or.get_any h.ds.od h.four id
  refine G.mono ?_
  rintro e w' ⟨_, hg, hb⟩
  obtain ⟨b, cap, e1, _⟩ := hg o ho
  exact ⟨⟨b, cap, e1⟩, hb⟩
end

end Go.Proofs.Ytakaalldbnklcaa
