/-
  The walk of InboxRestores.
-/
import Derived.Test.YtidjkigkfefojaaRef08R
import Derived.Test.YtidjkigkfefojaaPlay08
namespace Go.Proofs.Ytidjkigkfefojaa
open Go.RowKit Go.WideShapes Go.ChangeShapes Go.ChangeAt Go.Deep
set_option linter.unusedVariables false

theorem goodL_lt {l : List Ent} (h : GoodL l) : l.Pairwise (fun a b => ltE a b = true) := by
  rw [List.pairwise_iff_getElem]
  intro i j hi hj hij
  have tr : ∀ a b c : Ent, ltE a b = true → ltE b c = true → ltE a c = true := swoE.trans
  have key : ∀ d (hd : i + d + 1 < l.length), ltE l[i] (l[i + d + 1]'hd) = true := by
    intro d
    induction d with
    | zero =>
      intro hd
      have hd2 : i + 1 < l.length := by omega
      exact (h (i + 1) hd2 (l[i + 1]'hd2) (List.getElem?_eq_getElem hd2)).2 (l[i]'hi) (by omega) (List.getElem?_eq_getElem hi)
    | succ d ih =>
      intro hd
      have h1 := ih (by omega)
      have hd2 : i + d + 2 < l.length := by omega
      have h2 := (h (i + d + 2) (by omega) (l[i + d + 2]'(by omega)) (List.getElem?_eq_getElem (by omega))).2 (l[i + d + 1]'(by omega)) (by omega) (by
        rw [show i + d + 2 - 1 = i + d + 1 from by omega]; exact List.getElem?_eq_getElem (by omega))
      exact tr _ _ _ h1 h2
  have := key (j - i - 1) (by omega)
  have e : i + (j - i - 1) + 1 = j := by omega
  simp only [e] at this
  exact this

theorem restM_map {l : List Ent} (hd : (l.map keyE).Nodup) : restM l = l.map (fun e => (keyE e, e)) := by
  have key : ∀ (l2 l1 : List Ent), ((l1 ++ l2).map keyE).Nodup → l2.foldl (fun m e => mset m (keyE e) e) (l1.map (fun e => (keyE e, e))) = (l1 ++ l2).map (fun e => (keyE e, e)) := by
    intro l2
    induction l2 with
    | nil => intro l1 _; simp
    | cons e l2 ih =>
      intro l1 hn
      rw [List.foldl_cons, mset_new (mget_none (by
        rw [List.map_map]
        intro hin
        have hin' : keyE e ∈ l1.map keyE := by simpa [Function.comp] using hin
        simp only [List.map_append, List.map_cons] at hn
        exact (List.nodup_append.1 hn).2.2 _ hin' _ (by simp) rfl))]
      have := ih (l1 ++ [e]) (by simpa using hn)
      simpa using this
  exact key l [] (by simpa using hd)

theorem goodL_rel {l : List Ent} (h : GoodL l) : RelM (restM l) l := by
  have hs := goodL_lt h
  have hsk : SortedK keyE ltP l := hs.imp (fun {a b} hab => by rw [← ltE_ltP]; exact hab)
  have hd := hsk.nodup linP
  have hm := restM_map hd
  have hk : (restM l).map (·.1) = l.map keyE := by rw [hm, List.map_map]; rfl
  refine ⟨?_, ?_, hsk, ?_, toE_key⟩
  · rw [hm]
    intro p hp
    obtain ⟨e, he, rfl⟩ := List.mem_map.1 hp
    obtain ⟨k, hk⟩ := List.mem_iff_getElem?.1 he
    exact ⟨rfl, (h k (List.getElem?_eq_some_iff.1 hk).1 e hk).1⟩
  · rw [hk]; exact hd
  · rw [hm, List.map_map]
    refine List.Perm.of_eq ?_
    conv => lhs; rw [← List.map_id l]
    exact List.map_congr_left fun e _ => rfl

theorem ask_nil (o s t : Int) (w : World) : Calls Try.prog 11 #[.pointer none, .int .i64 o, .int .i64 s, .int .i64 t, .bool true] w fun e w' => e = .returned (.tuple #[.int .i64 2, .int .i64 0]) ∧ w = w' := by
  go_enter Try.func11, Try.ntmps11
  go_wp2_with fail
  go_ret2
  exact ⟨rfl, rfl⟩
theorem keep_nil (o s t c : Int) (u : Bool) (w : World) : Calls Try.prog 12 #[.pointer none, .int .i64 o, .int .i64 s, .int .i64 t, .bool u, .int .i64 c] w fun e w' => e = .returned (.int .i64 1) ∧ w = w' := by
  go_enter Try.func12, Try.ntmps12
  go_wp2_with fail
  go_ret
  exact ⟨rfl, rfl⟩
theorem done_nil (o s : Int) (w : World) : Calls Try.prog 13 #[.pointer none, .int .i64 o, .int .i64 s] w fun e w' => e = .returned (.bool false) ∧ w = w' := by
  go_enter Try.func13, Try.ntmps13
  go_wp2_with fail
  go_ret
  exact ⟨rfl, rfl⟩
theorem list_nil (w : World) : Calls Try.prog 16 #[.pointer none] w fun e w' => e = .returned (.slice none 0 0) ∧ w = w' := by
  go_enter Try.func16, Try.ntmps16
  go_wp2_with fail
  go_ret
  exact ⟨rfl, rfl⟩

def okE5 (x : Ent) : Prop := I64 x.o ∧ I64 x.s ∧ I64 x.t ∧ I64 x.c
theorem decE5 (vs : List Value) (hl : vs.length = 5) (h : ∀ j, j < 5 → ∃ (u : Value) (k : SK), vs[j]? = some u ∧ ([SK.int .i64, .int .i64, .int .i64, .int .i64, .bool] : List SK)[j]? = some k ∧ k.ok u) : ∃ x : Ent, vs = enE5 x ∧ okE5 x := by
  match vs, hl with
  | [a, b, c, d, e], _ =>
    obtain ⟨u0, k0, a0, b0, c0⟩ := h 0 (by omega)
    obtain ⟨u1, k1, a1, b1, c1⟩ := h 1 (by omega)
    obtain ⟨u2, k2, a2, b2, c2⟩ := h 2 (by omega)
    obtain ⟨u3, k3, a3, b3, c3⟩ := h 3 (by omega)
    obtain ⟨u4, k4, a4, b4, c4⟩ := h 4 (by omega)
    simp at a0 b0 a1 b1 a2 b2 a3 b3 a4 b4
    subst a0 b0 a1 b1 a2 b2 a3 b3 a4 b4
    obtain ⟨n0, rfl, g0⟩ := c0
    obtain ⟨n1, rfl, g1⟩ := c1
    obtain ⟨n2, rfl, g2⟩ := c2
    obtain ⟨n3, rfl, g3⟩ := c3
    obtain ⟨p4, rfl⟩ := c4
    exact ⟨⟨n0, n1, n2, n3, p4⟩, rfl, g0, g1, g2, g3⟩

set_option maxRecDepth 100000 in
set_option maxHeartbeats 8000000 in
theorem inboxRestores_walk (hS : SortsAt Try.prog 24 (.func (.func 25) #[] #[]) enE5 5 ltE)
    (es : List Ent) (AE : Option Addr) (ce : Nat) (l : List Req) (A : Option Addr) (cp : Nat) (w : World) (hE : Rd w AE (es.flatMap enE5)) (hR : Rd w A (l.flatMap enR)) (he : es.length ≤ 1048576) (hl : l.length ≤ 1048576) :
    Calls Try.prog 7 #[.slice AE es.length ce, .slice A l.length cp] w (Law w) := by
  obtain ⟨i0, hi, hz0, hz1, hz2⟩ := info_parts info_ent
  cases AE with
  | none =>
    have hes : es = [] := by
      rcases hE with h | ⟨b, off, h, _⟩
      · cases es with
        | nil => rfl
        | cons x xs => simp [enE5] at h
      · cases h
    subst hes
    go_enter Try.func7, Try.ntmps7
    go_wp2_with fail
    refine (ask_nil _ _ _ _).mono ?_
    rintro e w0 ⟨rfl, rfl⟩
    go_wp2_with fail
    refine (wakes_any _).mono ?_
    rintro e w1 ⟨rfl, hb⟩
    go_wp2_with fail
    refine (keep_nil _ _ _ _ _ _).mono ?_
    rintro e w0 ⟨rfl, rfl⟩
    go_wp2_with fail
    refine (done_nil _ _ _).mono ?_
    rintro e w0 ⟨rfl, rfl⟩
    go_wp2_with fail
    refine (list_nil _).mono ?_
    rintro e w0 ⟨rfl, rfl⟩
    have hE2 : Rd w1 none (([] : List Ent).flatMap enE5) := .inl rfl
    have hb2 := hb
    go_wp2_with fail
    obtain ⟨Q, hQ⟩ : ∃ Q, Q = GoodL [] := ⟨_, rfl⟩
    refine (restore_any [] none 0 w1 hE2 (by first | omega | (simp <;> omega))).mono ?_
    rintro e w3 ⟨hP, hb3⟩
    have hb4 := bthen hb2 hb3
    have hE4 := hE.below hb4
    have hsz2 : w.heap.size ≤ w1.heap.size := hb2.size
    clear hE2 hb2
    have RF := hid (fun w hb => refl_any [] none ce w (hE4.below hb) (by first | omega | (simp <;> omega)))
    by_cases hg : GoodL []
    · obtain ⟨X, B, rfl, hwB, hwX, hbox⟩ := hP.1 hg
      have hrel := goodL_rel hg
      have HG := hid hg
      have hwB0 : w.heap.size ≤ B := by have := hb.size; omega
      clear hP hg hb3
      go_wp2_with fail
      refine (RF.out _ (Below.refl _ _)).mono ?_
      rintro e w5 ⟨A5, c5, rfl, hO5, hb5⟩
      obtain ⟨A6, c6, e6, hR6⟩ := rd_of_own hO5
      injection e6 with e7 e8 e9
      subst e7 e9
      replace hbox := hbox.next hb5
      replace hb4 := bthen hb4 hb5
      have hw5 : w.heap.size ≤ w5.heap.size := hb4.size
      clear RF hb5 hO5
      have RR := hid (rrestore_any [] A5 c5 w5 hR6 (by first | omega | (simp <;> omega)))
      go_wp2_with fail
      refine RR.out.mono ?_
      rintro e w6 ⟨hP6, hb6⟩
      obtain ⟨R, A7, c7, rfl, hRw, href⟩ := hP6.1 HG.out
      have hXl := hbox.1.lt
      have hBl := hbox.2.lt
      replace hbox := hbox.next hb6
      replace hb4 := bthen hb4 hb6
      have hRl := href.blk.lt
      clear RR hP6 hb6 hR6 hE4 hE
      have hAl := hid (alike_any hS w6 hbox href hrel (by first | omega | (simp <;> omega)))
      have hPl := hid (fun w7 (hb : Below w6.heap.size w6 w7) => play_any hS w l A cp hR w7 (hbox.next hb) (href.next hb) hrel (bthen hb4 hb) (by have := hb.size; omega) ⟨by omega, by omega, by omega, by omega⟩ hwB0 (by omega) (by omega) (by first | omega | (simp <;> omega)))
      clear hbox href hrel hb4 hXl hBl hRl hw5 hRw hwB hwX hwB0 hb hR
      go_wp2_with fail
      refine hAl.out.mono ?_
      rintro e w7 ⟨rfl, hb7⟩
      go_wp2_with fail
      refine (hPl.out w7 hb7).mono ?_
      rintro e w8 ⟨rfl, hb8⟩
      clear hAl hPl hb7
      go_wp2_with fail
      go_ret
      exact ⟨rfl, hb8⟩
    · obtain rfl := hP.2 hg
      have HG := hid hg
      clear hP hg hb3
      go_wp2_with fail
      refine (RF.out _ (Below.refl _ _)).mono ?_
      rintro e w5 ⟨A5, c5, rfl, hO5, hb5⟩
      obtain ⟨A6, c6, e6, hR6⟩ := rd_of_own hO5
      injection e6 with e7 e8 e9
      subst e7 e9
      replace hb4 := bthen hb4 hb5
      clear RF hb5 hO5
      have RR := hid (rrestore_any [] A5 c5 w5 hR6 (by first | omega | (simp <;> omega)))
      go_wp2_with fail
      refine RR.out.mono ?_
      rintro e w6 ⟨hP6, hb6⟩
      obtain rfl := hP6.2 HG.out
      replace hb4 := bthen hb4 hb6
      clear RR hP6 hb6 hR6 hE4 hE
      go_wp2_with fail
      go_ret
      exact ⟨rfl, hb4⟩
  | some a =>
    go_enter Try.func7, Try.ntmps7
    go_wp2_with fail
    refine (ask_nil _ _ _ _).mono ?_
    rintro e w0 ⟨rfl, rfl⟩
    go_wp2_with fail
    refine (wakes_any _).mono ?_
    rintro e w1 ⟨rfl, hb⟩
    go_wp2_with fail
    refine (keep_nil _ _ _ _ _ _).mono ?_
    rintro e w0 ⟨rfl, rfl⟩
    go_wp2_with fail
    refine (done_nil _ _ _).mono ?_
    rintro e w0 ⟨rfl, rfl⟩
    go_wp2_with fail
    refine (list_nil _).mono ?_
    rintro e w0 ⟨rfl, rfl⟩
    have hE1 := hE.below hb
    have hnews : ∀ j u, (es.flatMap enE5)[j]? = some u → w1.cell? (a.add j) = some u := by
      intro j u hu
      rcases hE1 with h | ⟨b, off, h, hlt, hc⟩
      · rw [h] at hu; simp at hu
      · injection h with h
        subst h
        rw [add_plain]
        exact hc j u hu
    have hone : ∀ u ∈ es.flatMap enE5, u.oneCell' = true := by
      intro u hu
      obtain ⟨x, _, hx⟩ := List.mem_flatMap.1 hu
      exact enE5_one x u hx
    have hnl := length_flatMap_const enE5 5 enE5_len es
    have HH := hid (And.intro hnews (And.intro hone hnl))
    clear hnews hone hnl hE1
    go_wp2_with (first
      | (at_builtin; refine wpList_append_own _ rfl _ _ 47 rfl w1.heap.size 58 i0 _ 5 40 Try.underlying47 hi hz0 hz1 hz2 rfl (by decide) _ 0 [] (by rfl) (World.ownsRow_nil _ _ _ _) a es.length ce (es.flatMap enE5) (by rfl) HH.out.2.2 HH.out.1 HH.out.2.1 (by unfold maxLen; omega) (by omega) (Nat.le_refl _) ?_; intro v' w2 hO2 hg2 _; obtain ⟨A2, c2, rfl, hE2⟩ : ∃ A2 c2, v' = .slice A2 es.length c2 ∧ Rd w2 A2 (es.flatMap enE5) := (by rw [Nat.zero_add, List.nil_append] at hO2; exact rd_of_own hO2); have hb2 : Below w.heap.size w w2 := (bthen hb (by exact (Below.refl _ _).grown hg2 (Nat.le_refl _) (fun k hk => by simp [Value.ownBlock] at hk))); clear hO2 hg2 HH))
    obtain ⟨Q, hQ⟩ : ∃ Q, Q = GoodL es := ⟨_, rfl⟩
    refine (restore_any es A2 c2 w2 hE2 (by first | omega | (simp <;> omega))).mono ?_
    rintro e w3 ⟨hP, hb3⟩
    have hb4 := bthen hb2 hb3
    have hE4 := hE.below hb4
    have hsz2 : w.heap.size ≤ w2.heap.size := hb2.size
    clear hE2 hb2
    have RF := hid (fun w hb => refl_any es (some a) ce w (hE4.below hb) (by first | omega | (simp <;> omega)))
    by_cases hg : GoodL es
    · obtain ⟨X, B, rfl, hwB, hwX, hbox⟩ := hP.1 hg
      have hrel := goodL_rel hg
      have HG := hid hg
      have hwB0 : w.heap.size ≤ B := by have := hb.size; omega
      clear hP hg hb3
      go_wp2_with fail
      refine (RF.out _ (Below.refl _ _)).mono ?_
      rintro e w5 ⟨A5, c5, rfl, hO5, hb5⟩
      obtain ⟨A6, c6, e6, hR6⟩ := rd_of_own hO5
      injection e6 with e7 e8 e9
      subst e7 e9
      replace hbox := hbox.next hb5
      replace hb4 := bthen hb4 hb5
      have hw5 : w.heap.size ≤ w5.heap.size := hb4.size
      clear RF hb5 hO5
      have RR := hid (rrestore_any es A5 c5 w5 hR6 (by first | omega | (simp <;> omega)))
      go_wp2_with fail
      refine RR.out.mono ?_
      rintro e w6 ⟨hP6, hb6⟩
      obtain ⟨R, A7, c7, rfl, hRw, href⟩ := hP6.1 HG.out
      have hXl := hbox.1.lt
      have hBl := hbox.2.lt
      replace hbox := hbox.next hb6
      replace hb4 := bthen hb4 hb6
      have hRl := href.blk.lt
      clear RR hP6 hb6 hR6 hE4 hE
      have hAl := hid (alike_any hS w6 hbox href hrel (by first | omega | (simp <;> omega)))
      have hPl := hid (fun w7 (hb : Below w6.heap.size w6 w7) => play_any hS w l A cp hR w7 (hbox.next hb) (href.next hb) hrel (bthen hb4 hb) (by have := hb.size; omega) ⟨by omega, by omega, by omega, by omega⟩ hwB0 (by omega) (by omega) (by first | omega | (simp <;> omega)))
      clear hbox href hrel hb4 hXl hBl hRl hw5 hRw hwB hwX hwB0 hb hR
      go_wp2_with fail
      refine hAl.out.mono ?_
      rintro e w7 ⟨rfl, hb7⟩
      go_wp2_with fail
      refine (hPl.out w7 hb7).mono ?_
      rintro e w8 ⟨rfl, hb8⟩
      clear hAl hPl hb7
      go_wp2_with fail
      go_ret
      exact ⟨rfl, hb8⟩
    · obtain rfl := hP.2 hg
      have HG := hid hg
      clear hP hg hb3
      go_wp2_with fail
      refine (RF.out _ (Below.refl _ _)).mono ?_
      rintro e w5 ⟨A5, c5, rfl, hO5, hb5⟩
      obtain ⟨A6, c6, e6, hR6⟩ := rd_of_own hO5
      injection e6 with e7 e8 e9
      subst e7 e9
      replace hb4 := bthen hb4 hb5
      clear RF hb5 hO5
      have RR := hid (rrestore_any es A5 c5 w5 hR6 (by first | omega | (simp <;> omega)))
      go_wp2_with fail
      refine RR.out.mono ?_
      rintro e w6 ⟨hP6, hb6⟩
      obtain rfl := hP6.2 HG.out
      replace hb4 := bthen hb4 hb6
      clear RR hP6 hb6 hR6 hE4 hE
      go_wp2_with fail
      go_ret
      exact ⟨rfl, hb4⟩

end Go.Proofs.Ytidjkigkfefojaa
