/-
  Timers: Restore, at whatever list; what a list of timers sets.
-/
import Derived.Test.YthlpcbpilfakmaaTReady
import Derived.Test.YthlpcbpilfakmaaMapLen
namespace Go.Proofs.Ythlpcbpilfakmaa
open Go.RowKit Go.WideShapes Go.ChangeShapes Go.ChangeAt Go.Deep
set_option linter.unusedVariables false

def keyT (x : Tm) : Int × Int := (x.o, x.s)
def setFrom (m0 : TMap) (l : List Tm) : TMap := l.foldl (fun m x => mset m (x.o, x.s) x.d) m0
theorem setFrom_len : ∀ (l : List Tm) (m0 : TMap), (setFrom m0 l).length ≤ m0.length + l.length ∧ ((setFrom m0 l).length = m0.length + l.length ↔ (l.map keyT).Nodup ∧ ∀ p ∈ l.map keyT, p ∉ m0.map (·.1)) := by
  intro l
  induction l with
  | nil => intro m0; simp [setFrom]
  | cons x l ih =>
    intro m0
    obtain ⟨h1, h2⟩ := ih (mset m0 (x.o, x.s) x.d)
    have e : setFrom m0 (x :: l) = setFrom (mset m0 (x.o, x.s) x.d) l := rfl
    rw [e]
    have hk := mset_keys (m := m0) (a := (x.o, x.s)) (b := x.d)
    by_cases hin : (x.o, x.s) ∈ m0.map (·.1)
    · rw [if_pos hin] at hk
      have hl : (mset m0 (x.o, x.s) x.d).length = m0.length := by have := congrArg List.length hk; simpa using this
      refine ⟨by rw [List.length_cons]; omega, ?_⟩
      constructor
      · intro h; rw [List.length_cons] at h; omega
      · rintro ⟨_, h⟩; exact absurd hin (h (x.o, x.s) (by simp [keyT]))
    · rw [if_neg hin] at hk
      have hl : (mset m0 (x.o, x.s) x.d).length = m0.length + 1 := by have := congrArg List.length hk; simpa using this
      refine ⟨by rw [List.length_cons]; omega, ?_⟩
      rw [hl, hk] at h2
      rw [List.length_cons, show m0.length + (l.length + 1) = m0.length + 1 + l.length from by omega, h2]
      simp only [List.map_cons, List.nodup_cons, List.mem_cons, List.mem_append, not_or]
      constructor
      · rintro ⟨a1, a2⟩
        refine ⟨⟨fun hx => (a2 _ hx).2.1 rfl, a1⟩, ?_⟩
        rintro p (rfl | hp)
        · exact hin
        · exact (a2 p hp).1
      · rintro ⟨⟨a1, a2⟩, a3⟩
        exact ⟨a2, fun p hp => ⟨a3 p (.inr hp), fun e => a1 (by rw [e] at hp; exact hp), by simp⟩⟩
theorem setFrom_map : ∀ (l : List Tm) (m0 : TMap), (l.map keyT).Nodup → (∀ p ∈ l.map keyT, p ∉ m0.map (·.1)) → setFrom m0 l = m0 ++ l.map (fun x => (keyT x, x.d)) := by
  intro l
  induction l with
  | nil => intro m0 _ _; simp [setFrom]
  | cons x l ih =>
    intro m0 h1 h2
    simp only [List.map_cons, List.nodup_cons] at h1
    have hn : mget m0 (x.o, x.s) = none := mget_none (h2 (keyT x) (by simp))
    have e : setFrom m0 (x :: l) = setFrom (mset m0 (x.o, x.s) x.d) l := rfl
    rw [e, mset_new hn, ih _ h1.2 (fun p hp hq => by
      rw [List.map_append] at hq
      rcases List.mem_append.1 hq with hq | hq
      · exact h2 p (by simp [hp]) hq
      · simp at hq; subst hq; exact h1.1 hp)]
    simp [keyT]
theorem setAll_nodup {l : List Tm} : (setAll l).length = l.length ↔ (l.map keyT).Nodup := by
  have := (setFrom_len l []).2
  simp only [List.length_nil, Nat.zero_add, List.map_nil, List.not_mem_nil, not_false_eq_true, implies_true, and_true] at this
  exact this
theorem setAll_map {l : List Tm} (h : (l.map keyT).Nodup) : setAll l = l.map (fun x => (keyT x, x.d)) := by
  have := setFrom_map l [] h (fun p _ => by simp)
  exact this
theorem TRel.same {m m2 : TMap} {l : List Tm} (h : TRel m l) (hp : m2.Perm m) : TRel m2 l :=
  ⟨(hp.map _).nodup_iff.2 h.nd, h.sorted, h.perm.trans (hp.map toT).symm⟩

/-- What Restore leaves. -/
def TRestPost (l : List Tm) (w : World) (e : Ending) (w' : World) : Prop :=
  ((l.map keyT).Nodup → ∃ X B, e = .returned (.tuple #[.pointer (some ⟨X, 0, none⟩), .int .i64 0]) ∧ w.heap.size ≤ B ∧ w.heap.size ≤ X ∧ IsTim w' X B (setAll l)) ∧ (¬ (l.map keyT).Nodup → e = .returned (.tuple #[.pointer none, .int .i64 30]))

set_option maxRecDepth 100000 in
set_option maxHeartbeats 8000000 in
theorem trestore_any (l : List Tm) (A : Option Addr) (cp : Nat) (w : World) (hR : Rd w A (l.flatMap en3)) (hl : l.length ≤ 140737488351232) :
    Calls Try.prog 17 #[.slice A l.length cp] w fun e w' => TRestPost l w e w' ∧ Below w.heap.size w w' := by
  go_enter Try.func17, Try.ntmps17
  go_wp2_with fail
  refine (tnew_some _).mono ?_
  rintro e w2 ⟨X, B, rfl, hB, hX, h, hb⟩
  go_wp2_with fail
  go_loopw [10] (fun i wr => ∃ k : Nat, k ≤ l.length ∧ i = .int .i64 k ∧ IsTim wr X B (setAll (l.take k)) ∧ Below w.heap.size w wr) (fun i _ => l.length - (intOf i).toNat)
  case atStart => exact ⟨0, Nat.zero_le _, rfl, h, hb⟩
  case round =>
    clear h hb
    obtain ⟨k, hk, rfl, h, hb⟩ := hrel
    by_cases hlt : k < l.length
    · obtain ⟨x, hx⟩ : ∃ x, l[k]? = some x := ⟨l[k], List.getElem?_eq_getElem hlt⟩
      have HS : Hid (setAll (l.take (k + 1)) = mset (setAll (l.take k)) (x.o, x.s) x.d) := hid (by rw [List.take_add_one, hx]; exact setAll_snoc _ _)
      have hR1 := hR.below hb
      obtain ⟨b, off, rfl, hbs, hcc⟩ := hR1.at_ 3 en3_len (by omega) hx
      obtain ⟨xd, xo, xs⟩ := x
      have q0 : wr.cell? ⟨b, off + k * 3, none⟩ = some (.int .i64 xd) := hcc 0 _ rfl
      have q1 : wr.cell? ⟨b, off + k * 3 + 1, none⟩ = some (.int .i64 xo) := hcc 1 _ rfl
      have q2 : wr.cell? ⟨b, off + k * 3 + 2, none⟩ = some (.int .i64 xs) := hcc 2 _ rfl
      clear hcc hx hR1
      have K := hid (set_any xo xs xd _ (h.alloc (.cells #[.int .i64 xd, .int .i64 xo, .int .i64 xs] 30)))
      have hb1 := hb.alloc hb.size (.cells #[.int .i64 xd, .int .i64 xo, .int .i64 xs] 30)
      clear h hb
      go_wp2_with fail
      refine K.out.mono ?_
      rintro e4 w4 ⟨rfl, h4, hg⟩
      have hb4 := hb1.trans (grown_below hg hb1.size hB)
      clear hb1 hg K q0 q1 q2
      go_wp2_with fail
      go_roundw
      case rel => exact ⟨k + 1, by omega, by go_num, by rw [HS.out]; exact h4, hb4⟩
      case measure => simp [intOf]; omega
    · have hk' : k = l.length := by omega
      subst hk'
      rw [List.take_length] at h
      clear hlt hk hR
      have hc := h.cell
      have HN := hid (setAll_nodup (l := l))
      by_cases hn : (setAll l).length = l.length
      · have hd := HN.out.1 hn
        have HD := hid hd
        have b1 : ((setAll l).length != l.length) = false := by simpa using hn
        have HP := hid h
        have hb' := hb
        clear hn hd
        go_wp2_with (first
          | (at_len; refine wpList_maplen _ rfl _ 57 3 rfl Try.underlying57 B (setAll l) rfl h.map ?_))
        go_ret2
        exact ⟨⟨fun _ => ⟨X, B, rfl, hB, hX, HP.out⟩, fun hx => absurd HD.out hx⟩, hb⟩
      · have hd : ¬ (l.map keyT).Nodup := fun e => hn (HN.out.2 e)
        have HD := hid hd
        have b1 : ((setAll l).length != l.length) = true := by simpa using hn
        clear hn hd
        go_wp2_with (first
          | (at_len; refine wpList_maplen _ rfl _ 57 3 rfl Try.underlying57 B (setAll l) rfl h.map ?_))
        go_ret2
        exact ⟨⟨fun hx => absurd hx HD.out, fun _ => rfl⟩, hb⟩

end Go.Proofs.Ythlpcbpilfakmaa
