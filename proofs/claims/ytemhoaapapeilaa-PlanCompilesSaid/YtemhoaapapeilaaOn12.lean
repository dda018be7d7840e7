/-
  sync.Once and atomic.Int64 in the run of one goroutine: the parts.
-/
import Derived.Test.YtemhoaapapeilaaPm12
import Derived.Defers
import Derived.Laws.Pointers
import Derived.Laws.LoneSync
import Derived.RegionTactic
import Derived.RegionCalls
import Derived.ChangeAlike
import Derived.Laws.NewBlocks
namespace Go.Proofs.Ytemhoaapapeilaa
open Go.RowKit Go.WideShapes Go.ChangeShapes Go.ChangeAt Go.Deep
set_option linter.unusedVariables false

theorem disable12 (w : World) : (callFunc 89 #[]).run Try.prog w = .ok (.value (.tuple #[])) w := run_call_mark0 Try.func89 (by kernel_rfl) (by kernel_rfl) (by kernel_rfl) .disable (by kernel_rfl) w
theorem enable12 (w : World) : (callFunc 91 #[]).run Try.prog w = .ok (.value (.tuple #[])) w := run_call_mark0 Try.func91 (by kernel_rfl) (by kernel_rfl) (by kernel_rfl) .enable (by kernel_rfl) w
theorem acquire12 (a : Addr) (w : World) : (callFunc 92 #[.pointer (some a)]).run Try.prog w = .ok (.value (.tuple #[])) w := run_call_marked Try.func92 (by kernel_rfl) (by kernel_rfl) (by kernel_rfl) .acquire (by kernel_rfl) a w
theorem releaseMerge12 (a : Addr) (w : World) : (callFunc 94 #[.pointer (some a)]).run Try.prog w = .ok (.value (.tuple #[])) w := run_call_marked Try.func94 (by kernel_rfl) (by kernel_rfl) (by kernel_rfl) .releaseMerge (by kernel_rfl) a w

/-- '(*sync/atomic.Bool).Store(true)', entered as a deferred call: the cell holds 1. -/
theorem store_deferred12 (a : Addr) (x : Value) (u : FrameMode) (w : World) (hc : w.cell? a = some x) (hz : w.frozen? a = false) :
    CallsD Try.prog 76 #[.pointer (some a), .bool true] u w fun e u' w' => u' = u ∧ (e = .returned (.tuple #[]) ∧ w' = w.drew.setCell a (.int .u32 1)) := by
  have hc' : w.drew.cell? a = some x := by go_simp
  have hz' : w.drew.frozen? a = false := by go_simp
  have hst := run_call_store (P := Try.prog) Try.func86 (by kernel_rfl) (by kernel_rfl) (by kernel_rfl) (by kernel_rfl) (k := .u32) (y := 1) hc' hz'
  go_enter_d Try.func76, Try.ntmps76
  go_wp2
  go_region_calls
  all_goals (go_end0; exact ⟨rfl, rfl⟩)

set_option maxRecDepth 100000 in
set_option maxHeartbeats 1600000 in
/-- '(*sync.Mutex).Unlock', entered as a deferred call, the lock held and nobody waiting: state 0. -/
theorem unlock_deferred12 (a : Addr) (u : FrameMode) (w : World) (hc : w.cell? a = some (.int .i32 1)) (hz : w.frozen? a = false) :
    CallsD Try.prog 75 #[.pointer (some a)] u w fun e u' w' => u' = u ∧ (e = .returned (.tuple #[]) ∧ w' = w.setCell a (.int .i32 0)) := by
  have hd := disable12
  have he := enable12
  have hr := releaseMerge12
  have hadd := run_call_add (P := Try.prog) Try.func95 (by kernel_rfl) (by kernel_rfl) (by kernel_rfl) .i32 (by kernel_rfl) (y := -1) (s := 0) hc hz (by simp [go_sem]; rfl)
  have hcv := run_convert_to_unsafe (P := Try.prog) (src := 147) (dst := 151) Try.underlying147 Try.underlying151 (by kernel_rfl) hc
  go_enter_d Try.func75, Try.ntmps75
  go_wp2
  go_end0
  go_wp2
  go_end0
  exact ⟨rfl, rfl⟩

set_option maxRecDepth 100000 in
set_option maxHeartbeats 1600000 in
/-- '(*sync.Mutex).Lock', the lock free: state 1. -/
theorem lock_free12 (a : Addr) (w : World) (hc : w.cell? a = some (.int .i32 0)) (hz : w.frozen? a = false) :
    Calls Try.prog 74 #[.pointer (some a)] w fun e w' => e = .returned (.tuple #[]) ∧ w' = w.setCell a (.int .i32 1) := by
  have hd := disable12
  have he := enable12
  have ha := acquire12
  have hcas := run_call_cas_hit (P := Try.prog) Try.func90 (by kernel_rfl) (by kernel_rfl) (by kernel_rfl) .i32 (by kernel_rfl) (y := 1) hc hz
  have hc' : (w.setCell a (.int .i32 1)).cell? a = some (.int .i32 1) := World.cell?_setCell_same w a _ hc
  have hcv := run_convert_to_unsafe (P := Try.prog) (src := 147) (dst := 151) Try.underlying147 Try.underlying151 (by kernel_rfl) hc'
  go_enter Try.func74, Try.ntmps74
  go_wp2
  first | go_end0 | (simp only [Exit.inBlock, Exit.then]; refine bodyPost_ret (results_none rfl _ _ _) rfl ?_) | refine bodyPost_ret (results_none rfl _ _ _) rfl ?_
  go_wp2
  go_end0
  exact ⟨rfl, rfl⟩

set_option maxRecDepth 100000 in
set_option maxHeartbeats 1600000 in
/-- '(*sync.Once).doSlow', not yet done, the lock free: the lock is taken, f is called, 'done' is stored, the lock is let go. fv is f with its first argument; X is what f leaves. -/
theorem slow12 (P : Nat) (N : FuncId) (x : Value) (w : World) (cs : Array Value) (hB : Blk w P 75 cs) (h3 : cs[3]? = some (.int .u32 0)) (h4 : cs[4]? = some (.int .i32 0))
    (X : World → Prop) (hX : ∀ w', X w' → ∃ cs' : Array Value, Blk w' P 75 cs' ∧ cs'[3]? = some (.int .u32 0) ∧ cs'[4]? = some (.int .i32 1))
    (hN : ∀ (w : World), (callFunc N #[x]).run Try.prog w = .ok (.enter N #[x]) w)
    (hF : Calls Try.prog N #[x] (w.setCell ⟨P, 4, none⟩ (.int .i32 1)) fun e w' => e = .returned (.tuple #[]) ∧ X w') :
    Calls Try.prog 54 #[.pointer (some ⟨P, 3, none⟩), .func (.func N) #[x] #[]] w fun e w' => e = .returned (.tuple #[]) ∧ ∃ w1, X w1 ∧ w' = (w1.drew.setCell ⟨P, 3, none⟩ (.int .u32 1)).setCell ⟨P, 4, none⟩ (.int .i32 0) := by
  have c3 : w.cell? ⟨P, 3, none⟩ = some (.int .u32 0) := by rw [hB.cell]; exact h3
  have c4 : w.cell? ⟨P, 4, none⟩ = some (.int .i32 0) := by rw [hB.cell]; exact h4
  have f4 := hB.free 4
  have hl := run_call_load (P := Try.prog) Try.func73 (by kernel_rfl) (by kernel_rfl) (by kernel_rfl) .u32 (by kernel_rfl) (w := w.setCell ⟨P, 4, none⟩ (.int .i32 1)) (a := ⟨P, 3, none⟩) (x := 0) ((World.cell?_setCell_other _ ⟨P, 4, none⟩ ⟨P, 3, none⟩ _ (by simp)).trans c3)
  have hnot : ∀ (x : Bool) (w : World), (Op.unary .not (.bool x)).run Try.prog w = .ok (.bool (!x)) w := fun _ _ => rfl
  have HF := hid hF
  have HX := hid hX
  clear hF hX
  go_enter_defers Try.func54, Try.ntmps54
  go_wp2_with (go_at_call 74; refine (lock_free12 ⟨P, 4, none⟩ _ (by go_simp) (by go_simp)).mono ?_; rintro e w' ⟨rfl, rfl⟩)
  go_wp2
  refine HF.out.mono ?_
  rintro e w1 ⟨rfl, hx⟩
  obtain ⟨cs', b1, b2, b3⟩ := HX.out w1 hx
  have d3 : w1.cell? ⟨P, 3, none⟩ = some (.int .u32 0) := by rw [b1.cell]; exact b2
  have d4 : w1.cell? ⟨P, 4, none⟩ = some (.int .i32 1) := by rw [b1.cell]; exact b3
  have z3 := b1.free 3
  have z4 := b1.free 4
  have HX1 := hid hx
  clear hx b1 b2 b3 c3 c4 f4 hl hB h3 h4
  go_wp2
  refine leaves_cons (f := 76) (args := #[.pointer (some ⟨P, 3, none⟩), .bool true]) (by simp) (by simp [go_sem]) ?_
  refine (store_deferred12 ⟨P, 3, none⟩ (.int .u32 0) .returning _ d3 z3).mono ?_
  rintro e u' w'' ⟨rfl, rfl, rfl⟩
  refine leaves_cons (f := 75) (args := #[.pointer (some ⟨P, 4, none⟩)]) (by simp [settle]) (by simp [go_sem]) ?_
  refine (unlock_deferred12 ⟨P, 4, none⟩ _ _ ?_ (by simp [z4])).mono ?_
  · exact (World.cell?_setCell_other _ ⟨P, 3, none⟩ ⟨P, 4, none⟩ _ (by simp)).trans (by rw [World.cell?_drew]; exact d4)
  rintro e u' w'' ⟨rfl, rfl, rfl⟩
  simp [Leaves, settle, results, Try.results54]
  exact ⟨w1, HX1.out, rfl⟩

set_option maxRecDepth 100000 in
set_option maxHeartbeats 1600000 in
/-- '(*sync.Once).Do', not yet done. -/
theorem do_first12 (P : Nat) (fv : Value) (w : World) (R : World → Prop) (c3 : w.cell? ⟨P, 3, none⟩ = some (.int .u32 0)) (hS : Calls Try.prog 54 #[.pointer (some ⟨P, 3, none⟩), fv] w fun e w' => e = .returned (.tuple #[]) ∧ R w') :
    Calls Try.prog 37 #[.pointer (some ⟨P, 3, none⟩), fv] w fun e w' => e = .returned (.tuple #[]) ∧ R w' := by
  have hl := run_call_load (P := Try.prog) Try.func73 (by kernel_rfl) (by kernel_rfl) (by kernel_rfl) .u32 (by kernel_rfl) c3
  have hnot : ∀ (x : Bool) (w : World), (Op.unary .not (.bool x)).run Try.prog w = .ok (.bool (!x)) w := fun _ _ => rfl
  have HS := hid hS
  clear hS
  go_enter Try.func37, Try.ntmps37
  go_wp2_with (first | (go_at_call 54; refine HS.out.mono ?_; rintro e w' ⟨rfl, hr⟩) | (go_at_call 53; go_in))
  go_end0
  exact ⟨rfl, hr⟩
set_option maxRecDepth 100000 in
set_option maxHeartbeats 1600000 in
/-- '(*sync.Once).Do', done already. -/
theorem do_done12 (P : Nat) (fv : Value) (w : World) (c3 : w.cell? ⟨P, 3, none⟩ = some (.int .u32 1)) :
    Calls Try.prog 37 #[.pointer (some ⟨P, 3, none⟩), fv] w fun e w' => e = .returned (.tuple #[]) ∧ w' = w := by
  have hl := run_call_load (P := Try.prog) Try.func73 (by kernel_rfl) (by kernel_rfl) (by kernel_rfl) .u32 (by kernel_rfl) c3
  have hnot : ∀ (x : Bool) (w : World), (Op.unary .not (.bool x)).run Try.prog w = .ok (.bool (!x)) w := fun _ _ => rfl
  go_enter Try.func37, Try.ntmps37
  go_wp2
  go_end0
  exact ⟨rfl, rfl⟩
set_option maxRecDepth 100000 in
/-- '(*atomic.Int64).Add(1)'. -/
theorem add12 (P : Nat) (n : Int) (w : World) (c7 : w.cell? ⟨P, 7, none⟩ = some (.int .i64 n)) (f7 : w.frozen? ⟨P, 7, none⟩ = false) (hn : -9223372036854775808 ≤ n + 1 ∧ n + 1 ≤ 9223372036854775807) :
    Calls Try.prog 36 #[.pointer (some ⟨P, 7, none⟩), .int .i64 1] w fun e w' => e = .returned (.int .i64 (n + 1)) ∧ w' = w.setCell ⟨P, 7, none⟩ (.int .i64 (n + 1)) := by
  have hadd := run_call_add (P := Try.prog) Try.func52 (by kernel_rfl) (by kernel_rfl) (by kernel_rfl) .i64 (by kernel_rfl) (y := 1) (s := n + 1) c7 f7 (by have e := IntWalk.i64_in _ hn; simp [go_sem, e])
  go_enter Try.func36, Try.ntmps36
  go_wp2_with fail
  go_ret
  exact ⟨rfl, rfl⟩
set_option maxRecDepth 100000 in
/-- '(*atomic.Int64).Load'. -/
theorem load12 (P : Nat) (n : Int) (w : World) (c7 : w.cell? ⟨P, 7, none⟩ = some (.int .i64 n)) :
    Calls Try.prog 39 #[.pointer (some ⟨P, 7, none⟩)] w fun e w' => e = .returned (.int .i64 n) ∧ w' = w := by
  have hl := run_call_load (P := Try.prog) Try.func55 (by kernel_rfl) (by kernel_rfl) (by kernel_rfl) .i64 (by kernel_rfl) c7
  go_enter Try.func39, Try.ntmps39
  go_wp2_with fail
  go_ret
  exact ⟨rfl, rfl⟩
end Go.Proofs.Ytemhoaapapeilaa
