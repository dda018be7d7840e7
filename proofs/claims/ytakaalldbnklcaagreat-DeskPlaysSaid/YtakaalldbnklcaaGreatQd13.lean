/-
  The stock book: the closures that move goods between levels (printed by gen_mv15.py).
  The stock book: move.
  The stock book: Allocate.
  The stock book: state, Free, Ship, Restock.
  The stock book: twin, Goods.
  The stock book: All.
-/
import Derived.Test.YtakaalldbnklcaaGreatQd2
import Derived.Test.YtakaalldbnklcaaGreatQd5
import Derived.Test.YtakaalldbnklcaaGreatQd8
import Derived.Test.YtakaalldbnklcaaGreatQd10
import Derived.StillTailTactics
import Derived.Deep.CutRange
import Derived.Shelf.SlSortCmp.NoneTotal
namespace Go.Proofs.YtakaalldbnklcaaGreat.Sk
open Go.RowKit Go.WideShapes Go.ChangeShapes Go.ChangeAt Go.Deep
set_option linter.unusedVariables false
def allocL (a:Lv) (q:Int):Lv:=⟨a.g,a.i,a.r,a.h - q,a.a + q,a.s,a.t⟩
set_option maxRecDepth 100000 in
set_option maxHeartbeats 8000000 in
theorem alloc_any (a:Lv) (q:Int) (w:World) (hB:Blk w a.g 53 (enV a)) (h1 : -9223372036854775808≤a.h - q∧a.h - q≤9223372036854775807) (h2 : -9223372036854775808≤a.a + q∧a.a + q≤9223372036854775807) :
  Calls Tryz.prog 172 #[.pointer (some ⟨a.g,0,none⟩),.int .i64 q] w fun e w'=>e = .returned (.tuple #[])∧Blk w' a.g 53 (enV (allocL a q))∧Touch (· = a.g) w w':=by
 have hw1:IntKind.i64.wrap (a.h - q)=a.h - q:=IntWalk.i64_in _ h1
 have hw2:IntKind.i64.wrap (a.a + q)=a.a + q:=IntWalk.i64_in _ h2
 obtain ⟨CB,hC0,hC1⟩:∃ CB:Bool→World→Prop,(∀ w',CB false w' ↔ (Blk w' a.g 53 (enV a)∧Touch (· = a.g) w w'))∧(∀ w',CB true w' ↔ (Blk w' a.g 53 ((enV a).setIfInBounds 2 (.int .i64 (a.h - q)))∧Touch (· = a.g) w w')) :=
  ⟨fun b w'=>match b with | false=>(Blk w' a.g 53 (enV a)∧Touch (· = a.g) w w') | true=>(Blk w' a.g 53 ((enV a).setIfInBounds 2 (.int .i64 (a.h - q)))∧Touch (· = a.g) w w'),fun _=>Iff.rfl,fun _=>Iff.rfl⟩
 obtain ⟨C,hCd⟩:∃ C:World→Prop,∀ w',C w' ↔ ∃ b,CB b w':=⟨_,fun _=>Iff.rfl⟩
 obtain ⟨D,hDd⟩:∃ D:World→Prop,∀ w',D w' ↔ CB false w':=⟨_,fun _=>Iff.rfl⟩
 have HCC:=hid (fun b w' (h:CB b w')=>(hCd w').2 ⟨b,h⟩)
 have HDD:=hid (fun w' (h:CB false w')=>(hDd w').2 h)
 have hC:CB false w.drew:=(hC0 _).2 ⟨hB.next (below_drewN (Below.refl _ _) 1),(Touch.refl _ _).drew⟩
 have hne:Nonempty (In C):=⟨⟨w.drew,HCC.out _ _ hC⟩⟩
 have hnd:Nonempty (In D):=⟨⟨w.drew,HDD.out _ hC⟩⟩
 have d1:∀ p:In D,p.w.cell? ⟨a.g,2,none⟩=some (.int .i64 a.h):=fun p=>((hC0 _).1 ((hDd _).1 p.h)).1.cell 2
 have g2:∀ p:In C,p.w.cell? ⟨a.g,3,none⟩=some (.int .i64 a.a):=fun p=>by
  obtain ⟨b,hb⟩:=(hCd _).1 p.h
  cases b with
  | false=>exact ((hC0 _).1 hb).1.cell 3
  | true=>exact ((hC1 _).1 hb).1.cell 3
 have HC0:=hid hC0
 have HC1:=hid hC1
 clear hC0 hC1 hCd hDd hB h1 h2
 obtain ⟨g,hg⟩:∃ g,g=a.g:=⟨_,rfl⟩
 go_enter Tryz.func172,Tryz.ntmps172
 refine wp_region_turn CB 16 17 (by decide) (by kernel_rfl) (by kernel_rfl) hC ?_
 clear hC
 refine wpT_part C HCC.out 3 3 (by kernel_rfl) (by kernel_rfl) (by decide) ?_
 simp only [List.take_succ_cons,List.take_zero,List.drop_succ_cons,List.drop_zero]
 repeat (first | go_big_quiet_step (fail) | quiet_step (fail))
 refine wpQuiet_nil ?_
 refine wpT_call (by rfl) (.pointer (some ⟨a.g,0,none⟩)) (by kernel_rfl) (fun bb wp hwp => ?_) ?_
 ·first | exact ⟨hwp,rfl⟩ | (go_simp; first | exact hwp | exact ⟨hwp,rfl⟩)
 refine wpT_part0 D HDD.out 4 8 (by kernel_rfl) (by kernel_rfl) (by decide) (by kernel_rfl) ?_
 simp only [List.take_succ_cons,List.take_zero,List.drop_succ_cons,List.drop_zero]
 repeat (first | go_big_quiet_step (fail) | quiet_step (fail))
 refine wpQuiet_nil ?_
 refine wpT_part C HCC.out 1 9 (by kernel_rfl) (by kernel_rfl) (by decide) ?_
 simp only [List.take_succ_cons,List.take_zero,List.drop_succ_cons,List.drop_zero]
 repeat (first | go_big_quiet_step (fail) | quiet_step (fail))
 refine wpQuiet_nil ?_
 refine wpT_call (by rfl) (.pointer (some ⟨a.g,0,none⟩)) (by kernel_rfl) (fun bb wp hwp => ?_) ?_
 ·first | exact ⟨hwp,rfl⟩ | (go_simp; first | exact hwp | exact ⟨hwp,rfl⟩)
 refine wpT_part C HCC.out 4 14 (by kernel_rfl) (by kernel_rfl) (by decide) ?_
 simp only [List.take_succ_cons,List.take_zero,List.drop_succ_cons,List.drop_zero]
 repeat (first | go_big_quiet_step (fail) | quiet_step (fail))
 refine wpQuiet_nil ?_
 refine wpT_call (by rfl) (.pointer (some ⟨a.g,0,none⟩)) (by kernel_rfl) (fun bb wp hwp => ?_) ?_
 ·first | exact ⟨hwp,rfl⟩ | (go_simp; first | exact hwp | exact ⟨hwp,rfl⟩)
 refine wpT_part C HCC.out 1 16 (by kernel_rfl) (by kernel_rfl) (by decide) ?_
 simp only [List.take_succ_cons,List.take_zero,List.drop_succ_cons,List.drop_zero]
 repeat (first | go_big_quiet_step (fail) | quiet_step (fail))
 refine wpQuiet_nil ?_
 refine wpT_turn undef (by kernel_rfl) (fun wp hwp => ?_) ?_
 ·obtain ⟨hB,hT⟩:=(HC0.out _).1 hwp
  have x1:=hB.cell 2
  have f1:=hB.free 2
  have lg:=hB.lt
  have K:CB true (wp.setCell ⟨a.g,2,none⟩ (.int .i64 (a.h - q))):=(HC1.out _).2 ⟨hB.set_ 2 _,hT.then (Touch.setCell wp a.g 2 _)⟩
  simp only [enV] at x1
  clear hB hT hwp
  go_simp
  exact ⟨K,rfl⟩
 ·refine wpT_nil ?_
  intro wq hq
  obtain ⟨hB,hT⟩:=(HC1.out _).1 hq
  have x2:wq.cell? ⟨a.g,3,none⟩=some (.int .i64 a.a):=hB.cell 3
  have f2:=hB.free 3
  have lg:=hB.lt
  have HF:=hid (And.intro (hB.set_ 3 (.int .i64 (a.a + q))) (hT.then (Touch.setCell wq a.g 3 (.int .i64 (a.a + q)))))
  clear hB hT hq d1 g2 hne hnd
  go_wp2_with fail
  go_end0
  exact ⟨rfl,HF.out.1,HF.out.2⟩
def freeL (a:Lv) (q:Int):Lv:=⟨a.g,a.i,a.r,a.h + q,a.a - q,a.s,a.t⟩
set_option maxRecDepth 100000 in
set_option maxHeartbeats 8000000 in
theorem free_any (a:Lv) (q:Int) (w:World) (hB:Blk w a.g 53 (enV a)) (h1 : -9223372036854775808≤a.h + q∧a.h + q≤9223372036854775807) (h2 : -9223372036854775808≤a.a - q∧a.a - q≤9223372036854775807) :
  Calls Tryz.prog 220 #[.pointer (some ⟨a.g,0,none⟩),.int .i64 q] w fun e w'=>e = .returned (.tuple #[])∧Blk w' a.g 53 (enV (freeL a q))∧Touch (· = a.g) w w':=by
 have hw1:IntKind.i64.wrap (a.h + q)=a.h + q:=IntWalk.i64_in _ h1
 have hw2:IntKind.i64.wrap (a.a - q)=a.a - q:=IntWalk.i64_in _ h2
 obtain ⟨CB,hC0,hC1⟩:∃ CB:Bool→World→Prop,(∀ w',CB false w' ↔ (Blk w' a.g 53 (enV a)∧Touch (· = a.g) w w'))∧(∀ w',CB true w' ↔ (Blk w' a.g 53 ((enV a).setIfInBounds 2 (.int .i64 (a.h + q)))∧Touch (· = a.g) w w')) :=
  ⟨fun b w'=>match b with | false=>(Blk w' a.g 53 (enV a)∧Touch (· = a.g) w w') | true=>(Blk w' a.g 53 ((enV a).setIfInBounds 2 (.int .i64 (a.h + q)))∧Touch (· = a.g) w w'),fun _=>Iff.rfl,fun _=>Iff.rfl⟩
 obtain ⟨C,hCd⟩:∃ C:World→Prop,∀ w',C w' ↔ ∃ b,CB b w':=⟨_,fun _=>Iff.rfl⟩
 obtain ⟨D,hDd⟩:∃ D:World→Prop,∀ w',D w' ↔ CB false w':=⟨_,fun _=>Iff.rfl⟩
 have HCC:=hid (fun b w' (h:CB b w')=>(hCd w').2 ⟨b,h⟩)
 have HDD:=hid (fun w' (h:CB false w')=>(hDd w').2 h)
 have hC:CB false w.drew:=(hC0 _).2 ⟨hB.next (below_drewN (Below.refl _ _) 1),(Touch.refl _ _).drew⟩
 have hne:Nonempty (In C):=⟨⟨w.drew,HCC.out _ _ hC⟩⟩
 have hnd:Nonempty (In D):=⟨⟨w.drew,HDD.out _ hC⟩⟩
 have d1:∀ p:In D,p.w.cell? ⟨a.g,2,none⟩=some (.int .i64 a.h):=fun p=>((hC0 _).1 ((hDd _).1 p.h)).1.cell 2
 have g2:∀ p:In C,p.w.cell? ⟨a.g,3,none⟩=some (.int .i64 a.a):=fun p=>by
  obtain ⟨b,hb⟩:=(hCd _).1 p.h
  cases b with
  | false=>exact ((hC0 _).1 hb).1.cell 3
  | true=>exact ((hC1 _).1 hb).1.cell 3
 have HC0:=hid hC0
 have HC1:=hid hC1
 clear hC0 hC1 hCd hDd hB h1 h2
 obtain ⟨g,hg⟩:∃ g,g=a.g:=⟨_,rfl⟩
 go_enter Tryz.func220,Tryz.ntmps220
 refine wp_region_turn CB 16 17 (by decide) (by kernel_rfl) (by kernel_rfl) hC ?_
 clear hC
 refine wpT_part C HCC.out 3 3 (by kernel_rfl) (by kernel_rfl) (by decide) ?_
 simp only [List.take_succ_cons,List.take_zero,List.drop_succ_cons,List.drop_zero]
 repeat (first | go_big_quiet_step (fail) | quiet_step (fail))
 refine wpQuiet_nil ?_
 refine wpT_call (by rfl) (.pointer (some ⟨a.g,0,none⟩)) (by kernel_rfl) (fun bb wp hwp => ?_) ?_
 ·first | exact ⟨hwp,rfl⟩ | (go_simp; first | exact hwp | exact ⟨hwp,rfl⟩)
 refine wpT_part0 D HDD.out 4 8 (by kernel_rfl) (by kernel_rfl) (by decide) (by kernel_rfl) ?_
 simp only [List.take_succ_cons,List.take_zero,List.drop_succ_cons,List.drop_zero]
 repeat (first | go_big_quiet_step (fail) | quiet_step (fail))
 refine wpQuiet_nil ?_
 refine wpT_part C HCC.out 1 9 (by kernel_rfl) (by kernel_rfl) (by decide) ?_
 simp only [List.take_succ_cons,List.take_zero,List.drop_succ_cons,List.drop_zero]
 repeat (first | go_big_quiet_step (fail) | quiet_step (fail))
 refine wpQuiet_nil ?_
 refine wpT_call (by rfl) (.pointer (some ⟨a.g,0,none⟩)) (by kernel_rfl) (fun bb wp hwp => ?_) ?_
 ·first | exact ⟨hwp,rfl⟩ | (go_simp; first | exact hwp | exact ⟨hwp,rfl⟩)
 refine wpT_part C HCC.out 4 14 (by kernel_rfl) (by kernel_rfl) (by decide) ?_
 simp only [List.take_succ_cons,List.take_zero,List.drop_succ_cons,List.drop_zero]
 repeat (first | go_big_quiet_step (fail) | quiet_step (fail))
 refine wpQuiet_nil ?_
 refine wpT_call (by rfl) (.pointer (some ⟨a.g,0,none⟩)) (by kernel_rfl) (fun bb wp hwp => ?_) ?_
 ·first | exact ⟨hwp,rfl⟩ | (go_simp; first | exact hwp | exact ⟨hwp,rfl⟩)
 refine wpT_part C HCC.out 1 16 (by kernel_rfl) (by kernel_rfl) (by decide) ?_
 simp only [List.take_succ_cons,List.take_zero,List.drop_succ_cons,List.drop_zero]
 repeat (first | go_big_quiet_step (fail) | quiet_step (fail))
 refine wpQuiet_nil ?_
 refine wpT_turn undef (by kernel_rfl) (fun wp hwp => ?_) ?_
 ·obtain ⟨hB,hT⟩:=(HC0.out _).1 hwp
  have x1:=hB.cell 2
  have f1:=hB.free 2
  have lg:=hB.lt
  have K:CB true (wp.setCell ⟨a.g,2,none⟩ (.int .i64 (a.h + q))):=(HC1.out _).2 ⟨hB.set_ 2 _,hT.then (Touch.setCell wp a.g 2 _)⟩
  simp only [enV] at x1
  clear hB hT hwp
  go_simp
  exact ⟨K,rfl⟩
 ·refine wpT_nil ?_
  intro wq hq
  obtain ⟨hB,hT⟩:=(HC1.out _).1 hq
  have x2:wq.cell? ⟨a.g,3,none⟩=some (.int .i64 a.a):=hB.cell 3
  have f2:=hB.free 3
  have lg:=hB.lt
  have HF:=hid (And.intro (hB.set_ 3 (.int .i64 (a.a - q))) (hT.then (Touch.setCell wq a.g 3 (.int .i64 (a.a - q)))))
  clear hB hT hq d1 g2 hne hnd
  go_wp2_with fail
  go_end0
  exact ⟨rfl,HF.out.1,HF.out.2⟩
def shipL (a:Lv) (q:Int):Lv:=⟨a.g,a.i,a.r,a.h,a.a - q,a.s + q,a.t⟩
set_option maxRecDepth 100000 in
set_option maxHeartbeats 8000000 in
theorem ship_any (a:Lv) (q:Int) (w:World) (hB:Blk w a.g 53 (enV a)) (h1 : -9223372036854775808≤a.a - q∧a.a - q≤9223372036854775807) (h2 : -9223372036854775808≤a.s + q∧a.s + q≤9223372036854775807) :
  Calls Tryz.prog 222 #[.pointer (some ⟨a.g,0,none⟩),.int .i64 q] w fun e w'=>e = .returned (.tuple #[])∧Blk w' a.g 53 (enV (shipL a q))∧Touch (· = a.g) w w':=by
 have hw1:IntKind.i64.wrap (a.a - q)=a.a - q:=IntWalk.i64_in _ h1
 have hw2:IntKind.i64.wrap (a.s + q)=a.s + q:=IntWalk.i64_in _ h2
 obtain ⟨CB,hC0,hC1⟩:∃ CB:Bool→World→Prop,(∀ w',CB false w' ↔ (Blk w' a.g 53 (enV a)∧Touch (· = a.g) w w'))∧(∀ w',CB true w' ↔ (Blk w' a.g 53 ((enV a).setIfInBounds 3 (.int .i64 (a.a - q)))∧Touch (· = a.g) w w')) :=
  ⟨fun b w'=>match b with | false=>(Blk w' a.g 53 (enV a)∧Touch (· = a.g) w w') | true=>(Blk w' a.g 53 ((enV a).setIfInBounds 3 (.int .i64 (a.a - q)))∧Touch (· = a.g) w w'),fun _=>Iff.rfl,fun _=>Iff.rfl⟩
 obtain ⟨C,hCd⟩:∃ C:World→Prop,∀ w',C w' ↔ ∃ b,CB b w':=⟨_,fun _=>Iff.rfl⟩
 obtain ⟨D,hDd⟩:∃ D:World→Prop,∀ w',D w' ↔ CB false w':=⟨_,fun _=>Iff.rfl⟩
 have HCC:=hid (fun b w' (h:CB b w')=>(hCd w').2 ⟨b,h⟩)
 have HDD:=hid (fun w' (h:CB false w')=>(hDd w').2 h)
 have hC:CB false w.drew:=(hC0 _).2 ⟨hB.next (below_drewN (Below.refl _ _) 1),(Touch.refl _ _).drew⟩
 have hne:Nonempty (In C):=⟨⟨w.drew,HCC.out _ _ hC⟩⟩
 have hnd:Nonempty (In D):=⟨⟨w.drew,HDD.out _ hC⟩⟩
 have d1:∀ p:In D,p.w.cell? ⟨a.g,3,none⟩=some (.int .i64 a.a):=fun p=>((hC0 _).1 ((hDd _).1 p.h)).1.cell 3
 have g2:∀ p:In C,p.w.cell? ⟨a.g,4,none⟩=some (.int .i64 a.s):=fun p=>by
  obtain ⟨b,hb⟩:=(hCd _).1 p.h
  cases b with
  | false=>exact ((hC0 _).1 hb).1.cell 4
  | true=>exact ((hC1 _).1 hb).1.cell 4
 have HC0:=hid hC0
 have HC1:=hid hC1
 clear hC0 hC1 hCd hDd hB h1 h2
 obtain ⟨g,hg⟩:∃ g,g=a.g:=⟨_,rfl⟩
 go_enter Tryz.func222,Tryz.ntmps222
 refine wp_region_turn CB 16 17 (by decide) (by kernel_rfl) (by kernel_rfl) hC ?_
 clear hC
 refine wpT_part C HCC.out 3 3 (by kernel_rfl) (by kernel_rfl) (by decide) ?_
 simp only [List.take_succ_cons,List.take_zero,List.drop_succ_cons,List.drop_zero]
 repeat (first | go_big_quiet_step (fail) | quiet_step (fail))
 refine wpQuiet_nil ?_
 refine wpT_call (by rfl) (.pointer (some ⟨a.g,0,none⟩)) (by kernel_rfl) (fun bb wp hwp => ?_) ?_
 ·first | exact ⟨hwp,rfl⟩ | (go_simp; first | exact hwp | exact ⟨hwp,rfl⟩)
 refine wpT_part0 D HDD.out 4 8 (by kernel_rfl) (by kernel_rfl) (by decide) (by kernel_rfl) ?_
 simp only [List.take_succ_cons,List.take_zero,List.drop_succ_cons,List.drop_zero]
 repeat (first | go_big_quiet_step (fail) | quiet_step (fail))
 refine wpQuiet_nil ?_
 refine wpT_part C HCC.out 1 9 (by kernel_rfl) (by kernel_rfl) (by decide) ?_
 simp only [List.take_succ_cons,List.take_zero,List.drop_succ_cons,List.drop_zero]
 repeat (first | go_big_quiet_step (fail) | quiet_step (fail))
 refine wpQuiet_nil ?_
 refine wpT_call (by rfl) (.pointer (some ⟨a.g,0,none⟩)) (by kernel_rfl) (fun bb wp hwp => ?_) ?_
 ·first | exact ⟨hwp,rfl⟩ | (go_simp; first | exact hwp | exact ⟨hwp,rfl⟩)
 refine wpT_part C HCC.out 4 14 (by kernel_rfl) (by kernel_rfl) (by decide) ?_
 simp only [List.take_succ_cons,List.take_zero,List.drop_succ_cons,List.drop_zero]
 repeat (first | go_big_quiet_step (fail) | quiet_step (fail))
 refine wpQuiet_nil ?_
 refine wpT_call (by rfl) (.pointer (some ⟨a.g,0,none⟩)) (by kernel_rfl) (fun bb wp hwp => ?_) ?_
 ·first | exact ⟨hwp,rfl⟩ | (go_simp; first | exact hwp | exact ⟨hwp,rfl⟩)
 refine wpT_part C HCC.out 1 16 (by kernel_rfl) (by kernel_rfl) (by decide) ?_
 simp only [List.take_succ_cons,List.take_zero,List.drop_succ_cons,List.drop_zero]
 repeat (first | go_big_quiet_step (fail) | quiet_step (fail))
 refine wpQuiet_nil ?_
 refine wpT_turn undef (by kernel_rfl) (fun wp hwp => ?_) ?_
 ·obtain ⟨hB,hT⟩:=(HC0.out _).1 hwp
  have x1:=hB.cell 3
  have f1:=hB.free 3
  have lg:=hB.lt
  have K:CB true (wp.setCell ⟨a.g,3,none⟩ (.int .i64 (a.a - q))):=(HC1.out _).2 ⟨hB.set_ 3 _,hT.then (Touch.setCell wp a.g 3 _)⟩
  simp only [enV] at x1
  clear hB hT hwp
  go_simp
  exact ⟨K,rfl⟩
 ·refine wpT_nil ?_
  intro wq hq
  obtain ⟨hB,hT⟩:=(HC1.out _).1 hq
  have x2:wq.cell? ⟨a.g,4,none⟩=some (.int .i64 a.s):=hB.cell 4
  have f2:=hB.free 4
  have lg:=hB.lt
  have HF:=hid (And.intro (hB.set_ 4 (.int .i64 (a.s + q))) (hT.then (Touch.setCell wq a.g 4 (.int .i64 (a.s + q)))))
  clear hB hT hq d1 g2 hne hnd
  go_wp2_with fail
  go_end0
  exact ⟨rfl,HF.out.1,HF.out.2⟩
def restockL (a:Lv) (q:Int):Lv:=⟨a.g,a.i,a.r,a.h + q,a.a,a.s,a.t + q⟩
set_option maxRecDepth 100000 in
set_option maxHeartbeats 8000000 in
theorem restock_any (a:Lv) (q:Int) (w:World) (hB:Blk w a.g 53 (enV a)) (h1 : -9223372036854775808≤a.t + q∧a.t + q≤9223372036854775807) (h2 : -9223372036854775808≤a.h + q∧a.h + q≤9223372036854775807) :
  Calls Tryz.prog 223 #[.pointer (some ⟨a.g,0,none⟩),.int .i64 q] w fun e w'=>e = .returned (.tuple #[])∧Blk w' a.g 53 (enV (restockL a q))∧Touch (· = a.g) w w':=by
 have hw1:IntKind.i64.wrap (a.t + q)=a.t + q:=IntWalk.i64_in _ h1
 have hw2:IntKind.i64.wrap (a.h + q)=a.h + q:=IntWalk.i64_in _ h2
 obtain ⟨CB,hC0,hC1⟩:∃ CB:Bool→World→Prop,(∀ w',CB false w' ↔ (Blk w' a.g 53 (enV a)∧Touch (· = a.g) w w'))∧(∀ w',CB true w' ↔ (Blk w' a.g 53 ((enV a).setIfInBounds 5 (.int .i64 (a.t + q)))∧Touch (· = a.g) w w')) :=
  ⟨fun b w'=>match b with | false=>(Blk w' a.g 53 (enV a)∧Touch (· = a.g) w w') | true=>(Blk w' a.g 53 ((enV a).setIfInBounds 5 (.int .i64 (a.t + q)))∧Touch (· = a.g) w w'),fun _=>Iff.rfl,fun _=>Iff.rfl⟩
 obtain ⟨C,hCd⟩:∃ C:World→Prop,∀ w',C w' ↔ ∃ b,CB b w':=⟨_,fun _=>Iff.rfl⟩
 obtain ⟨D,hDd⟩:∃ D:World→Prop,∀ w',D w' ↔ CB false w':=⟨_,fun _=>Iff.rfl⟩
 have HCC:=hid (fun b w' (h:CB b w')=>(hCd w').2 ⟨b,h⟩)
 have HDD:=hid (fun w' (h:CB false w')=>(hDd w').2 h)
 have hC:CB false w.drew:=(hC0 _).2 ⟨hB.next (below_drewN (Below.refl _ _) 1),(Touch.refl _ _).drew⟩
 have hne:Nonempty (In C):=⟨⟨w.drew,HCC.out _ _ hC⟩⟩
 have hnd:Nonempty (In D):=⟨⟨w.drew,HDD.out _ hC⟩⟩
 have d1:∀ p:In D,p.w.cell? ⟨a.g,5,none⟩=some (.int .i64 a.t):=fun p=>((hC0 _).1 ((hDd _).1 p.h)).1.cell 5
 have g2:∀ p:In C,p.w.cell? ⟨a.g,2,none⟩=some (.int .i64 a.h):=fun p=>by
  obtain ⟨b,hb⟩:=(hCd _).1 p.h
  cases b with
  | false=>exact ((hC0 _).1 hb).1.cell 2
  | true=>exact ((hC1 _).1 hb).1.cell 2
 have HC0:=hid hC0
 have HC1:=hid hC1
 clear hC0 hC1 hCd hDd hB h1 h2
 obtain ⟨g,hg⟩:∃ g,g=a.g:=⟨_,rfl⟩
 go_enter Tryz.func223,Tryz.ntmps223
 refine wp_region_turn CB 16 17 (by decide) (by kernel_rfl) (by kernel_rfl) hC ?_
 clear hC
 refine wpT_part C HCC.out 3 3 (by kernel_rfl) (by kernel_rfl) (by decide) ?_
 simp only [List.take_succ_cons,List.take_zero,List.drop_succ_cons,List.drop_zero]
 repeat (first | go_big_quiet_step (fail) | quiet_step (fail))
 refine wpQuiet_nil ?_
 refine wpT_call (by rfl) (.pointer (some ⟨a.g,0,none⟩)) (by kernel_rfl) (fun bb wp hwp => ?_) ?_
 ·first | exact ⟨hwp,rfl⟩ | (go_simp; first | exact hwp | exact ⟨hwp,rfl⟩)
 refine wpT_part0 D HDD.out 4 8 (by kernel_rfl) (by kernel_rfl) (by decide) (by kernel_rfl) ?_
 simp only [List.take_succ_cons,List.take_zero,List.drop_succ_cons,List.drop_zero]
 repeat (first | go_big_quiet_step (fail) | quiet_step (fail))
 refine wpQuiet_nil ?_
 refine wpT_part C HCC.out 1 9 (by kernel_rfl) (by kernel_rfl) (by decide) ?_
 simp only [List.take_succ_cons,List.take_zero,List.drop_succ_cons,List.drop_zero]
 repeat (first | go_big_quiet_step (fail) | quiet_step (fail))
 refine wpQuiet_nil ?_
 refine wpT_call (by rfl) (.pointer (some ⟨a.g,0,none⟩)) (by kernel_rfl) (fun bb wp hwp => ?_) ?_
 ·first | exact ⟨hwp,rfl⟩ | (go_simp; first | exact hwp | exact ⟨hwp,rfl⟩)
 refine wpT_part C HCC.out 4 14 (by kernel_rfl) (by kernel_rfl) (by decide) ?_
 simp only [List.take_succ_cons,List.take_zero,List.drop_succ_cons,List.drop_zero]
 repeat (first | go_big_quiet_step (fail) | quiet_step (fail))
 refine wpQuiet_nil ?_
 refine wpT_call (by rfl) (.pointer (some ⟨a.g,0,none⟩)) (by kernel_rfl) (fun bb wp hwp => ?_) ?_
 ·first | exact ⟨hwp,rfl⟩ | (go_simp; first | exact hwp | exact ⟨hwp,rfl⟩)
 refine wpT_part C HCC.out 1 16 (by kernel_rfl) (by kernel_rfl) (by decide) ?_
 simp only [List.take_succ_cons,List.take_zero,List.drop_succ_cons,List.drop_zero]
 repeat (first | go_big_quiet_step (fail) | quiet_step (fail))
 refine wpQuiet_nil ?_
 refine wpT_turn undef (by kernel_rfl) (fun wp hwp => ?_) ?_
 ·obtain ⟨hB,hT⟩:=(HC0.out _).1 hwp
  have x1:=hB.cell 5
  have f1:=hB.free 5
  have lg:=hB.lt
  have K:CB true (wp.setCell ⟨a.g,5,none⟩ (.int .i64 (a.t + q))):=(HC1.out _).2 ⟨hB.set_ 5 _,hT.then (Touch.setCell wp a.g 5 _)⟩
  simp only [enV] at x1
  clear hB hT hwp
  go_simp
  exact ⟨K,rfl⟩
 ·refine wpT_nil ?_
  intro wq hq
  obtain ⟨hB,hT⟩:=(HC1.out _).1 hq
  have x2:wq.cell? ⟨a.g,2,none⟩=some (.int .i64 a.h):=hB.cell 2
  have f2:=hB.free 2
  have lg:=hB.lt
  have HF:=hid (And.intro (hB.set_ 2 (.int .i64 (a.h + q))) (hT.then (Touch.setCell wq a.g 2 (.int .i64 (a.h + q)))))
  clear hB hT hq d1 g2 hne hnd
  go_wp2_with fail
  go_end0
  exact ⟨rfl,HF.out.1,HF.out.2⟩
end Go.Proofs.YtakaalldbnklcaaGreat.Sk
namespace Go.Proofs.YtakaalldbnklcaaGreat.Sk
open Go.RowKit Go.WideShapes Go.ChangeShapes Go.ChangeAt Go.Deep
set_option linter.unusedVariables false
def mvL (f:Lv→Int→Lv):List (Int × Lv)→List Ln→List (Int × Lv)
 | lv,[]=>lv
 | lv,x :: ls=>mvL f (match mget lv x.i with | some a=>mset lv x.i (f a x.q) | none=>lv) ls
theorem mvL_snoc {f:Lv→Int→Lv} {lv:List (Int × Lv)} {x:Ln}:∀ {ls:List Ln},mvL f lv (ls++[x])=(match mget (mvL f lv ls) x.i with | some a=>mset (mvL f lv ls) x.i (f a x.q) | none=>mvL f lv ls):=by
 intro ls
 induction ls generalizing lv with
 | nil=>rfl
 | cons y l ih=>simp only [List.cons_append,mvL]; exact ih
theorem mvL_get {f:Lv→Int→Lv} {id:Int}:∀ {ls:List Ln} {lv:List (Int × Lv)},hasI ls id=false→mget (mvL f lv ls) id=mget lv id:=by
 intro ls
 induction ls with
 | nil=>intro lv _; rfl
 | cons y l ih =>
  intro lv h
  unfold hasI at h
  simp only [List.any_cons,Bool.or_eq_false_iff] at h
  simp only [mvL]
  rw [ih h.2]
  cases hm:mget lv y.i with
  | none=>rfl
  | some a =>
   simp only
   rw [mget_mset,if_neg]
   intro e
   subst e
   simp at h
theorem mvL_same {τ:Type} {f:Lv→Int→Lv} (g:Lv→τ) (hf:∀ a q,g (f a q)=g a):∀ {ls:List Ln} {lv:List (Int × Lv)},(lv.map (·.1)).Nodup→(mvL f lv ls).map (fun p=>(p.1,g p.2))=lv.map (fun p=>(p.1,g p.2)):=by
 intro ls
 induction ls with
 | nil=>intro lv _; rfl
 | cons y l ih =>
  intro lv hd
  simp only [mvL]
  cases hm:mget lv y.i with
  | none=>exact ih hd
  | some a =>
   simp only
   have h1:(mset lv y.i (f a y.q)).map (fun p=>(p.1,g p.2))=lv.map (fun p=>(p.1,g p.2)):=mset_map_same g hm hd (hf a y.q)
   rw [ih ?_,h1]
   have:=congrArg (List.map Prod.fst) h1
   rw [List.map_map,List.map_map] at this
   show ((mset lv y.i (f a y.q)).map (·.1)).Nodup
   rw [show (mset lv y.i (f a y.q)).map (·.1)=lv.map (·.1) from this]
   exact hd
theorem own_same {f:Lv→Int→Lv} (hf:∀ a q,(f a q).g=a.g) {BL BG:Nat} {lv:List (Int × Lv)} {gs:List (Int × Gd)} {ls:List Ln} (hd:(lv.map (·.1)).Nodup) {k:Nat} (h:Own BL BG (mvL f lv ls) gs k):Own BL BG lv gs k:=by
 rcases h with e | e | ⟨p,hp,e⟩ | e
 ·exact .inl e
 ·exact .inr (.inl e)
 ·have h1:=mvL_same (f:=f) Lv.g hf (ls:=ls) hd
  have h2:(p.1,p.2.g) ∈ lv.map (fun p=>(p.1,p.2.g)):=by rw [← h1]; exact List.mem_map.2 ⟨p,hp,rfl⟩
  obtain ⟨p',hp',e'⟩:=List.mem_map.1 h2
  simp only [Prod.mk.injEq] at e'
  exact .inr (.inr (.inl ⟨p',hp',by rw [e'.2]; exact e⟩))
 ·exact .inr (.inr (.inr e))
section
variable {n0:Nat} {w w':World} {X BL BG:Nat} {lv:List (Int × Lv)} {gs:List (Int × Gd)}
def Does (N:FuncId) (f:Lv→Int→Lv) (a:Lv) (q:Int):Prop:=∀ w,Blk w a.g 53 (enV a)→Calls Tryz.prog N #[.pointer (some ⟨a.g,0,none⟩),.int .i64 q] w fun e w'=>e = .returned (.tuple #[])∧Blk w' a.g 53 (enV (f a q))∧Touch (· = a.g) w w'
set_option maxRecDepth 100000 in
set_option maxHeartbeats 8000000 in
theorem move_any (N:FuncId) (hN:∀ (args:Array Value) (w:World),(callFunc N args).run Tryz.prog w = .ok (.enter N args) w) (f:Lv→Int→Lv) (hf:∀ a q,(f a q).g=a.g) (h:IsBook n0 w X BL BG lv gs) (o:Int) {d:Gd} (hd:mget gs o=some d) (h4:d.ls.length≤4)
  (hln:∀ k,LnOk d.ls k) (hkn:knowF lv d.ls=true) (hdo:∀ x ∈ d.ls,∀ a,mget lv x.i=some a→Does N f a x.q) :
  Calls Tryz.prog 171 #[.pointer (some ⟨X,0,none⟩),.int .i64 o,.func (.func N) #[] #[]] w fun e w'=>e = .returned (.tuple #[])∧IsBook n0 w' X BL BG (mvL f lv d.ls) gs∧Touch (Own BL BG lv gs) w w':=by
 have c1:=h.cellG
 have l2:=h.lookG o
 rw [show ptrG gs o=some ⟨d.g,0,none⟩ from by unfold ptrG; rw [hd]; rfl] at l2
 have hB:=h.atG hd
 have g2:w.cell? ⟨d.g,2,none⟩=some (.slice (some ⟨d.b,0,none⟩) d.ls.length d.cap):=hB.cell 2
 have HD:=hid hd
 have HDO:=hid hdo
 have HLN:=hid hln
 have HKN:=hid hkn
 have HND:=hid h.lvs.nodup
 have H:=hid h
 clear hd hdo hln hkn h hB
 go_enter Tryz.func171,Tryz.ntmps171
 go_wp2_with fail
 clear c1 l2 g2
 go_loopw [18] (fun i wr=>∃ k:Nat,k≤d.ls.length∧i = .int .i64 k∧IsBook n0 wr X BL BG (mvL f lv (d.ls.take k)) gs∧Touch (Own BL BG lv gs) w wr) (fun i _=>d.ls.length - nOf i)
 case atStart=>exact ⟨0,Nat.zero_le _,rfl,H.out,Touch.refl _ _⟩
 case round =>
  obtain ⟨k,hk,rfl,hI,hT⟩:=hrel
  by_cases hlt:k < d.ls.length
  ·obtain ⟨x,hx⟩:∃ x,d.ls[k]?=some x:=⟨d.ls[k],List.getElem?_eq_getElem hlt⟩
   have hR:=(hI.lns _ (mget_mem HD.out)).1
   obtain ⟨b',off',e,hbs,hcc⟩:=hR.at_ 2 enL_len (by omega) hx
   simp only [Option.some.injEq,Addr.mk.injEq,and_true] at e
   obtain ⟨rfl,rfl⟩:=e
   have hmem:=List.mem_of_getElem? hx
   have hks:=List.all_eq_true.1 HKN.out x hmem
   obtain ⟨a,ha⟩:=Option.isSome_iff_exists.1 hks
   have hg:mget (mvL f lv (d.ls.take k)) x.i=some a:=by rw [mvL_get (HLN.out k x hx).2.2]; exact ha
   have hdo:=HDO.out x hmem a ha
   have HS:=hid (show mvL f lv (d.ls.take (k + 1))=mset (mvL f lv (d.ls.take k)) x.i (f a x.q) from by
    rw [List.take_add_one,hx]
    show mvL f lv (d.ls.take k++[x])=_
    rw [mvL_snoc,hg])
   obtain ⟨xi,xq⟩:=x
   simp only at hg hdo HS ha
   have q0:wr.cell? ⟨d.b,k * 2,none⟩=some (.int .i64 xi):=by have:=hcc 0 _ rfl; simpa using this
   have q1:wr.cell? ⟨d.b,k * 2 + 1,none⟩=some (.int .i64 xq):=by have:=hcc 1 _ rfl; simpa using this
   have hwb:Below wr.heap.size wr (wr.alloc (.cells #[.int .i64 xi,.int .i64 xq] 67)):=(Below.refl _ _).alloc (Nat.le_refl _) _
   have hG0:Blk (wr.alloc (.cells #[.int .i64 xi,.int .i64 xq] 67)) wr.heap.size 67 #[.int .i64 xi,.int .i64 xq]:=Blk.new _ _ _
   obtain ⟨wz,hwz⟩:∃ wz,wz=wr.alloc (.cells #[.int .i64 xi,.int .i64 xq] 67):=⟨_,rfl⟩
   obtain ⟨G,hGG⟩:∃ G,G=wr.heap.size:=⟨_,rfl⟩
   have HW:=hid hwz
   have HGG:=hid hGG
   rw [← hwz, ← hGG] at hG0
   rw [← hwz] at hwb
   have hz:=(hI.next hwb).next (below_drewN (Below.refl _ wz) 1)
   have hTz:=(hT.then (.of_below hwb)).drew
   have c0:wz.cell? ⟨X,0,none⟩=some (.map (some BL)):=hz.cellL
   have g0:wz.cell? ⟨G,0,none⟩=some (.int .i64 xi):=hG0.cell 0
   have g1:wz.cell? ⟨G,1,none⟩=some (.int .i64 xq):=hG0.cell 1
   have lX:X < wz.heap.size:=hz.blk.lt
   have lG:G < wz.heap.size:=hG0.lt
   have l1:(Instr.lookup 126 (.map (some BL)) (.int .i64 xi) false).run Tryz.prog wz.drew = .ok (.pointer (some ⟨a.g,0,none⟩)) wz.drew:=by
    have:=hz.lookL xi
    rw [show ptrL (mvL f lv (d.ls.take k)) xi=some ⟨a.g,0,none⟩ from by unfold ptrL; rw [hg]; rfl] at this
    exact this
   have K:=hid (hdo _ (hz.atL hg))
   have HZ:=hid (And.intro hz (And.intro hg hTz))
   clear hR hcc hx hwz hGG hwb hG0 hI hT hbs hks ha hg hdo hz hTz hmem
   go_wp2_with fail
   rw [← HW.out, ← HGG.out]
   refine wp_tail 10 (by kernel_rfl) (by kernel_rfl) ?_
   simp only [List.take_succ_cons,List.take_zero,List.drop_succ_cons,List.drop_zero]
   repeat still_step
   refine wpStill_nil ?_
   go_wp2_with fail
   refine K.out.mono ?_
   rintro e w5 ⟨rfl,hB5,hT5⟩
   obtain ⟨hz,hg,hTz⟩:=HZ.out
   have h5:=hz.putL hg (hf a xq) hT5 hB5
   rw [← HS.out] at h5
   have hT6:Touch (Own BL BG lv gs) w w5:=hTz.then (hT5.mono (fun j hj=>own_same hf HND.out (.inr (.inr (.inl ⟨_,mget_mem hg,hj.symm⟩)))))
   clear K HZ hz hg hTz hB5 hT5 c0 g0 g1 lX lG l1 q0 q1
   go_wp2_with fail
   go_roundw
   case rel=>exact ⟨k + 1,by omega,by go_num,h5,hT6⟩
   case measure=>simp [nOf]; omega
  ·have hk':k=d.ls.length:=by omega
   subst hk'
   rw [List.take_length] at hI
   have HF:=hid (And.intro hI hT)
   clear hk hlt hI hT
   go_wp2_with fail
   go_end0
   exact ⟨rfl,HF.out.1,HF.out.2⟩
end
end Go.Proofs.YtakaalldbnklcaaGreat.Sk
namespace Go.Proofs.YtakaalldbnklcaaGreat.Sk
open Go.RowKit Go.WideShapes Go.ChangeShapes Go.ChangeAt Go.Deep
set_option linter.unusedVariables false
section
variable {n0:Nat} {w w':World} {X BL BG:Nat} {lv:List (Int × Lv)} {gs:List (Int × Gd)}
def shortL (lv:List (Int × Lv)) (x:Ln):Bool:=match mget lv x.i with | some a=>decide (a.h < x.q) | none=>false
set_option maxRecDepth 100000 in
set_option maxHeartbeats 4000000 in
theorem short_any (h:IsBook n0 w X BL BG lv gs) (x:Ln) (B:Nat) (hB:Blk w B 38 #[.pointer (some ⟨X,0,none⟩)]) {a:Lv} (ha:mget lv x.i=some a) :
  Calls Tryz.prog 170 #[.agg #[.int .i64 x.i,.int .i64 x.q],.pointer (some ⟨B,0,none⟩)] w fun e w'=>e = .returned (.bool (shortL lv x))∧Below w.heap.size w w':=by
 have hsv:shortL lv x=decide (a.h < x.q):=by unfold shortL; rw [ha]
 rw [hsv]
 obtain ⟨xi,xq⟩:=x
 simp only at ha ⊢
 have hwb:Below w.heap.size w (w.alloc (.cells #[.int .i64 xi,.int .i64 xq] 67)):=(Below.refl _ _).alloc (Nat.le_refl _) _
 have hG0:Blk (w.alloc (.cells #[.int .i64 xi,.int .i64 xq] 67)) w.heap.size 67 #[.int .i64 xi,.int .i64 xq]:=Blk.new _ _ _
 obtain ⟨wz,hwz⟩:∃ wz,wz=w.alloc (.cells #[.int .i64 xi,.int .i64 xq] 67):=⟨_,rfl⟩
 obtain ⟨G,hGG⟩:∃ G,G=w.heap.size:=⟨_,rfl⟩
 have HW:=hid hwz
 have HGG:=hid hGG
 rw [← hwz] at hwb hG0
 rw [← hGG] at hG0
 obtain ⟨C,hCd⟩:∃ C:World→Prop,∀ w',C w' ↔ Below wz.heap.size wz w':=⟨_,fun _=>Iff.rfl⟩
 have hC:C wz.drew:=(hCd _).2 ((Below.refl _ _).drew)
 have hI:=fun (p:In C)=>h.next (bthen hwb ((hCd _).1 p.h))
 have g0:∀ p:In C,p.w.cell? ⟨G,0,none⟩=some (.int .i64 xi):=fun p=>(hG0.next ((hCd _).1 p.h)).cell 0
 have g1:∀ p:In C,p.w.cell? ⟨G,1,none⟩=some (.int .i64 xq):=fun p=>(hG0.next ((hCd _).1 p.h)).cell 1
 have b0:∀ p:In C,p.w.cell? ⟨B,0,none⟩=some (.pointer (some ⟨X,0,none⟩)):=fun p=>(hB.next (bthen hwb ((hCd _).1 p.h))).cell 0
 have c0:∀ p:In C,p.w.cell? ⟨X,0,none⟩=some (.map (some BL)):=fun p=>(hI p).cellL
 have a2:∀ p:In C,p.w.cell? ⟨a.g,2,none⟩=some (.int .i64 a.h):=fun p=>((hI p).atL ha).cell 2
 have l0:∀ p:In C,(Instr.lookup 126 (.map (some BL)) (.int .i64 xi) false).run Tryz.prog p.w = .ok (.pointer (some ⟨a.g,0,none⟩)) p.w:=fun p=>by
  have:=(hI p).lookL xi
  rw [show ptrL lv xi=some ⟨a.g,0,none⟩ from by unfold ptrL; rw [ha]; rfl] at this
  exact this
 have HCd:=hid hCd
 have HWB:=hid hwb
 clear hCd hI hG0 hwz hGG hwb h hB ha hsv
 go_enter Tryz.func170,Tryz.ntmps170
 go_wp2_with fail
 rw [← HW.out, ← HGG.out]
 refine wp_region_in C (by kernel_rfl) (by kernel_rfl) hC ?_
 intro hne
 clear hC
 repeat (first | go_big_quiet_step (fail) | quiet_step (fail))
 refine wpQuiet_nil ?_
 intro wq hq
 have hb:=bthen HWB.out ((HCd.out _).1 hq)
 clear g0 g1 b0 c0 a2 l0 hne hq HCd
 go_wp2_with fail
 go_ret
 exact ⟨rfl,hb⟩
theorem rowBlk15 {w:World} {base n cap m:Nat} {e:TypeId} {size:Nat} {A:Option Addr} {xs:List Value} (h:w.ownsRow base e size (.slice A n cap) m xs) {b:Nat} (hb:A.map (·.block)=some b):∃ cs,Blk w b e cs:=by
 rcases h.2 with ⟨h1,_⟩ | ⟨g,cap',cur,h1,_,hh,_⟩
 ·simp at h1
  rw [h1.1] at hb
  simp at hb
 ·simp at h1
  rw [h1.1] at hb
  simp at hb
  subst hb
  exact ⟨_,hh⟩
def AllocPost (n0 X BL BG:Nat) (lv:List (Int × Lv)) (gs:List (Int × Gd)) (o:Int) (ls:List Ln) (w:World) (e:Ending) (w':World):Prop :=
 ∃ d:Gd,e = .returned (.int .i64 0)∧IsBook n0 w' X BL BG (mvL allocL lv ls) (mset gs o d)∧(d.o=o∧d.st=1∧d.ls=ls)∧w.heap.size≤d.g∧w.heap.size≤d.b∧Touch (Own BL BG lv (mset gs o d)) w w'
set_option maxRecDepth 100000 in
set_option maxHeartbeats 8000000 in
theorem alloc_no (h:IsBook n0 w X BL BG lv gs) (o:Int) (A:Option Addr) (cap:Nat) (ls:List Ln) (hR:Rd w A (ls.flatMap enL)) (hcap:ls.length≤cap) (hcm:cap≤maxLen) (hz:errF lv gs o ls ≠ 0) :
  Calls Tryz.prog 121 #[.pointer (some ⟨X,0,none⟩),.int .i64 o,.slice A ls.length cap] w fun e w'=>e = .returned (.int .i64 (errF lv gs o ls))∧Below w.heap.size w w':=by
 have hwb:Below w.heap.size w (w.alloc (.cells #[.pointer (some ⟨X,0,none⟩)] 38)):=(Below.refl _ _).alloc (Nat.le_refl _) _
 have F:=hid (fit_any (h.next hwb) o A cap ls (hR.below hwb) hcap hcm)
 have hzb:(errF lv gs o ls != 0)=true:=by simpa using hz
 generalize errF lv gs o ls=z at F hzb
 have HB:=hid hwb
 clear hz h hR hwb
 go_enter Tryz.func121,Tryz.ntmps121
 go_wp2_with (first | (go_at_call 169; refine F.out.mono ?_; rintro e w5 ⟨rfl,hb5⟩))
 go_ret
 exact ⟨rfl,bthen HB.out hb5⟩
set_option maxRecDepth 100000 in
set_option maxHeartbeats 16000000 in
theorem alloc_fit (h:IsBook n0 w X BL BG lv gs) (hn:n0≤w.heap.size) (o:Int) (A:Option Addr) (cap:Nat) (ls:List Ln) (hR:Rd w A (ls.flatMap enL)) (hcap:ls.length≤cap) (hcm:cap≤maxLen) (hz:errF lv gs o ls=0) (hbd:∀ p ∈ lv,LvB p.2) :
    Calls Tryz.prog 121 #[.pointer (some ⟨X,0,none⟩),.int .i64 o,.slice A ls.length cap] w fun e w'=>(ls.any (shortL lv)=true∧e = .returned (.int .i64 150)∧Below w.heap.size w w')∨(ls.any (shortL lv)=false∧AllocPost n0 X BL BG lv gs o ls w e w'):=by
  have hmf:∀ (fn:Fn) (first cap:Array Value) (w:World),(Instr.makeFunc fn first cap).run Tryz.prog w = .ok (.func fn first cap) w:=fun _ _ _ _=>rfl
  obtain ⟨hfit,hkn,hnone⟩:=errF_zero hz
  have h1:=hfit.1.2.1
  have h4:=hfit.1.2.2
  obtain ⟨b,off,rfl⟩:∃ b off,A=some ⟨b,off,none⟩:=by
    rcases hR with h0 | ⟨b,off,hA,_,_⟩
    · have:=length_flatMap_const enL 2 enL_len ls
      rw [h0] at this
      simp at this
      omega
    · exact ⟨b,off,hA⟩
  obtain ⟨w1,hw1⟩:∃ w1,w1=w.alloc (.cells #[.pointer (some ⟨X,0,none⟩)] 38):=⟨_,rfl⟩
  obtain ⟨B,hBB⟩:∃ B,B=w.heap.size:=⟨_,rfl⟩
  have hb1:Below w.heap.size w w1:=by rw [hw1]; exact (Below.refl _ _).alloc (Nat.le_refl _) _
  have HB:=hid (show Blk w1 B 38 #[.pointer (some ⟨X,0,none⟩)] from by rw [hw1,hBB]; exact Blk.new _ _ _)
  have H0:=hid (h.next hb1)
  have hR1:=hid (hR.below hb1)
  have F:=hid (fit_any (h.next hb1) o _ cap ls (hR.below hb1) hcap hcm)
  rw [hz] at F
  have HB1:=hid hb1
  have HW1:=hid hw1
  have HBB:=hid hBB
  have HKN:=hid hkn
  have HFIT:=hid hfit
  have HNONE:=hid hnone
  have HBD:=hid hbd
  have HN:=hid hn
  have b0:w1.cell? ⟨B,0,none⟩=some (.pointer (some ⟨X,0,none⟩)):=HB.out.cell 0
  clear h hR hb1 hw1 hBB hz hkn hfit hnone hbd hn
  go_enter Tryz.func121,Tryz.ntmps121
  go_upto_region 3 with fail
  rw [← HW1.out, ← HBB.out]
  go_wp2_with fail
  refine F.out.mono ?_
  rintro e w5 ⟨rfl,hb5⟩
  have K:=containsF_any ls (some ⟨b,off,none⟩) cap 170 (.pointer (some ⟨B,0,none⟩)) (shortL lv) w5 (hR1.out.below hb5) (by omega) (fun _ _=>by go_simp) (fun y hy w' hb'=>by
    obtain ⟨a,ha⟩:=Option.isSome_iff_exists.1 (List.all_eq_true.1 HKN.out y hy)
    exact short_any (H0.out.next (bthen hb5 hb')) y B (HB.out.next (bthen hb5 hb')) ha)
  have HB5:=hid hb5
  clear F b0 hb5
  cases hs:ls.any (shortL lv) with
  | true =>
    rw [hs] at K
    have HS:=hid hs
    replace K:=hid K
    clear hs
    go_wp2_with (first | (go_at_call 101; refine K.out.mono ?_; rintro e w6 ⟨rfl,hb6⟩))
    go_ret
    exact .inl ⟨HS.out,rfl,bthen HB1.out (bthen HB5.out hb6)⟩
  | false =>
    rw [hs] at K
    have HS:=hid hs
    replace K:=hid K
    clear hs
    go_wp2_with (first | (go_at_call 101; refine K.out.mono ?_; rintro e w6 ⟨rfl,hb6⟩))
    have HB6:=hid (bthen HB5.out hb6)
    clear K hb6
    have H6:=hid (H0.out.next HB6.out)
    have hBk:=HB.out.next HB6.out
    have KC:=hid (clone_some ls b off cap w6.drew ((hR1.out.below HB6.out).below (below_drewN (Below.refl _ _) 1)) (by omega))
    unfold NewRowOf at KC
    have hb6d:Below w6.heap.size w6 w6.drew:=below_drewN (Below.refl _ _) 1
    have b0:w6.cell? ⟨B,0,none⟩=some (.pointer (some ⟨X,0,none⟩)):=hBk.cell 0
    have c0:w6.cell? ⟨X,1,none⟩=some (.map (some BG)):=H6.out.cellG
    have HBk:=hid hBk
    clear hBk
    go_region_held3 (fun w'=>w'.cell? ⟨B,0,none⟩=some (.pointer (some ⟨X,0,none⟩))∧w'.cell? ⟨X,1,none⟩=some (.map (some BG))) (first | exact ⟨b0,c0⟩ | exact ⟨b7,c7⟩ | exact ⟨b8,c8⟩ | exact ⟨b9,c9⟩)
      (first
        | (go_at_call 60; refine KC.out.mono ?_; rintro e w7 ⟨A7,cp7,rfl,hO7,hb7'⟩
           obtain ⟨g7,cq7,e7,_,_⟩:=own_form hO7 (by omega)
           injection e7 with e8 e9 e10
           subst e8 e10
           have hb7:=bthen hb6d hb7'
           have hI7:=H6.out.next hb7
           have b7:w7.cell? ⟨B,0,none⟩=some (.pointer (some ⟨X,0,none⟩)):=(HBk.out.next hb7).cell 0
           have c7:w7.cell? ⟨X,1,none⟩=some (.map (some BG)):=hI7.cellG
           have hba:Below w7.heap.size w7 (w7.alloc (.cells (enG ⟨w7.heap.size,o,1,g7,cp7,ls⟩) 156)):=(Below.refl _ _).alloc (Nat.le_refl _) _
           have hI8:=hI7.next hba
           have b8:(w7.alloc (.cells (enG ⟨w7.heap.size,o,1,g7,cp7,ls⟩) 156)).cell? ⟨B,0,none⟩=some (.pointer (some ⟨X,0,none⟩)):=(HBk.out.next (bthen hb7 hba)).cell 0
           have c8:(w7.alloc (.cells (enG ⟨w7.heap.size,o,1,g7,cp7,ls⟩) 156)).cell? ⟨X,1,none⟩=some (.map (some BG)):=hI8.cellG
           obtain ⟨w9,hrun,hM9,hg9,hs9⟩:=hI8.gds.store (P:=Tryz.prog) (mt:=128) (et:=235) keyL Tryz.underlying128 o (⟨w7.heap.size,o,1,g7,cp7,ls⟩:Gd)
           simp only [vGd,kI,enG] at hrun b8 c8
           have hO8:=hO7.kept (grown_of_below hba none) (by cases hv:(Value.slice (some ⟨g7,0,none⟩) ls.length cp7).ownBlock <;> simp)
           have hw76:w.heap.size≤w7.heap.size:=Nat.le_trans HB1.out.size (Nat.le_trans HB6.out.size hb7.size)
           have hI9:=hI8.addG (d:=⟨w7.heap.size,o,1,g7,cp7,ls⟩) HNONE.out (Blk.new _ _ _) (fun p hp e=>by have:=(hI7.gc p hp).lt; simp only at e; rw [e] at this; exact absurd this (Nat.lt_irrefl _)) (Nat.le_trans HN.out hw76) (own_rd hO8) (Nat.le_trans HN.out (Nat.le_trans (Nat.le_trans HB1.out.size (Nat.le_trans HB6.out.size hb6d.size)) (hO7.lt g7 rfl).1)) (rowBlk15 hO8 rfl) hM9 hg9
           have b9:w9.cell? ⟨B,0,none⟩=some (.pointer (some ⟨X,0,none⟩)):=((Touch.of_grown hg9).blk (HBk.out.next (bthen hb7 hba)) (fun e=>hI8.gds.notBlk (HBk.out.next (bthen hb7 hba)) e.symm)).cell 0
           have c9:w9.cell? ⟨X,1,none⟩=some (.map (some BG)):=hI9.cellG
           have hgb:w.heap.size≤g7:=Nat.le_trans (Nat.le_trans HB1.out.size (Nat.le_trans HB6.out.size hb6d.size)) (hO7.lt g7 rfl).1
           have hT9:Touch (Own BL BG lv (mset gs o ⟨w7.heap.size,o,1,g7,cp7,ls⟩)) w w9:=(Touch.of_below (bthen HB1.out (bthen HB6.out (bthen hb7 hba)))).then ((Touch.of_grown hg9).mono (fun k hk => .inr (.inl hk)))
           have HF:=hid (And.intro hI9 (And.intro hT9 (And.intro hw76 hgb)))
           clear hO7 hb7 hb7' hba hI7 hI8 hM9 hg9 hs9 hO8 hI9 hT9 hgb))
    all_goals
      obtain ⟨hI9,hT9,hw76,hgb⟩:=HF.out
      have M:=hid (move_any 172 (fun _ _=>by go_simp) allocL (fun _ _=>rfl) hI9 o (d:=⟨w7.heap.size,o,1,g7,cp7,ls⟩) (by rw [mget_mset,if_pos rfl]) h4 HFIT.out.2 HKN.out (fun x hx a ha w' hB'=>by
        obtain ⟨j,hj⟩:=List.mem_iff_getElem?.1 hx
        have h5:=HFIT.out.2 j x hj
        have h6:=HBD.out _ (mget_mem ha)
        unfold LvB at h6
        simp only at h6
        exact alloc_any a x.q w' hB' ⟨by omega,by omega⟩ ⟨by omega,by omega⟩))
      clear hI9 hT9 hw76 hgb hrun b7 c7 b8 c8 c9 b0 c0 hb6d KC
      go_wp2_with fail
      refine M.out.mono ?_
      rintro e w10 ⟨rfl,hI10,hT10⟩
      obtain ⟨hI9,hT9,hw76,hgb⟩:=HF.out
      have HZ:=hid (And.intro hI10 (hT9.then hT10))
      clear M hI10 hT10 hI9 hT9
      go_wp2_with fail
      go_ret
      exact .inr ⟨HS.out,_,rfl,HZ.out.1,⟨rfl,rfl,rfl⟩,hw76,hgb,HZ.out.2⟩
end
end Go.Proofs.YtakaalldbnklcaaGreat.Sk
namespace Go.Proofs.YtakaalldbnklcaaGreat.Sk
open Go.RowKit Go.WideShapes Go.ChangeShapes Go.ChangeAt Go.Deep
set_option linter.unusedVariables false
section
variable {n0:Nat} {w w':World} {X BL BG:Nat} {lv:List (Int × Lv)} {gs:List (Int × Gd)}
set_option maxRecDepth 100000 in
theorem state_none (h:IsBook n0 w X BL BG lv gs) (o:Int) (hm:mget gs o=none) :
  Calls Tryz.prog 219 #[.pointer (some ⟨X,0,none⟩),.int .i64 o] w fun e w'=>e = .returned (.tuple #[.int .i64 0,.int .i64 70])∧w=w':=by
 have c1:=h.cellG
 have l2:=h.lookG o
 rw [show ptrG gs o=none from by unfold ptrG; rw [hm]; rfl] at l2
 clear h hm
 go_enter Tryz.func219,Tryz.ntmps219
 go_wp2_with fail
 go_ret2
 exact ⟨rfl,rfl⟩
set_option maxRecDepth 100000 in
theorem state_some (h:IsBook n0 w X BL BG lv gs) (o:Int) {d:Gd} (hm:mget gs o=some d) :
  Calls Tryz.prog 219 #[.pointer (some ⟨X,0,none⟩),.int .i64 o] w fun e w'=>e = .returned (.tuple #[.int .i64 d.st,.int .i64 0])∧w=w':=by
 have c1:=h.cellG
 have l2:=h.lookG o
 rw [show ptrG gs o=some ⟨d.g,0,none⟩ from by unfold ptrG; rw [hm]; rfl] at l2
 have g1:w.cell? ⟨d.g,1,none⟩=some (.int .i64 d.st):=(h.atG hm).cell 1
 clear h hm
 go_enter Tryz.func219,Tryz.ntmps219
 go_wp2_with fail
 go_ret2
 exact ⟨rfl,rfl⟩
set_option maxRecDepth 100000 in
set_option maxHeartbeats 4000000 in
theorem free_none (h:IsBook n0 w X BL BG lv gs) (o:Int) (hm:mget gs o=none) :
  Calls Tryz.prog 173 #[.pointer (some ⟨X,0,none⟩),.int .i64 o] w fun e w'=>e = .returned (.int .i64 70)∧w=w':=by
 have S:=hid (state_none h o hm)
 clear h hm
 go_enter Tryz.func173,Tryz.ntmps173
 go_wp2_with (first | (go_at_call 219; refine S.out.mono ?_; rintro e w5 ⟨rfl,rfl⟩))
 go_ret
 exact ⟨rfl,rfl⟩
set_option maxRecDepth 100000 in
set_option maxHeartbeats 4000000 in
theorem free_gone (h:IsBook n0 w X BL BG lv gs) (o:Int) {d:Gd} (hm:mget gs o=some d) (hs:d.st=2) :
  Calls Tryz.prog 173 #[.pointer (some ⟨X,0,none⟩),.int .i64 o] w fun e w'=>e = .returned (.int .i64 130)∧w=w':=by
 have S:=hid (state_some h o hm)
 rw [hs] at S
 clear h hm
 go_enter Tryz.func173,Tryz.ntmps173
 go_wp2_with (first | (go_at_call 219; refine S.out.mono ?_; rintro e w5 ⟨rfl,rfl⟩))
 go_ret
 exact ⟨rfl,rfl⟩
set_option maxRecDepth 100000 in
set_option maxHeartbeats 4000000 in
theorem free_back (h:IsBook n0 w X BL BG lv gs) (o:Int) {d:Gd} (hm:mget gs o=some d) (hs:d.st=3) :
  Calls Tryz.prog 173 #[.pointer (some ⟨X,0,none⟩),.int .i64 o] w fun e w'=>e = .returned (.int .i64 0)∧w=w':=by
 have S:=hid (state_some h o hm)
 rw [hs] at S
 clear h hm
 go_enter Tryz.func173,Tryz.ntmps173
 go_wp2_with (first | (go_at_call 219; refine S.out.mono ?_; rintro e w5 ⟨rfl,rfl⟩))
 go_ret
 exact ⟨rfl,rfl⟩
set_option maxRecDepth 100000 in
set_option maxHeartbeats 8000000 in
theorem free_yes (h:IsBook n0 w X BL BG lv gs) (o:Int) {d:Gd} (hm:mget gs o=some d) (hs:d.st=1) (h4:d.ls.length≤4) (hln:∀ k,LnOk d.ls k) (hkn:knowF lv d.ls=true) (hbd:∀ p ∈ lv,LvB p.2) :
  Calls Tryz.prog 173 #[.pointer (some ⟨X,0,none⟩),.int .i64 o] w fun e w'=>e = .returned (.int .i64 0)∧IsBook n0 w' X BL BG (mvL freeL lv d.ls) (mdel gs o)∧Touch (Own BL BG lv gs) w w':=by
 have S:=hid (state_some h o hm)
 rw [hs] at S
 have M:=hid (move_any 220 (fun _ _=>by go_simp) freeL (fun _ _=>rfl) h o hm h4 hln hkn (fun x hx a ha w' hB'=>by
  obtain ⟨j,hj⟩:=List.mem_iff_getElem?.1 hx
  have h5:=hln j x hj
  have h6:=hbd _ (mget_mem ha)
  unfold LvB at h6
  simp only at h6
  exact free_any a x.q w' hB' ⟨by omega,by omega⟩ ⟨by omega,by omega⟩))
 clear h hm hln hkn hbd h4
 go_enter Tryz.func173,Tryz.ntmps173
 go_wp2_with (first | (go_at_call 219; refine S.out.mono ?_; rintro e w5 ⟨rfl,rfl⟩))
 refine M.out.mono ?_
 rintro e w6 ⟨rfl,hI,hT⟩
 have c1:=hI.cellG
 have HI:=hid hI
 have HT:=hid hT
 clear M S hI hT
 go_wp2_with (first | (at_delete; refine wpList_drop _ rfl _ _ 128 235 3 rfl keyL Tryz.underlying128 BG gs rfl HI.out.gds o rfl ?_; intro w3 hM3 hg3 hs3))
 have h3:=hid (HI.out.delG hM3 hg3)
 have hT3:=hid (HT.out.then ((Touch.of_grown hg3).mono (fun k hk=>(.inr (.inl hk):Own BL BG lv gs k))))
 clear hM3 hg3 hs3
 go_wp2_with fail
 go_ret
 exact ⟨rfl,h3.out,hT3.out⟩
set_option maxRecDepth 100000 in
set_option maxHeartbeats 4000000 in
theorem onward_none (h:IsBook n0 w X BL BG lv gs) (o st:Int) (v:Value) (hm:mget gs o=none) :
  Calls Tryz.prog 221 #[.pointer (some ⟨X,0,none⟩),.int .i64 o,.int .i64 st,v] w fun e w'=>e = .returned (.int .i64 70)∧w=w':=by
 have S:=hid (state_none h o hm)
 clear h hm
 go_enter Tryz.func221,Tryz.ntmps221
 go_wp2_with (first | (go_at_call 219; refine S.out.mono ?_; rintro e w5 ⟨rfl,rfl⟩))
 go_ret
 exact ⟨rfl,rfl⟩
set_option maxRecDepth 100000 in
set_option maxHeartbeats 4000000 in
theorem onward_other (h:IsBook n0 w X BL BG lv gs) (o st:Int) (v:Value) {d:Gd} (hm:mget gs o=some d) (hs:d.st ≠ st) :
  Calls Tryz.prog 221 #[.pointer (some ⟨X,0,none⟩),.int .i64 o,.int .i64 st,v] w fun e w'=>e = .returned (.int .i64 130)∧w=w':=by
 have S:=hid (state_some h o hm)
 have hb:(d.st != st)=true:=by simpa using hs
 clear h hm hs
 go_enter Tryz.func221,Tryz.ntmps221
 go_wp2_with (first | (go_at_call 219; refine S.out.mono ?_; rintro e w5 ⟨rfl,rfl⟩))
 go_ret
 exact ⟨rfl,rfl⟩
def nextG (d:Gd):Gd:=⟨d.g,d.o,d.st + 1,d.b,d.cap,d.ls⟩
set_option maxRecDepth 100000 in
set_option maxHeartbeats 8000000 in
theorem onward_yes (N:FuncId) (hN:∀ (args:Array Value) (w:World),(callFunc N args).run Tryz.prog w = .ok (.enter N args) w) (f:Lv→Int→Lv) (hf:∀ a q,(f a q).g=a.g) (h:IsBook n0 w X BL BG lv gs) (o st:Int) {d:Gd} (hm:mget gs o=some d) (hs:d.st=st) (hs2:0≤st∧st≤3) (h4:d.ls.length≤4) (hln:∀ k,LnOk d.ls k) (hkn:knowF lv d.ls=true) (hdo:∀ x ∈ d.ls,∀ a,mget lv x.i=some a→Does N f a x.q) :
  Calls Tryz.prog 221 #[.pointer (some ⟨X,0,none⟩),.int .i64 o,.int .i64 st,.func (.func N) #[] #[]] w fun e w'=>e = .returned (.int .i64 0)∧IsBook n0 w' X BL BG (mvL f lv d.ls) (mset gs o (nextG d))∧Touch (Own BL BG lv gs) w w':=by
 have S:=hid (state_some h o hm)
 rw [hs] at S
 have M:=hid (move_any N hN f hf h o hm h4 hln hkn hdo)
 have hb:(st != st)=false:=by simp
 have HM:=hid hm
 have HS:=hid hs
 have HS2:=hid hs2
 clear h hm hs hln hkn hdo h4 hs2
 go_enter Tryz.func221,Tryz.ntmps221
 go_wp2_with (first | (go_at_call 219; refine S.out.mono ?_; rintro e w5 ⟨rfl,rfl⟩))
 refine M.out.mono ?_
 rintro e w6 ⟨rfl,hI,hT⟩
 have c1:=hI.cellG
 have l2:=hI.lookG o
 rw [show ptrG gs o=some ⟨d.g,0,none⟩ from by unfold ptrG; rw [HM.out]; rfl] at l2
 have hB:=hI.atG HM.out
 have g1:w6.cell? ⟨d.g,1,none⟩=some (.int .i64 st):=by rw [← HS.out]; exact hB.cell 1
 have f1:=hB.free 1
 have hw:IntKind.i64.wrap (st + 1)=st + 1:=IntWalk.i64_in _ ⟨by have:=HS2.out; omega,by have:=HS2.out; omega⟩
 have hT1:=Touch.setCell w6 d.g 1 (.int .i64 (st + 1))
 have hB1:=hB.set_ 1 (.int .i64 (st + 1))
 have HF:=hid (And.intro (hI.putG (d':=nextG d) HM.out rfl rfl rfl hT1 (by unfold nextG; rw [HS.out]; simpa [enG] using hB1)) (hT.then (hT1.mono (fun k hk=>(.inr (.inr (.inr ⟨_,mget_mem HM.out,hk.symm⟩)):Own BL BG lv gs k)))))
 clear M S hI hT hB hT1 hB1
 go_wp2_with fail
 go_ret
 exact ⟨rfl,HF.out.1,HF.out.2⟩
set_option maxRecDepth 100000 in
set_option maxHeartbeats 4000000 in
theorem ship_yes (h:IsBook n0 w X BL BG lv gs) (o:Int) {d:Gd} (hm:mget gs o=some d) (hs:d.st=1) (h4:d.ls.length≤4) (hln:∀ k,LnOk d.ls k) (hkn:knowF lv d.ls=true) (hbd:∀ p ∈ lv,LvB p.2) :
  Calls Tryz.prog 174 #[.pointer (some ⟨X,0,none⟩),.int .i64 o] w fun e w'=>e = .returned (.int .i64 0)∧IsBook n0 w' X BL BG (mvL shipL lv d.ls) (mset gs o (nextG d))∧Touch (Own BL BG lv gs) w w':=by
 have S:=hid (onward_yes 222 (fun _ _=>by go_simp) shipL (fun _ _=>rfl) h o 1 hm hs (by omega) h4 hln hkn (fun x hx a ha w' hB'=>by
  obtain ⟨j,hj⟩:=List.mem_iff_getElem?.1 hx
  have h5:=hln j x hj
  have h6:=hbd _ (mget_mem ha)
  unfold LvB at h6
  simp only at h6
  exact ship_any a x.q w' hB' ⟨by omega,by omega⟩ ⟨by omega,by omega⟩))
 clear h hm hs h4 hln hkn hbd
 go_enter Tryz.func174,Tryz.ntmps174
 go_wp2_with (first | (go_at_call 221; refine S.out.mono ?_; rintro e w5 ⟨rfl,hI,hT⟩))
 go_ret
 exact ⟨rfl,hI,hT⟩
set_option maxRecDepth 100000 in
set_option maxHeartbeats 4000000 in
theorem restock_yes (h:IsBook n0 w X BL BG lv gs) (o:Int) {d:Gd} (hm:mget gs o=some d) (hs:d.st=2) (h4:d.ls.length≤4) (hln:∀ k,LnOk d.ls k) (hkn:knowF lv d.ls=true) (hbd:∀ p ∈ lv,LvB p.2) :
  Calls Tryz.prog 175 #[.pointer (some ⟨X,0,none⟩),.int .i64 o] w fun e w'=>e = .returned (.int .i64 0)∧IsBook n0 w' X BL BG (mvL restockL lv d.ls) (mset gs o (nextG d))∧Touch (Own BL BG lv gs) w w':=by
 have S:=hid (onward_yes 223 (fun _ _=>by go_simp) restockL (fun _ _=>rfl) h o 2 hm hs (by omega) h4 hln hkn (fun x hx a ha w' hB'=>by
  obtain ⟨j,hj⟩:=List.mem_iff_getElem?.1 hx
  have h5:=hln j x hj
  have h6:=hbd _ (mget_mem ha)
  unfold LvB at h6
  simp only at h6
  exact restock_any a x.q w' hB' ⟨by omega,by omega⟩ ⟨by omega,by omega⟩))
 clear h hm hs h4 hln hkn hbd
 go_enter Tryz.func175,Tryz.ntmps175
 go_wp2_with (first | (go_at_call 221; refine S.out.mono ?_; rintro e w5 ⟨rfl,hI,hT⟩))
 go_ret
 exact ⟨rfl,hI,hT⟩
theorem ship_not (h:IsBook n0 w X BL BG lv gs) (o:Int) {z:Int} (hz:(mget gs o=none∧z=70)∨∃ d,mget gs o=some d∧d.st ≠ 1∧z=130) :
  Calls Tryz.prog 174 #[.pointer (some ⟨X,0,none⟩),.int .i64 o] w fun e w'=>e = .returned (.int .i64 z)∧w=w':=by
 have S:Hid (Calls Tryz.prog 221 #[.pointer (some ⟨X,0,none⟩),.int .i64 o,.int .i64 1,.func (.func 222) #[] #[]] w fun e w'=>e = .returned (.int .i64 z)∧w=w'):=hid (by
  rcases hz with ⟨h1,rfl⟩ | ⟨d,h1,h2,rfl⟩
  ·exact onward_none h o 1 _ h1
  ·exact onward_other h o 1 _ h1 h2)
 clear h hz
 go_enter Tryz.func174,Tryz.ntmps174
 go_wp2_with (first | (go_at_call 221; refine S.out.mono ?_; rintro e w5 ⟨rfl,rfl⟩))
 go_ret
 exact ⟨rfl,rfl⟩
theorem restock_not (h:IsBook n0 w X BL BG lv gs) (o:Int) {z:Int} (hz:(mget gs o=none∧z=70)∨∃ d,mget gs o=some d∧d.st ≠ 2∧z=130) :
  Calls Tryz.prog 175 #[.pointer (some ⟨X,0,none⟩),.int .i64 o] w fun e w'=>e = .returned (.int .i64 z)∧w=w':=by
 have S:Hid (Calls Tryz.prog 221 #[.pointer (some ⟨X,0,none⟩),.int .i64 o,.int .i64 2,.func (.func 223) #[] #[]] w fun e w'=>e = .returned (.int .i64 z)∧w=w'):=hid (by
  rcases hz with ⟨h1,rfl⟩ | ⟨d,h1,h2,rfl⟩
  ·exact onward_none h o 2 _ h1
  ·exact onward_other h o 2 _ h1 h2)
 clear h hz
 go_enter Tryz.func175,Tryz.ntmps175
 go_wp2_with (first | (go_at_call 221; refine S.out.mono ?_; rintro e w5 ⟨rfl,rfl⟩))
 go_ret
 exact ⟨rfl,rfl⟩
end
end Go.Proofs.YtakaalldbnklcaaGreat.Sk
namespace Go.Proofs.YtakaalldbnklcaaGreat.Sk
open Go.RowKit Go.WideShapes Go.ChangeShapes Go.ChangeAt Go.Deep
set_option linter.unusedVariables false
theorem ownsRow_low {w:World} {base b':Nat} {e:TypeId} {size n:Nat} {v:Value} {xs:List Value} (h:w.ownsRow base e size v n xs) (hb:b'≤base):w.ownsRow b' e size v n xs:=by
 obtain ⟨hl,h1 | ⟨g,cap,cur,rfl,hg,hh,hr⟩⟩:=h
 ·exact ⟨hl,.inl h1⟩
 ·exact ⟨hl,.inr ⟨g,cap,cur,rfl,by omega,hh,hr⟩⟩
structure LnRow (base:Nat) (w:World) (b cap:Nat) (ls:List Ln):Prop where
 own:w.ownsRow base 67 2 (.slice (some ⟨b,0,none⟩) ls.length cap) ls.length (ls.flatMap enL)
section
variable {n0:Nat} {w w':World} {X BL BG:Nat} {lv:List (Int × Lv)} {gs:List (Int × Gd)}
set_option maxRecDepth 100000 in
set_option maxHeartbeats 4000000 in
theorem twin_off (o st:Int) (ob off ocp:Nat) (ls:List Ln) (w:World) (hR:Rd w (some ⟨ob,off,none⟩) (ls.flatMap enL)) (hl1:1≤ls.length) (hl4:ls.length≤4) :
  Calls Tryz.prog 87 #[.agg #[.int .i64 o,.int .i64 st,.slice (some ⟨ob,off,none⟩) ls.length ocp]] w fun e w'=>∃ b cap,e = .returned (.agg #[.int .i64 o,.int .i64 st,.slice (some ⟨b,0,none⟩) ls.length cap])∧LnRow w.heap.size w' b cap ls∧Below w.heap.size w w':=by
 have K:=hid (fun w' (hb:Below w.heap.size w w')=>clone_some ls ob off ocp w' (hR.below hb) (by omega))
 unfold NewRowOf at K
 obtain ⟨W2,hW2⟩:∃ W2,W2=((w.alloc (.cells #[.int .i64 o,.int .i64 st,.slice (some ⟨ob,off,none⟩) ls.length ocp] 156)).alloc (.cells #[.int .i64 0,.int .i64 0,.slice none 0 0] 156)):=⟨_,rfl⟩
 obtain ⟨G,hG⟩:∃ G,G=w.heap.size:=⟨_,rfl⟩
 have hb2:Below w.heap.size w W2:=by rw [hW2]; exact ((Below.refl _ _).alloc (Nat.le_refl _) _).alloc (by simp) _
 have hB1:Blk W2 G 156 #[.int .i64 o,.int .i64 st,.slice (some ⟨ob,off,none⟩) ls.length ocp]:=by rw [hW2,hG]; exact (Blk.new _ _ _).alloc _
 have hB2:Blk W2 (G + 1) 156 #[.int .i64 0,.int .i64 0,.slice none 0 0]:=by
  rw [hW2,hG]
  have:=Blk.new (w.alloc (.cells #[.int .i64 o,.int .i64 st,.slice (some ⟨ob,off,none⟩) ls.length ocp] 156)) 156 #[.int .i64 0,.int .i64 0,.slice none 0 0]
  rw [World.size_alloc] at this
  exact this
 have HW:=hid hW2
 have HG:=hid hG
 have HH:=hid (And.intro hb2 (And.intro hB1 hB2))
 clear hR hW2 hG hb2 hB1 hB2
 go_enter Tryz.func87,Tryz.ntmps87
 go_wp2_with fail
 rw [← HW.out, ← HG.out]
 obtain ⟨hb2,hB1,hB2⟩:=HH.out
 refine (K.out _ hb2).mono ?_
 rintro e w7 ⟨A7,cp7,rfl,hO7,hb7⟩
 obtain ⟨g7,cq7,e7,hg7,_⟩:=own_form hO7 (by omega)
 injection e7 with e8 e9 e10
 subst e8 e10
 replace hB1:=hB1.next hb7
 replace hB2:=hB2.next hb7
 have h1:g7 ≠ G:=by have:=HH.out.2.1.lt; omega
 have h2:g7 ≠ G + 1:=by have:=HH.out.2.2.lt; omega
 have hGw:w.heap.size≤G:=by have:=HG.out; omega
 clear HH HW K hg7
 have c0:w7.cell? ⟨G,0,none⟩=some (.int .i64 o):=hB1.cell 0
 have c1:w7.cell? ⟨G,1,none⟩=some (.int .i64 st):=hB1.cell 1
 have c2:w7.cell? ⟨G,2,none⟩=some (.slice (some ⟨ob,off,none⟩) ls.length ocp):=hB1.cell 2
 have f2:=hB1.free 2
 have d0:w7.cell? ⟨G + 1,0,none⟩=some (.int .i64 0):=hB2.cell 0
 have d1:w7.cell? ⟨G + 1,1,none⟩=some (.int .i64 0):=hB2.cell 1
 have d2:w7.cell? ⟨G + 1,2,none⟩=some (.slice none 0 0):=hB2.cell 2
 have k0:=hB2.free 0
 have k1:=hB2.free 1
 have k2:=hB2.free 2
 have hF:=hid (And.intro hO7 (And.intro hb2 hb7))
 have hB9:Blk ((((w7.setCell ⟨G,2,none⟩ (.slice (some ⟨g7,0,none⟩) ls.length cp7)).setCell ⟨G + 1,0,none⟩ (.int .i64 o)).setCell ⟨G + 1,1,none⟩ (.int .i64 st)).setCell ⟨G + 1,2,none⟩ (.slice (some ⟨g7,0,none⟩) ls.length cp7)) (G + 1) 156 #[.int .i64 o,.int .i64 st,.slice (some ⟨g7,0,none⟩) ls.length cp7] :=
  (((hB2.far (p:=⟨G,2,none⟩) (by simp) _).set_ 0 _).set_ 1 _).set_ 2 _
 replace hB9:=hid hB9
 clear hO7 hb2 hb7 hB1 hB2
 go_wp2_with fail
 replace hB9:=hB9.out
 obtain ⟨W9,hW9⟩:∃ W9,W9=((((w7.setCell ⟨G,2,none⟩ (.slice (some ⟨g7,0,none⟩) ls.length cp7)).setCell ⟨G + 1,0,none⟩ (.int .i64 o)).setCell ⟨G + 1,1,none⟩ (.int .i64 st)).setCell ⟨G + 1,2,none⟩ (.slice (some ⟨g7,0,none⟩) ls.length cp7)):=⟨_,rfl⟩
 rw [← hW9] at hB9 ⊢
 have HW9:=hid hW9
 clear hW9 c0 c1 c2 d0 d1 d2 f2 k0 k1 k2
 have c0:W9.cell? ⟨G + 1,0,none⟩=some (.int .i64 o):=hB9.cell 0
 have c1:W9.cell? ⟨G + 1,1,none⟩=some (.int .i64 st):=hB9.cell 1
 have c2:W9.cell? ⟨G + 1,2,none⟩=some (.slice (some ⟨g7,0,none⟩) ls.length cp7):=hB9.cell 2
 refine bodyPost_ret (v:=.agg #[.int .i64 o,.int .i64 st,.slice (some ⟨g7,0,none⟩) ls.length cp7]) (by simp [results,Tryz.results87,go_sem,c0,c1,c2]) rfl ?_
 rw [HW9.out]
 obtain ⟨hO7,hb2,hb7⟩:=hF.out
 have hT:=((((Touch.refl (fun k=>k=G∨k=G + 1) w7).set (g:=G) (.inl rfl) 2 (.slice (some ⟨g7,0,none⟩) ls.length cp7)).set (g:=G + 1) (.inr rfl) 0 (.int .i64 o)).set (g:=G + 1) (.inr rfl) 1 (.int .i64 st)).set (g:=G + 1) (.inr rfl) 2 (.slice (some ⟨g7,0,none⟩) ls.length cp7)
 refine ⟨g7,cp7,rfl,⟨ownsRow_low (own_touch hO7 hT (fun k hk => ?_)) hb2.size⟩,(bthen hb2 hb7).trans (hT.below (bthen hb2 hb7).size (fun k hk=>by omega))⟩
 have hk':g7=k:=by simpa [Value.ownBlock] using hk
 subst hk'
 intro hc
 rcases hc with e | e
 ·exact h1 e
 ·exact h2 e
end
end Go.Proofs.YtakaalldbnklcaaGreat.Sk
namespace Go.Proofs.YtakaalldbnklcaaGreat.Sk
open Go.RowKit Go.Maps Go.Sort Go.ChangeShapes Go.WideShapes Go.ChangeAt Go.Deep
set_option linter.unusedVariables false
instance:Inhabited Gd:=⟨⟨0,0,0,0,0,[]⟩⟩
def enG3 (d:Gd):List Value:=[.int .i64 d.o,.int .i64 d.st,.slice (some ⟨d.b,0,none⟩) d.ls.length d.cap]
theorem enG3_len (d:Gd):(enG3 d).length=3:=rfl
theorem enG3_one (d:Gd):∀ v ∈ enG3 d,v.oneCell'=true:=by
 intro v hv
 simp only [enG3,List.mem_cons,List.not_mem_nil,or_false] at hv
 rcases hv with rfl | rfl | rfl <;> rfl
theorem info_gd:(Tryz.prog.info? 156).map (fun i=>(i.zero,i.size,i.bytes))=some (some (.agg #[.int .i64 0,.int .i64 0,.slice none 0 0]),3,40):=by kernel_rfl
def bareG (d:Gd):Gd:=⟨0,d.o,d.st,0,0,d.ls⟩
def cfG (x y:Gd):Int:=cmpI x.o y.o
def ltG (x y:Gd):Bool:=decide (cfG x y < 0)
theorem ltG_iff (x y:Gd):ltG x y=true ↔ x.o < y.o:=by
 unfold ltG cfG cmpI
 rw [decide_eq_true_eq]
 split
 ·simp_all
 ·split <;> simp_all <;> omega
theorem ltG_no {x y:Gd} (h:ltG x y=false):¬ x.o < y.o:=fun e=>by rw [(ltG_iff x y).2 e] at h; cases h
theorem swoG:Sort.SWO ltG where
 irrefl a:=by
  cases h:ltG a a with
  | false=>rfl
  | true=>have:=(ltG_iff a a).1 h; omega
 trans x y z h g:=by rw [ltG_iff] at *; omega
 ntrans x y z h1 h2:=by
  cases h:ltG x z with
  | false=>rfl
  | true =>
   have h':=(ltG_iff x z).1 h
   have a:=ltG_no h1
   have b:=ltG_no h2
   omega
set_option maxRecDepth 100000 in
set_option maxHeartbeats 4000000 in
theorem gorder_any (x y:Gd) (w:World):Calls Tryz.prog 89 #[.agg #[.int .i64 x.o,.int .i64 x.st,.slice (some ⟨x.b,0,none⟩) x.ls.length x.cap],.agg #[.int .i64 y.o,.int .i64 y.st,.slice (some ⟨y.b,0,none⟩) y.ls.length y.cap]] w fun e w'=>e = .returned (.int .i64 (cfG x y))∧Grew w w':=by
 obtain ⟨xg,xo,xs,xb,xc,xl⟩:=x
 obtain ⟨yg,yo,ys,yb,yc,yl⟩:=y
 simp only
 have b1:Blk ((w.alloc (.cells #[.int .i64 xo,.int .i64 xs,.slice (some ⟨xb,0,none⟩) xl.length xc] 156)).alloc (.cells #[.int .i64 yo,.int .i64 ys,.slice (some ⟨yb,0,none⟩) yl.length yc] 156)) w.heap.size 156 #[.int .i64 xo,.int .i64 xs,.slice (some ⟨xb,0,none⟩) xl.length xc]:=(Blk.new _ _ _).alloc _
 have b2:Blk ((w.alloc (.cells #[.int .i64 xo,.int .i64 xs,.slice (some ⟨xb,0,none⟩) xl.length xc] 156)).alloc (.cells #[.int .i64 yo,.int .i64 ys,.slice (some ⟨yb,0,none⟩) yl.length yc] 156)) (w.heap.size + 1) 156 #[.int .i64 yo,.int .i64 ys,.slice (some ⟨yb,0,none⟩) yl.length yc]:=by
  have:=Blk.new (w.alloc (.cells #[.int .i64 xo,.int .i64 xs,.slice (some ⟨xb,0,none⟩) xl.length xc] 156)) 156 #[.int .i64 yo,.int .i64 ys,.slice (some ⟨yb,0,none⟩) yl.length yc]
  rw [World.size_alloc] at this
  exact this
 have hg:Grew w ((w.alloc (.cells #[.int .i64 xo,.int .i64 xs,.slice (some ⟨xb,0,none⟩) xl.length xc] 156)).alloc (.cells #[.int .i64 yo,.int .i64 ys,.slice (some ⟨yb,0,none⟩) yl.length yc] 156)):=((Grew.refl w).alloc _).alloc _
 have B1:=hid b1
 have B2:=hid b2
 clear b1 b2
 go_enter Tryz.func89,Tryz.ntmps89
 go_wp2_with fail
 obtain ⟨W,hW⟩:∃ W,W=(w.alloc (.cells #[.int .i64 xo,.int .i64 xs,.slice (some ⟨xb,0,none⟩) xl.length xc] 156)).alloc (.cells #[.int .i64 yo,.int .i64 ys,.slice (some ⟨yb,0,none⟩) yl.length yc] 156):=⟨_,rfl⟩
 replace B1:=B1.out
 replace B2:=B2.out
 rw [← hW] at B1 B2 hg ⊢
 obtain ⟨G,hG⟩:∃ G,G=w.heap.size:=⟨_,rfl⟩
 rw [← hG] at B1 B2 ⊢
 clear hW hG
 have p0:W.cell? ⟨G,0,none⟩=some (.int .i64 xo):=B1.cell 0
 have p3:W.cell? ⟨G + 1,0,none⟩=some (.int .i64 yo):=B2.cell 0
 clear B1 B2
 go_wp2_with (first | (go_at_call 38; refine (compare_any _ _ _).mono ?_; rintro e w5 ⟨rfl,rfl⟩))
 go_ret
 exact ⟨rfl,hg⟩
theorem sortsGd:SortsAt Tryz.prog 88 (.func (.func 89) #[] #[]) enG3 3 ltG:=by
 refine ⟨fun blk off cap d w hH hb hsz => ?_,fun p cap w => ?_⟩
 ·have eg:∀ args w,(callFunc 89 args).run Tryz.prog w = .ok (.enter 89 args) w:=enters_of Tryz.func89 (by kernel_rfl) rfl
  exact AnyQ.slices_SortFunc Tryz.sortGd 3 Tryz.isAgg156 Tryz.sizeOf156 enG3 enG3_len enG3_one cfG swoG 89 #[] blk off cap d w eg (fun _ _ _ _ x y=>gorder_any x y _) hH hb hsz
 ·exact AnyF.slices_SortFunc_none Tryz.sortGd p cap _ w
theorem LnRow.next {base b cap:Nat} {ls:List Ln} {w w':World} (h:LnRow base w b cap ls) (hb:Below w.heap.size w w'):LnRow base w' b cap ls :=
 ⟨h.own.kept (grown_of_below hb none) (by cases hv:(Value.slice (some ⟨b,0,none⟩) ls.length cap).ownBlock <;> simp)⟩
section
variable {n0:Nat} {w w':World} {X BL BG:Nat} {lv:List (Int × Lv)} {gs:List (Int × Gd)}
def AllPost (gs:List (Int × Gd)) (w:World) (e:Ending) (w':World):Prop :=
 ∃ (A:Option Addr) (cap:Nat) (l:List Gd),e = .returned (.slice A l.length cap)∧(l.map bareG).Perm (gs.map (fun p=>bareG p.2))∧l.Pairwise (fun a b=>ltG b a=false) ∧
  w'.ownsRow w.heap.size 156 3 (.slice A l.length cap) l.length (l.flatMap enG3)∧(∀ d ∈ l,LnRow w.heap.size w' d.b d.cap d.ls)∧Below w.heap.size w w'
set_option maxRecDepth 100000 in
set_option maxHeartbeats 4000000 in
theorem all_any (h:IsBook n0 w X BL BG lv gs) (hq:∀ p ∈ gs,1≤p.2.ls.length∧p.2.ls.length≤4) (hm:gs.length * 40≤140737488351232) :
  Calls Tryz.prog 46 #[.pointer (some ⟨X,0,none⟩)] w (AllPost gs w):=by
 have c1:=h.cellG
 obtain ⟨i0,hi,hz0,hz1,hz2⟩:=info_parts info_gd
 have HQ:=hid hq
 have hGM:=h.gds
 have H:=hid h
 clear hq h
 go_enter Tryz.func46,Tryz.ntmps46
 go_wp2_with (at_range; refine wpList_range _ rfl _ 128 3 235 rfl Tryz.underlying128 BG gs rfl hGM ?_; intro w1 hI hb hz)
 go_frame
 go_loopw [3] (fun v wr=>∃ (left:List (Int × Gd)) (vis:List Gd),wr.ownsRow w.heap.size 156 3 v vis.length (vis.flatMap enG3)∧IsIter wr w.heap.size BG kI vGd gs left∧Hid (∃ vs:List (Int × Gd),(vs++left).Perm gs∧vis.map bareG=vs.map (fun p=>bareG p.2))∧Hid (∀ d ∈ vis,LnRow w.heap.size wr d.b d.cap d.ls)∧Below w.heap.size w wr)
  (fun _ wr=>wr.rangeLeft BG w.heap.size)
 case atStart=>exact ⟨gs,[],World.ownsRow_nil _ _ _ _,hI,hid ⟨[],by simp,rfl⟩,hid (fun d hd=>by cases hd),hb⟩
 case round =>
  clear hI hb hz hGM
  obtain ⟨left,vis,hO,hI,hP,hL,hb⟩:=hrel
  have hlen:vis.length + left.length≤gs.length:=by
   obtain ⟨vs,h1,h2⟩:=hP.out
   have h3:=h1.length_eq
   have h4:=congrArg List.length h2
   simp at h3 h4
   omega
  have hll:=hI.left_len
  have HL:=hid hll
  clear hll
  go_wp2_with (first
   | (at_next; refine wpList_next _ rfl _ rfl w.heap.size BG gs left rfl hI ?_ ?_))
  ·intro hl0
   subst hl0
   clear HL
   have hvl:vis.length≤gs.length:=by simp at hlen; exact hlen
   go_wp2_with fail
   refine (sort_owned sortsGd enG3_len hO (by omega)).mono ?_
   rintro e w5 ⟨rfl,l',hp,hst,hO',hg⟩
   have hb5:Below w.heap.size w w5:=hb.grown hg hb.size (fun k hk=>(hO.lt k hk).1)
   have hL5:∀ d ∈ l',LnRow w.heap.size w5 d.b d.cap d.ls:=fun d hd=>⟨(hL.out d (hp.mem_iff.1 hd)).own.kept hg (.inr (fun e=>own_other hO (hL.out d (hp.mem_iff.1 hd)).own (by decide) rfl e.symm))⟩
   obtain ⟨A,cap,hv,_⟩:=own_slice hO'
   subst hv
   have HF:=hid (And.intro hO' (And.intro hL5 hb5))
   have HS:=hid hst
   have HPP:=hid hp
   clear hO hI hb hg hO' hb5 hL5 hst hp
   go_wp2_with fail
   go_ret
   obtain ⟨vs,h1,h2⟩:=hP.out
   refine ⟨A,cap,l',rfl, ?_,HS.out,HF.out.1,HF.out.2.1,HF.out.2.2⟩
   rw [List.append_nil] at h1
   exact (HPP.out.map bareG).trans (h2 ▸ h1.map _)
  ·intro a d left' w2 hp hI2 hg2 hs2 hen
   have hlen2:vis.length + 1≤gs.length:=by
    have h2:=hp.length_eq
    simp at h2
    omega
   have hin:(a,d) ∈ gs:=by
    obtain ⟨vs,h1,_⟩:=hP.out
    exact h1.mem_iff.1 (List.mem_append_right _ (hp.mem_iff.2 (List.mem_cons_self ..)))
   have hO2:=hO.kept hg2 (.inr (fun e=>hI.notOwn hO e.symm))
   have hb2:=hb.trans (grown_below hg2 hb.size (Nat.le_refl _))
   have hL2:∀ e ∈ vis,LnRow w.heap.size w2 e.b e.cap e.ls:=fun e he=>⟨(hL.out e he).own.kept hg2 (.inr (fun e'=>hI.notOwn (hL.out e he).own e'.symm))⟩
   have hBk:=H.out.next hb2
   have hB:=hBk.gc (a,d) hin
   have hR:=(hBk.lns (a,d) hin).1
   have hq:=HQ.out (a,d) hin
   simp only at hB hR hq
   have g0:w2.cell? ⟨d.g,0,none⟩=some (.int .i64 d.o):=hB.cell 0
   have g1:w2.cell? ⟨d.g,1,none⟩=some (.int .i64 d.st):=hB.cell 1
   have g2:w2.cell? ⟨d.g,2,none⟩=some (.slice (some ⟨d.b,0,none⟩) d.ls.length d.cap):=hB.cell 2
   have T:=hid (twin_off d.o d.st d.b 0 d.cap d.ls w2 hR hq.1 hq.2)
   have HF:=hid (And.intro hO2 (And.intro hb2 (And.intro hL2 hI2)))
   simp only [kI,vGd] at hen
   have hPP:=hid (show ∃ vs:List (Int × Gd),(vs++left').Perm gs∧(vis++[d]).map bareG=vs.map (fun p=>bareG p.2) from by
    obtain ⟨vs,h1,h2⟩:=hP.out
    refine ⟨vs++[(a,d)], ?_,by simp [h2]⟩
    rw [List.append_assoc]
    exact (List.Perm.append_left vs hp.symm).trans h1)
   have hll:left'.length < left.length:=by have:=hp.length_eq; simp at this; omega
   have HLT:=hid hll
   clear hO hI hg2 hs2 hO2 hb hb2 hL2 hI2 hBk hB hR hin hp hll hP hL hlen
   go_wp2_with fail
   refine T.out.mono ?_
   rintro e w7 ⟨b7,cp7,rfl,hL7,hb7⟩
   obtain ⟨hO2,hb2,hL2,hI2⟩:=HF.out
   have hwz:w.heap.size≤w7.heap.size:=Nat.le_trans hb2.size hb7.size
   have hO3:=(hO2.kept (grown_of_below hb7 none) (by cases hv:u3.ownBlock <;> simp)).alloc (.cells #[.int .i64 d.o,.int .i64 d.st,.slice (some ⟨b7,0,none⟩) d.ls.length cp7] 156)
   have hI3:=(hI2.next_ hb7).alloc (.cells #[.int .i64 d.o,.int .i64 d.st,.slice (some ⟨b7,0,none⟩) d.ls.length cp7] 156)
   have hL3:∀ e ∈ vis++[(⟨0,d.o,d.st,b7,cp7,d.ls⟩:Gd)],LnRow w.heap.size (w7.alloc (.cells #[.int .i64 d.o,.int .i64 d.st,.slice (some ⟨b7,0,none⟩) d.ls.length cp7] 156)) e.b e.cap e.ls:=fun e he=>by
    rcases List.mem_append.1 he with he | he
    ·exact ((hL2 e he).next hb7).next ((Below.refl _ _).alloc (Nat.le_refl _) _)
    ·simp only [List.mem_singleton] at he
     subst he
     exact (show LnRow w.heap.size w7 b7 cp7 d.ls from ⟨ownsRow_low hL7.own hb2.size⟩).next ((Below.refl _ _).alloc (Nat.le_refl _) _)
   have hb3:=(bthen hb2 hb7).alloc hwz (.cells #[.int .i64 d.o,.int .i64 d.st,.slice (some ⟨b7,0,none⟩) d.ls.length cp7] 156)
   have HI3:=hid hI3
   have HO3:=hid hO3
   have HL3:=hid hL3
   have HB3:=hid hb3
   have HO2:=hid (hO2.kept (grown_of_below hb7 none) (by cases hv:u3.ownBlock <;> simp))
   clear hO2 hb2 hL2 hI2 hO3 hI3 hL3 hb3 hL7 hb7 T HF g0 g1 g2
   go_wp2_with (first
    | (at_builtin; refine wpList_push _ rfl _ _ 139 rfl w.heap.size 156 i0 _ 3 40 Tryz.underlying139 hi hz0 hz1 hz2 rfl (by decide) _ _ _ (by rfl) HO2.out #[.int .i64 d.o,.int .i64 d.st,.slice (some ⟨b7,0,none⟩) d.ls.length cp7] w7.heap.size (by simp) (by rfl) (by rfl) (by rfl) (by unfold maxLen; omega) (by omega) hwz ?_; intro v' w3 hO4 hg4))
   have hI4:=HI3.out.grown hg4 (fun e=>HI3.out.isMap.notOwn HO3.out e) (fun e=>HI3.out.notOwn HO3.out e)
   have hb4:=HB3.out.grown hg4 (by simp; omega) (fun k hk=>(HO3.out.lt k hk).1)
   have hL4:∀ e ∈ vis++[(⟨0,d.o,d.st,b7,cp7,d.ls⟩:Gd)],LnRow w.heap.size w3 e.b e.cap e.ls:=fun e he =>
    ⟨(HL3.out e he).own.kept hg4 (.inr (fun e'=>own_other HO3.out (HL3.out e he).own (by decide) rfl e'.symm))⟩
   have hO5:w3.ownsRow w.heap.size 156 3 v' (vis++[(⟨0,d.o,d.st,b7,cp7,d.ls⟩:Gd)]).length ((vis++[(⟨0,d.o,d.st,b7,cp7,d.ls⟩:Gd)]).flatMap enG3):=by simpa [enG3] using hO4
   have hPQ:=hid (show ∃ vs:List (Int × Gd),(vs++left').Perm gs∧(vis++[(⟨0,d.o,d.st,b7,cp7,d.ls⟩:Gd)]).map bareG=vs.map (fun p=>bareG p.2) from by
    obtain ⟨vs,h1,h2⟩:=hPP.out
    exact ⟨vs,h1,by rw [← h2]; simp [bareG]⟩)
   replace hL4:=hid hL4
   clear HO3 HI3 HL3 HB3 HO2 hO4 hg4 hPP hen
   go_roundw
   case rel=>exact ⟨left',_,hO5,hI4,hPQ,hL4,hb4⟩
   case measure=>rw [hI4.left_len,HL.out]; exact HLT.out
end
end Go.Proofs.YtakaalldbnklcaaGreat.Sk
