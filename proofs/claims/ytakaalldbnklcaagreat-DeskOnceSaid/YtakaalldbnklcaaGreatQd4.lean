/-
  The inbox: what its functions do, told by a list of entries.
  The inbox, continued: New, Done, Keep.
  The inbox: its functions at what is known of a step; the laws' small ones.
  The walk of InboxOnce.
  The order of entries: cmp.Compare, cmp.Or, and the inbox's order.
  The inbox's List: all that is remembered, in order.
  The walk of InboxAlone.
  The inbox's Restore: plain facts of lists of entries.
  The document's inbox: a list of entries in order; what its functions do.
  The document's inbox: before, find, Ask, Done.
  The document's inbox: Ask, Done, Keep.
  The document's inbox: Keep.
-/
import Derived.Test.YtakaalldbnklcaaGreatQd1
import Derived.Test.YtakaalldbnklcaaGreatQd2
import Derived.RegionTactic
import Derived.Deep.RegionHeld3
import Derived.Sort.Grow
namespace Go.Proofs.YtakaalldbnklcaaGreat.In
open Go.RowKit
set_option linter.unusedVariables false
theorem keyPl:KeyLaw Tryz.prog 228 kP :=
 pairKey (n1 := "order") (n2 := "step") (by kernel_rfl) (by kernel_rfl) (by kernel_rfl) (by decide) (by decide) Tryz.underlying3 isAgg_int
structure Ent where
 o:Int
 s:Int
 t:Int
 c:Int
 b:Bool
deriving DecidableEq
def enE (e:Ent):Value:=.agg #[.int .i64 e.o,.int .i64 e.s,.int .i64 e.t,.int .i64 e.c,.bool e.b]
def noEnt:Ent:=⟨0,0,0,0,false⟩
def entAt (m:List ((Int × Int) × Ent)) (p:Int × Int):Ent:=(mget m p).getD noEnt
theorem zeroEnt (w:World):(zeroValue 170).run Tryz.prog w = .ok (enE noEnt) w:=by kernel_rfl
theorem looked_ent (m:List ((Int × Int) × Ent)) (p:Int × Int):looked (enE noEnt) enE m p=enE (entAt m p):=by
 unfold looked entAt
 cases mget m p <;> rfl
def IsBox (w:World) (X B:Nat) (m:List ((Int × Int) × Ent)):Prop:=Blk w X 198 #[.map (some B)]∧IsMap w B kP enE m
theorem IsBox.next {w w':World} {X B:Nat} {m:List ((Int × Int) × Ent)} (h:IsBox w X B m) (hb:Below w.heap.size w w'):IsBox w' X B m:=⟨h.1.next hb,h.2.next hb⟩
theorem IsBox.look {w:World} {X B:Nat} {m:List ((Int × Int) × Ent)} (h:IsBox w X B m) (o s:Int):(Instr.lookup 196 (.map (some B)) (.agg #[.int .i64 o,.int .i64 s]) false).run Tryz.prog w = .ok (enE (entAt m (o,s))) w:=by
 have:=h.2.look keyPl Tryz.underlying196 (zeroEnt _) (o,s)
 rw [looked_ent] at this
 exact this
def askF (e:Ent) (t:Int) (u:Bool):Int × Int :=
 if u=true then (if e.b=true then (1,0) else (0,0))
 else if e.b=true then (1,151)
 else if t < 1 then (2,0)
 else if t < e.t then (2,0)
 else if t=e.t then (1,e.c)
 else (0,0)
set_option maxHeartbeats 1000000 in
theorem ask_any (X B:Nat) (m:List ((Int × Int) × Ent)) (o s t:Int) (u:Bool) (w:World) (h:IsBox w X B m) :
  Calls Tryz.prog 41 #[.pointer (some ⟨X,0,none⟩),.int .i64 o,.int .i64 s,.int .i64 t,.bool u] w fun e w' =>
   e = .returned (.tuple #[.int .i64 (askF (entAt m (o,s)) t u).1,.int .i64 (askF (entAt m (o,s)) t u).2])∧Below w.heap.size w w':=by
 have hl:=h.look o s
 have hc:=h.1.cell 0
 have hs:(#[.map (some B)]:Array Value)[0]?=some (.map (some B)):=rfl
 rw [hs] at hc
 clear hs
 generalize entAt m (o,s)=e at *
 obtain ⟨eo,es,et,ec,eb⟩:=e
 simp only [enE] at hl
 go_enter Tryz.func41,Tryz.ntmps41
 cases u with
 | true =>
  cases eb with
  | true =>
   go_wp2_with fail
   go_ret2
   exact ⟨rfl,(Below.refl _ _).alloc (Nat.le_refl _) _⟩
  | false =>
   go_wp2_with fail
   go_ret2
   exact ⟨rfl,(Below.refl _ _).alloc (Nat.le_refl _) _⟩
 | false =>
  cases eb with
  | true =>
   go_wp2_with fail
   go_ret2
   exact ⟨rfl,(Below.refl _ _).alloc (Nat.le_refl _) _⟩
  | false =>
   by_cases h1:t < 1
   ·go_wp2_with fail
    go_ret2
    exact ⟨by simp [askF,h1],(Below.refl _ _).alloc (Nat.le_refl _) _⟩
   ·by_cases h2:t < et
    ·go_wp2_with fail
     go_ret2
     exact ⟨by simp [askF,h2],(Below.refl _ _).alloc (Nat.le_refl _) _⟩
    ·by_cases h3:t=et
     ·subst h3
      go_wp2_with fail
      go_quiet (fail)
      go_wp2_with fail
      go_ret2
      exact ⟨by simp [askF,show ¬ t < 1 from by omega],below_drewN ((Below.refl _ _).alloc (Nat.le_refl _) _) _⟩
     ·have h4:(t == et)=false:=by simpa using h3
      go_wp2_with fail
      go_ret2
      exact ⟨by simp [askF,show ¬ t < 1 from by omega,show ¬ t < et from by omega,h3],(Below.refl _ _).alloc (Nat.le_refl _) _⟩
end Go.Proofs.YtakaalldbnklcaaGreat.In
namespace Go.Proofs.YtakaalldbnklcaaGreat.In
open Go.RowKit
set_option linter.unusedVariables false
theorem IsBox.alloc {w:World} {X B:Nat} {m:List ((Int × Int) × Ent)} (h:IsBox w X B m) (o:Obj):IsBox (w.alloc o) X B m:=⟨h.1.alloc o,h.2.alloc o⟩
theorem new_any (w:World):Calls Tryz.prog 24 #[] w fun e w' =>
  e = .returned (.pointer (some ⟨w.heap.size + 1,0,none⟩))∧IsBox w' (w.heap.size + 1) w.heap.size []∧Below w.heap.size w w':=by
 have hmm:=@run_makeMap Tryz.prog
 have hb:=Blk.new (w.alloc (.map #[] 0)) 198 #[.map (some w.heap.size)]
 have hM:=(IsMap.made w kP enE).alloc (.cells #[.map (some w.heap.size)] 198)
 rw [World.size_alloc] at hb
 have H:=hid (And.intro hb hM)
 clear hb hM
 go_enter Tryz.func24,Tryz.ntmps24
 go_wp2_with fail
 go_ret
 exact ⟨by simp,H.out,((Below.refl _ _).alloc (Nat.le_refl _) _).alloc (by simp) _⟩
def doneF (e:Ent):Bool:=decide (0 < e.t) && (decide (e.c=0) && !e.b)
set_option maxHeartbeats 1000000 in
theorem done_any (X B:Nat) (m:List ((Int × Int) × Ent)) (o s:Int) (w:World) (h:IsBox w X B m) :
  Calls Tryz.prog 42 #[.pointer (some ⟨X,0,none⟩),.int .i64 o,.int .i64 s] w fun e w' =>
   e = .returned (.bool (doneF (entAt m (o,s))))∧Below w.heap.size w w':=by
 have hl:=h.look o s
 have hc:=h.1.cell 0
 have hs:(#[.map (some B)]:Array Value)[0]?=some (.map (some B)):=rfl
 rw [hs] at hc
 clear hs
 generalize entAt m (o,s)=e at *
 obtain ⟨eo,es,et,ec,eb⟩:=e
 simp only [enE] at hl
 go_enter Tryz.func42,Tryz.ntmps42
 by_cases h1:0 < et
 ·by_cases h2:ec=0
  ·subst h2
   cases eb with
   | true =>
    go_wp2_with fail
    go_ret
    exact ⟨by simp [doneF],(Below.refl _ _).alloc (Nat.le_refl _) _⟩
   | false =>
    go_wp2_with fail
    go_ret
    exact ⟨by simp [doneF,h1],(Below.refl _ _).alloc (Nat.le_refl _) _⟩
  ·have h3:(ec == 0)=false:=by simpa using h2
   go_wp2_with fail
   go_ret
   exact ⟨by simp [doneF,h2],(Below.refl _ _).alloc (Nat.le_refl _) _⟩
 ·go_wp2_with fail
  go_ret
  exact ⟨by simp [doneF,show ¬ 0 < et from by omega],(Below.refl _ _).alloc (Nat.le_refl _) _⟩
def keepE (e:Ent) (o s t:Int) (u:Bool) (c:Int):Ent:=if u=true then ⟨o,s,e.t,e.c,true⟩ else ⟨o,s,t,c,e.b⟩
def keepM (m:List ((Int × Int) × Ent)) (o s t:Int) (u:Bool) (c:Int):List ((Int × Int) × Ent) :=
 if (askF (entAt m (o,s)) t u).1=0 then mset m (o,s) (keepE (entAt m (o,s)) o s t u c) else m
def keepR (m:List ((Int × Int) × Ent)) (o s t:Int) (u:Bool):Int:=if (askF (entAt m (o,s)) t u).1=0 then 0 else 130
set_option maxRecDepth 100000 in
set_option maxHeartbeats 1000000 in
theorem keep_any (X B:Nat) (m:List ((Int × Int) × Ent)) (o s t c:Int) (u:Bool) (w:World) (h:IsBox w X B m) :
  Calls Tryz.prog 44 #[.pointer (some ⟨X,0,none⟩),.int .i64 o,.int .i64 s,.int .i64 t,.bool u,.int .i64 c] w fun e w' =>
   e = .returned (.int .i64 (keepR m o s t u))∧IsBox w' X B (keepM m o s t u c)∧w.grownBy w' (some B):=by
 have hA:=ask_any X B m o s t u w h
 by_cases hv:(askF (entAt m (o,s)) t u).1=0
 ·have hR:keepR m o s t u=0:=if_pos hv
  have hM:keepM m o s t u c=mset m (o,s) (keepE (entAt m (o,s)) o s t u c):=if_pos hv
  rw [hv] at hA
  rw [hR,hM]
  clear hR hM hv
  generalize (askF (entAt m (o,s)) t u).2=c0 at hA
  generalize he:entAt m (o,s)=e at hA
  have HE:=hid he
  clear he
  replace hA:=hid hA
  go_enter Tryz.func44,Tryz.ntmps44
  go_wp2_with fail
  refine hA.out.mono ?_
  rintro e1 w1 ⟨rfl,hb⟩
  replace h:=h.next hb
  clear hA
  go_wp2_with fail
  obtain ⟨w2,hw2⟩:∃ w2,w2=w1.alloc (.cells #[.int .i64 o,.int .i64 s] 228):=⟨_,rfl⟩
  rw [← hw2]
  have h2:IsBox w2 X B m:=by rw [hw2]; exact h.next ((Below.refl _ _).alloc (Nat.le_refl _) _)
  have hp:Blk w2 w1.heap.size 228 #[.int .i64 o,.int .i64 s]:=by rw [hw2]; exact Blk.new _ _ _
  have hb2:Below w.heap.size w w2:=by rw [hw2]; exact hb.alloc hb.size _
  have hsz:w2.heap.size=w1.heap.size + 1:=by rw [hw2]; simp
  clear hw2
  generalize w1.heap.size=Bp at *
  have hc:w2.cell? ⟨X,0,none⟩=some (.map (some B)):=h2.1.cell 0
  have hp0:w2.cell? ⟨Bp,0,none⟩=some (.int .i64 o):=hp.cell 0
  have hp1:w2.cell? ⟨Bp,1,none⟩=some (.int .i64 s):=hp.cell 1
  have l1:=IsBox.look (w:=w2.drew) h2 o s
  have l2:=IsBox.look (w:=(w2.alloc (.cells #[.int .i64 0,.int .i64 0,.int .i64 0,.int .i64 0,.bool false] 170)).drew) (h2.alloc (.cells #[.int .i64 0,.int .i64 0,.int .i64 0,.int .i64 0,.bool false] 170)) o s
  have lt1:X < w2.heap.size:=h2.1.lt
  have lt2:Bp < w2.heap.size:=hp.lt
  rw [HE.out] at l1 l2
  obtain ⟨eo,es,et,ec,eb⟩:=e
  simp only [enE] at l1 l2
  have HS:=hid hsz
  clear hsz
  cases u with
  | true =>
   go_region
   all_goals
    go_wp2_with fail
    have h3:IsBox (w2.alloc (.cells #[.int .i64 o,.int .i64 s,.int .i64 et,.int .i64 ec,.bool true] 170)).drew.drew X B m:=h2.alloc (.cells #[.int .i64 o,.int .i64 s,.int .i64 et,.int .i64 ec,.bool true] 170)
    clear l1 l2
    refine wp_tail 6 (by kernel_rfl) (by kernel_rfl) ?_
    simp only [List.take_succ_cons,List.take_zero,List.drop_succ_cons,List.drop_zero]
    repeat still_step
    refine wpStill_nil ?_
    at_mapUpdate
    refine wpList_store _ rfl _ _ _ 196 170 rfl keyPl Tryz.underlying196 B m rfl h3.2 (o,s) ⟨o,s,et,ec,true⟩ rfl rfl ?_
    intro w3 hM3 hg3 hs3
    go_wp2_with fail
    have hx:some X ≠ some B:=fun e=>h3.2.notBlk h3.1 (by injection e with e; exact e.symm)
    have hk:=h3.1.grown hg3 hx
    have hb3:=below_grown ((hb2.alloc hb2.size (.cells #[.int .i64 o,.int .i64 s,.int .i64 et,.int .i64 ec,.bool true] 170)).drew.drew) hg3
    go_ret
    exact ⟨rfl,⟨hk,hM3⟩,hb3⟩
  | false =>
   go_region
   all_goals
    go_wp2_with fail
    have h3:IsBox (w2.alloc (.cells #[.int .i64 o,.int .i64 s,.int .i64 t,.int .i64 c,.bool eb] 170)).drew.drew X B m:=h2.alloc (.cells #[.int .i64 o,.int .i64 s,.int .i64 t,.int .i64 c,.bool eb] 170)
    clear l1 l2
    refine wp_tail 6 (by kernel_rfl) (by kernel_rfl) ?_
    simp only [List.take_succ_cons,List.take_zero,List.drop_succ_cons,List.drop_zero]
    repeat still_step
    refine wpStill_nil ?_
    at_mapUpdate
    refine wpList_store _ rfl _ _ _ 196 170 rfl keyPl Tryz.underlying196 B m rfl h3.2 (o,s) ⟨o,s,t,c,eb⟩ rfl rfl ?_
    intro w3 hM3 hg3 hs3
    go_wp2_with fail
    have hx:some X ≠ some B:=fun e=>h3.2.notBlk h3.1 (by injection e with e; exact e.symm)
    have hk:=h3.1.grown hg3 hx
    have hb3:=below_grown ((hb2.alloc hb2.size (.cells #[.int .i64 o,.int .i64 s,.int .i64 t,.int .i64 c,.bool eb] 170)).drew.drew) hg3
    go_ret
    exact ⟨rfl,⟨hk,hM3⟩,hb3⟩
 ·have hR:keepR m o s t u=130:=if_neg hv
  have hM:keepM m o s t u c=m:=if_neg hv
  rw [hR,hM]
  have hv2:((askF (entAt m (o,s)) t u).1 != 0)=true:=by simpa using hv
  clear hR hM hv
  generalize (askF (entAt m (o,s)) t u).1=v0 at *
  generalize (askF (entAt m (o,s)) t u).2=c0 at *
  replace hA:=hid hA
  go_enter Tryz.func44,Tryz.ntmps44
  go_wp2_with fail
  refine hA.out.mono ?_
  rintro e1 w1 ⟨rfl,hb⟩
  replace h:=h.next hb
  clear hA
  go_wp2_with fail
  go_ret
  exact ⟨rfl,h,grown_of_below hb _⟩
end Go.Proofs.YtakaalldbnklcaaGreat.In
namespace Go.Proofs.YtakaalldbnklcaaGreat.In
open Go.RowKit
set_option linter.unusedVariables false
theorem new_some (w:World):Calls Tryz.prog 24 #[] w fun e w' =>
  ∃ X B,e = .returned (.pointer (some ⟨X,0,none⟩))∧w.heap.size≤B∧IsBox w' X B []∧Below w.heap.size w w'∧B < w'.heap.size :=
 (new_any w).mono fun _ _ ⟨h1,h2,h3⟩=>⟨_,_,h1,Nat.le_refl _,h2,h3,h2.2.lt⟩
theorem keep_is {X B:Nat} {m:List ((Int × Int) × Ent)} {o s t:Int} {u:Bool} (c:Int) (w:World) (h:IsBox w X B m) {m':List ((Int × Int) × Ent)} (hv:(askF (entAt m (o,s)) t u).1=0) (hm:mset m (o,s) (keepE (entAt m (o,s)) o s t u c)=m') :
  Calls Tryz.prog 44 #[.pointer (some ⟨X,0,none⟩),.int .i64 o,.int .i64 s,.int .i64 t,.bool u,.int .i64 c] w fun e w' =>
   e = .returned (.int .i64 0)∧IsBox w' X B m'∧w.grownBy w' (some B):=by
 have:=keep_any X B m o s t c u w h
 rw [show keepR m o s t u=0 from if_pos hv,show keepM m o s t u c=m' from (if_pos hv).trans hm] at this
 exact this
end Go.Proofs.YtakaalldbnklcaaGreat.In
namespace Go.Proofs.YtakaalldbnklcaaGreat.In
open Go.RowKit
set_option linter.unusedVariables false
theorem ask_fresh {e:Ent} (h:e.b=false) (t:Int) (h1:1≤t) (h2:e.t < t):askF e t false=(0,0):=by
 unfold askF; simp [h,show ¬ t < 1 from by omega,show ¬ t < e.t from by omega,show ¬ t=e.t from by omega]
def vI (n:Int):Value:=.int .i64 n
end Go.Proofs.YtakaalldbnklcaaGreat.In
namespace Go.Proofs.YtakaalldbnklcaaGreat.In
open Go.RowKit
set_option linter.unusedVariables false
def cmpI (x y:Int):Int:=if x < y then -1 else if y < x then 1 else 0
theorem isNaN_any (x:Int) (w:World):Calls Tryz.prog 80 #[.int .i64 x] w fun e w'=>e = .returned (.bool false)∧w=w':=by
 go_enter Tryz.func80,Tryz.ntmps80
 go_wp2_with fail
 go_ret
 exact ⟨by simp,rfl⟩
theorem compare_any (x y:Int) (w:World):Calls Tryz.prog 38 #[.int .i64 x,.int .i64 y] w fun e w'=>e = .returned (.int .i64 (cmpI x y))∧w=w':=by
 by_cases h1:x < y
 ·go_enter Tryz.func38,Tryz.ntmps38
  go_wp2_with fail
  refine (isNaN_any _ _).mono ?_
  rintro e w1 ⟨rfl,rfl⟩
  go_wp2_with fail
  refine (isNaN_any _ _).mono ?_
  rintro e w1 ⟨rfl,rfl⟩
  go_wp2_with fail
  go_ret
  exact ⟨by simp [cmpI,h1],rfl⟩
 ·by_cases h2:y < x
  ·go_enter Tryz.func38,Tryz.ntmps38
   go_wp2_with fail
   refine (isNaN_any _ _).mono ?_
   rintro e w1 ⟨rfl,rfl⟩
   go_wp2_with fail
   refine (isNaN_any _ _).mono ?_
   rintro e w1 ⟨rfl,rfl⟩
   go_wp2_with fail
   go_ret
   exact ⟨by simp [cmpI,h2,show ¬ x < y from by omega],rfl⟩
  ·go_enter Tryz.func38,Tryz.ntmps38
   go_wp2_with fail
   refine (isNaN_any _ _).mono ?_
   rintro e w1 ⟨rfl,rfl⟩
   go_wp2_with fail
   refine (isNaN_any _ _).mono ?_
   rintro e w1 ⟨rfl,rfl⟩
   go_wp2_with fail
   go_ret
   exact ⟨by simp [cmpI,show ¬ y < x from by omega,show ¬ x < y from by omega],rfl⟩
def orI (x y:Int):Int:=if x=0 then y else x
set_option maxHeartbeats 1000000 in
theorem or_any (g:Nat) (x y:Int) (w:World) (h:Blk w g 3 #[.int .i64 x,.int .i64 y]):Calls Tryz.prog 134 #[.slice (some ⟨g,0,none⟩) 2 2] w fun e w'=>e = .returned (.int .i64 (orI x y))∧w=w':=by
 have c0:w.cell? ⟨g,0,none⟩=some (.int .i64 x):=h.cell 0
 have c1:w.cell? ⟨g,1,none⟩=some (.int .i64 y):=h.cell 1
 go_enter Tryz.func134,Tryz.ntmps134
 go_wp2_with fail
 go_loop [8] (fun i=>i = .int .i64 0∨(i = .int .i64 1∧Hid (x=0))∨(i = .int .i64 2∧Hid (x=0∧y=0))) (fun i=>2 - (intOf i).toNat)
 case atStart=>exact .inl rfl
 case round =>
  rcases hrel with rfl | ⟨rfl,hx⟩ | ⟨rfl,hx⟩
  ·by_cases h0:x=0
   ·have h1:(x != 0)=false:=by simpa using h0
    have H0:=hid h0
    clear h0
    go_wp2_with fail
    go_round
    case rel=>exact .inr (.inl ⟨rfl,H0⟩)
    case measure=>simp [intOf]
   ·have h1:(x != 0)=true:=by simpa using h0
    have H0:=hid h0
    clear h0
    go_wp2_with fail
    go_ret
    exact ⟨by simp [orI,H0.out],rfl⟩
  ·by_cases h0:y=0
   ·have h1:(y != 0)=false:=by simpa using h0
    have H0:=hid h0
    clear h0
    go_wp2_with fail
    go_round
    case rel=>exact .inr (.inr ⟨rfl,hid ⟨hx.out,H0.out⟩⟩)
    case measure=>simp [intOf]
   ·have h1:(y != 0)=true:=by simpa using h0
    clear h0
    go_wp2_with fail
    go_ret
    exact ⟨by simp [orI,hx.out],rfl⟩
  ·go_wp2_with fail
   go_ret
   exact ⟨by simp [orI,hx.out.1,hx.out.2],rfl⟩
def Grew (w w':World):Prop:=∃ q os,w'=Sort.grow (w.drewN q) os
theorem Grew.refl (w:World):Grew w w:=⟨0,#[],by simp [Sort.grow,World.drewN]⟩
theorem Grew.alloc {w w':World} (h:Grew w w') (o:Obj):Grew w (w'.alloc o):=by
 obtain ⟨q,os,rfl⟩:=h
 exact ⟨q,os++#[o],by rw [Sort.alloc_eq_grow,Sort.grow_grow]⟩
theorem Grew.drew {w w':World} (h:Grew w w'):Grew w w'.drew:=by
 obtain ⟨q,os,rfl⟩:=h
 exact ⟨q + 1,os,rfl⟩
def cfE (x y:Ent):Int:=orI (cmpI x.o y.o) (cmpI x.s y.s)
set_option maxRecDepth 100000 in
set_option maxHeartbeats 4000000 in
theorem order_any (x y:Ent) (w:World):Calls Tryz.prog 95 #[enE x,enE y] w fun e w'=>e = .returned (.int .i64 (cfE x y))∧Grew w w':=by
 obtain ⟨xo,xs,xt,xc,xb⟩:=x
 obtain ⟨yo,ys,yt,yc,yb⟩:=y
 simp only [enE]
 have b1:Blk ((w.alloc (.cells #[.int .i64 xo,.int .i64 xs,.int .i64 xt,.int .i64 xc,.bool xb] 170)).alloc (.cells #[.int .i64 yo,.int .i64 ys,.int .i64 yt,.int .i64 yc,.bool yb] 170)) w.heap.size 170 #[.int .i64 xo,.int .i64 xs,.int .i64 xt,.int .i64 xc,.bool xb]:=(Blk.new _ _ _).alloc _
 have b2:Blk ((w.alloc (.cells #[.int .i64 xo,.int .i64 xs,.int .i64 xt,.int .i64 xc,.bool xb] 170)).alloc (.cells #[.int .i64 yo,.int .i64 ys,.int .i64 yt,.int .i64 yc,.bool yb] 170)) (w.heap.size + 1) 170 #[.int .i64 yo,.int .i64 ys,.int .i64 yt,.int .i64 yc,.bool yb]:=by
  have:=Blk.new (w.alloc (.cells #[.int .i64 xo,.int .i64 xs,.int .i64 xt,.int .i64 xc,.bool xb] 170)) 170 #[.int .i64 yo,.int .i64 ys,.int .i64 yt,.int .i64 yc,.bool yb]
  rw [World.size_alloc] at this
  exact this
 have hg:Grew w ((w.alloc (.cells #[.int .i64 xo,.int .i64 xs,.int .i64 xt,.int .i64 xc,.bool xb] 170)).alloc (.cells #[.int .i64 yo,.int .i64 ys,.int .i64 yt,.int .i64 yc,.bool yb] 170)):=((Grew.refl w).alloc _).alloc _
 have B1:=hid b1
 have B2:=hid b2
 clear b1 b2
 go_enter Tryz.func95,Tryz.ntmps95
 go_wp2_with fail
 obtain ⟨W,hW⟩:∃ W,W=(w.alloc (.cells #[.int .i64 xo,.int .i64 xs,.int .i64 xt,.int .i64 xc,.bool xb] 170)).alloc (.cells #[.int .i64 yo,.int .i64 ys,.int .i64 yt,.int .i64 yc,.bool yb] 170):=⟨_,rfl⟩
 replace B1:=B1.out
 replace B2:=B2.out
 rw [← hW] at B1 B2 hg ⊢
 obtain ⟨G,hG⟩:∃ G,G=w.heap.size:=⟨_,rfl⟩
 rw [← hG] at B1 B2 ⊢
 clear hW hG
 have p0:W.cell? ⟨G,0,none⟩=some (.int .i64 xo):=B1.cell 0
 have p1:W.cell? ⟨G,1,none⟩=some (.int .i64 xs):=B1.cell 1
 have p2:W.cell? ⟨G + 1,0,none⟩=some (.int .i64 yo):=B2.cell 0
 have p3:W.cell? ⟨G + 1,1,none⟩=some (.int .i64 ys):=B2.cell 1
 have b1:=B1.alloc (.cells #[.int .i64 (cmpI xo yo),.int .i64 (cmpI xs ys)] 3)
 have b2:=B2.alloc (.cells #[.int .i64 (cmpI xo yo),.int .i64 (cmpI xs ys)] 3)
 have Q:=hid (show (W.alloc (.cells #[.int .i64 (cmpI xo yo),.int .i64 (cmpI xs ys)] 3)).drew.cell? ⟨G,0,none⟩=some (.int .i64 xo)∧(W.alloc (.cells #[.int .i64 (cmpI xo yo),.int .i64 (cmpI xs ys)] 3)).drew.cell? ⟨G,1,none⟩=some (.int .i64 xs) ∧
   (W.alloc (.cells #[.int .i64 (cmpI xo yo),.int .i64 (cmpI xs ys)] 3)).drew.cell? ⟨G + 1,0,none⟩=some (.int .i64 yo)∧(W.alloc (.cells #[.int .i64 (cmpI xo yo),.int .i64 (cmpI xs ys)] 3)).drew.cell? ⟨G + 1,1,none⟩=some (.int .i64 ys) from
  ⟨b1.cell 0,b1.cell 1,b2.cell 0,b2.cell 1⟩)
 have O:=hid (or_any W.heap.size (cmpI xo yo) (cmpI xs ys) (W.alloc (.cells #[.int .i64 (cmpI xo yo),.int .i64 (cmpI xs ys)] 3)).drew (Blk.new W _ _))
 clear B1 B2 b1 b2
 go_region_held3 (fun w'=>w'.cell? ⟨G,0,none⟩=some (.int .i64 xo)∧w'.cell? ⟨G,1,none⟩=some (.int .i64 xs)∧w'.cell? ⟨G + 1,0,none⟩=some (.int .i64 yo)∧w'.cell? ⟨G + 1,1,none⟩=some (.int .i64 ys))
  (first | exact ⟨p0,p1,p2,p3⟩ | exact Q.out)
  (first
   | (go_at_call 38; refine (compare_any _ _ _).mono ?_; rintro e w5 ⟨rfl,rfl⟩)
   | (go_at_call 134; refine O.out.mono ?_; rintro e w6 ⟨rfl,rfl⟩))
 all_goals
  go_wp2_with fail
  go_ret
  exact ⟨rfl,(hg.alloc _).drew⟩
end Go.Proofs.YtakaalldbnklcaaGreat.In
namespace Go.Proofs.YtakaalldbnklcaaGreat.In
open Go.RowKit Go.WideShapes
set_option linter.unusedVariables false
instance:Inhabited Ent:=⟨noEnt⟩
def enE5 (e:Ent):List Value:=[.int .i64 e.o,.int .i64 e.s,.int .i64 e.t,.int .i64 e.c,.bool e.b]
theorem enE5_len (e:Ent):(enE5 e).length=5:=rfl
theorem enE5_one (e:Ent):∀ v ∈ enE5 e,v.oneCell'=true:=by
 intro v hv
 simp only [enE5,List.mem_cons,List.not_mem_nil,or_false] at hv
 rcases hv with rfl | rfl | rfl | rfl | rfl <;> rfl
theorem info_ent:(Tryz.prog.info? 170).map (fun i=>(i.zero,i.size,i.bytes))=some (some (enE noEnt),5,40):=by kernel_rfl
def ltE (x y:Ent):Bool:=decide (cfE x y < 0)
theorem ltE_iff (x y:Ent):ltE x y=true ↔ x.o < y.o∨(x.o=y.o∧x.s < y.s):=by
 unfold ltE cfE orI cmpI
 rw [decide_eq_true_eq]
 by_cases h1:x.o < y.o
 ·simp [h1]
 ·by_cases h2:y.o < x.o
  ·simp [h1,h2]; omega
  ·have:x.o=y.o:=by omega
   by_cases h3:x.s < y.s
   ·simp [this,h3]
   ·by_cases h4:y.s < x.s <;> simp [this,h3,h4]
theorem swoE:Sort.SWO ltE where
 irrefl x:=by
  cases h:ltE x x with
  | false=>rfl
  | true=>have:=(ltE_iff x x).1 h; omega
 trans x y z h1 h2:=by rw [ltE_iff] at *; omega
 ntrans x y z h1 h2:=by
  cases h:ltE x z with
  | false=>rfl
  | true =>
   have h':=(ltE_iff x z).1 h
   have a:¬ (x.o < y.o∨(x.o=y.o∧x.s < y.s)):=fun e=>by rw [(ltE_iff x y).2 e] at h1; cases h1
   have b:¬ (y.o < z.o∨(y.o=z.o∧y.s < z.s)):=fun e=>by rw [(ltE_iff y z).2 e] at h2; cases h2
   omega
set_option maxRecDepth 100000 in
set_option maxHeartbeats 4000000 in
theorem list_any (hS:SortsAt Tryz.prog 94 (.func (.func 95) #[] #[]) enE5 5 ltE) (X B:Nat) (m:List ((Int × Int) × Ent)) (w:World) (h:IsBox w X B m) (hm:m.length * 40≤140737488351232) :
  Calls Tryz.prog 49 #[.pointer (some ⟨X,0,none⟩)] w fun e w' =>
   ∃ (v:Value) (l:List Ent),e = .returned v∧l.Perm (m.map (·.2))∧l.Pairwise (fun a b=>ltE b a=false)∧w'.ownsRow w.heap.size 170 5 v l.length (l.flatMap enE5)∧Below w.heap.size w w':=by
 have hc:=h.1.cell 0
 have hs:(#[.map (some B)]:Array Value)[0]?=some (.map (some B)):=rfl
 rw [hs] at hc
 clear hs
 obtain ⟨i0,hi,hz0,hz1,hz2⟩:=info_parts info_ent
 go_enter Tryz.func49,Tryz.ntmps49
 go_wp2_with (at_range; refine wpList_range _ rfl _ 196 228 170 rfl Tryz.underlying196 B m rfl h.2 ?_; intro w1 hI hb hz)
 go_frame
 go_loopw [3] (fun v wr=>∃ (left:List ((Int × Int) × Ent)) (vis:List Ent),wr.ownsRow w.heap.size 170 5 v vis.length (vis.flatMap enE5)∧IsIter wr w.heap.size B kP enE m left∧Hid ((vis++left.map (·.2)).Perm (m.map (·.2)))∧Below w.heap.size w wr)
  (fun _ wr=>wr.rangeLeft B w.heap.size)
 case atStart=>exact ⟨m,[],World.ownsRow_nil _ _ _ _,hI,hid (by simp),hb⟩
 case round =>
  clear hI hb hz
  obtain ⟨left,vis,hO,hI,hP,hb⟩:=hrel
  have hlen:vis.length≤m.length:=by
   have:=hP.out.length_eq
   simp at this
   omega
  have hll:=hI.left_len
  have HL:=hid hll
  clear hll
  go_wp2_with (first
   | (at_next; refine wpList_next _ rfl _ rfl w.heap.size B m left rfl hI ?_ ?_))
  ·intro hl0
   subst hl0
   have hP2:vis.Perm (m.map (·.2)):=by simpa using hP.out
   clear hP HL
   go_wp2_with fail
   refine (sort_owned hS enE5_len hO (by omega)).mono ?_
   rintro e w5 ⟨rfl,l',hp,hst,hO',hg⟩
   have hb5:Below w.heap.size w w5:=hb.grown hg hb.size (fun k hk=>(hO.lt k hk).1)
   clear hO hI hb hg
   go_wp2_with fail
   go_ret
   exact ⟨_,l',rfl,hp.trans hP2,hst,hO',hb5⟩
  ·intro a b v left' w2 hp hI2 hg2 hs2 hen
   obtain ⟨vo,vs,vt,vc,vb⟩:=v
   simp only [kP,enE] at hen
   have hO2:=hO.kept hg2 (.inr (fun e=>hI.notOwn hO e.symm))
   have hb2:=hb.trans (grown_below hg2 hb.size (Nat.le_refl _))
   have hO3:=hO2.alloc (.cells #[.int .i64 vo,.int .i64 vs,.int .i64 vt,.int .i64 vc,.bool vb] 170)
   have hI3:=(hI2.alloc (.cells #[.int .i64 vo,.int .i64 vs,.int .i64 vt,.int .i64 vc,.bool vb] 170)).alloc (.cells #[.int .i64 vo,.int .i64 vs,.int .i64 vt,.int .i64 vc,.bool vb] 170)
   have hlen2:vis.length + 1≤m.length:=by
    have h1:=hP.out.length_eq
    have h2:=hp.length_eq
    simp at h1 h2
    omega
   clear hO hI hg2 hs2 hO2 hb
   go_wp2_with (first
    | (at_builtin; refine wpList_push _ rfl _ _ 145 rfl w.heap.size 170 i0 _ 5 40 Tryz.underlying145 hi hz0 hz1 hz2 rfl (by decide) _ _ _ (by rfl) hO3 #[.int .i64 vo,.int .i64 vs,.int .i64 vt,.int .i64 vc,.bool vb] (w2.heap.size + 1) (by simp) (by rfl) (by rfl) (by rfl) (by unfold maxLen; omega) (by omega) (by have:=hb2.size; simp; omega) ?_; intro v' w3 hO4 hg4))
   have hI5:=(hI2.alloc (.cells #[.int .i64 vo,.int .i64 vs,.int .i64 vt,.int .i64 vc,.bool vb] 170))
   have hI4:=hI3.grown hg4 (fun e=>hI5.isMap.notOwn hO3 e) (fun e=>hI5.notOwn hO3 e)
   have hb4:=((hb2.alloc hb2.size (.cells #[.int .i64 vo,.int .i64 vs,.int .i64 vt,.int .i64 vc,.bool vb] 170)).alloc (by have:=hb2.size; simp; omega) (.cells #[.int .i64 vo,.int .i64 vs,.int .i64 vt,.int .i64 vc,.bool vb] 170)).grown hg4 (by have:=hb2.size; simp; omega) (fun k hk=>(hO3.lt k hk).1)
   have hP4:=hid (show ((vis++[(⟨vo,vs,vt,vc,vb⟩:Ent)])++left'.map (·.2)).Perm (m.map (·.2)) from by
    refine List.Perm.trans ?_ hP.out
    rw [List.append_assoc]
    have hq:=(hp.map (fun x:(Int × Int) × Ent=>x.2)).symm
    rw [List.map_cons] at hq
    exact List.Perm.append_left vis hq)
   have hO5:w3.ownsRow w.heap.size 170 5 v' (vis++[(⟨vo,vs,vt,vc,vb⟩:Ent)]).length ((vis++[(⟨vo,vs,vt,vc,vb⟩:Ent)]).flatMap enE5):=by simpa [enE5] using hO4
   have hll:left'.length < left.length:=by have:=hp.length_eq; simp at this; omega
   clear hO3 hI3 hI5 hO4 hg4 hI2 hb2 hen
   go_roundw
   case rel=>exact ⟨left',_,hO5,hI4,hP4,hb4⟩
   case measure=>rw [hI4.left_len,HL.out]; exact hll
end Go.Proofs.YtakaalldbnklcaaGreat.In
namespace Go.Proofs.YtakaalldbnklcaaGreat.In
open Go.RowKit
set_option linter.unusedVariables false
structure Req where
 o:Int
 s:Int
 t:Int
 c:Int
 u:Bool
 k:Bool
section
variable {w0 w w':World} {X B Y C G:Nat} {x:Req} {mx my:List ((Int × Int) × Ent)} {A:Option Addr} {l:List Req}
end
end Go.Proofs.YtakaalldbnklcaaGreat.In
namespace Go.Proofs.YtakaalldbnklcaaGreat.In
open Go.RowKit Go.WideShapes
set_option linter.unusedVariables false
def keyE (e:Ent):Int × Int:=(e.o,e.s)
def EntOk (e:Ent):Prop:=0≤e.t∧(e.t=0→e.c=0∧e.b=true)
def MapOk (m:List ((Int × Int) × Ent)):Prop:=∀ p ∈ m,keyE p.2=p.1∧EntOk p.2
theorem mapOk_keep {m:List ((Int × Int) × Ent)} (h:MapOk m) (o s t:Int) (u:Bool) (c:Int):MapOk (keepM m o s t u c):=by
 unfold keepM
 split
 ·rename_i hf
  intro p hp
  rcases mem_mset hp with rfl | ⟨hp',_⟩
  ·have he:EntOk (entAt m (o,s))∨entAt m (o,s)=noEnt:=by
    unfold entAt
    cases hg:mget m (o,s) with
    | none=>exact .inr rfl
    | some e=>exact .inl (h _ (mget_mem hg)).2
   cases u with
   | true =>
    refine ⟨rfl, ?_⟩
    simp only [keepE,if_true]
    rcases he with ⟨h1,h2⟩ | h1
    ·exact ⟨h1,fun h0=>⟨(h2 h0).1,rfl⟩⟩
    ·rw [h1]; exact ⟨Int.le_refl _,fun _=>⟨rfl,rfl⟩⟩
   | false =>
    refine ⟨rfl, ?_⟩
    have ht:1≤t:=by
     unfold askF at hf
     simp only [Bool.false_eq_true,if_false] at hf
     split at hf
     ·exact absurd hf (by decide)
     ·split at hf
      ·exact absurd hf (by decide)
      ·omega
    simp only [keepE,Bool.false_eq_true,if_false]
    exact ⟨by show 0≤t; omega,fun h0=>by have:t=0:=h0; omega⟩
  ·exact h p hp'
 ·exact h
end Go.Proofs.YtakaalldbnklcaaGreat.In
namespace Go.Proofs.YtakaalldbnklcaaGreat.In
open Go.RowKit Go.WideShapes Go.ChangeShapes Go.ChangeAt Go.Deep
set_option linter.unusedVariables false
def ltP (p q:Int × Int):Bool:=decide (p.1 < q.1∨(p.1=q.1∧p.2 < q.2))
theorem linP:LinK ltP where
 irrefl a:=by simp [ltP]
 trans a b c h g:=by simp only [ltP,decide_eq_true_eq] at *; omega
 total a b h g:=by
  obtain ⟨a1,a2⟩:=a
  obtain ⟨b1,b2⟩:=b
  simp only [ltP,decide_eq_false_iff_not] at *
  have h1:a1=b1:=by omega
  have h2:a2=b2:=by omega
  rw [h1,h2]
theorem ltE_ltP (x y:Ent):ltE x y=ltP (keyE x) (keyE y):=by
 rw [Bool.eq_iff_iff,ltE_iff]
 unfold ltP keyE
 rw [decide_eq_true_eq]
def hasK (r:List Ent) (p:Int × Int):Bool:=match r[posK keyE ltP r p]? with | some y=>decide (y.o=p.1) && decide (y.s=p.2) | none=>false
def entR (r:List Ent) (p:Int × Int):Ent:=if hasK r p=true then r.getD (posK keyE ltP r p) noEnt else noEnt
theorem hasK_true {r:List Ent} {p:Int × Int} (h:hasK r p=true):∃ y,r[posK keyE ltP r p]?=some y∧keyE y=p∧entR r p=y:=by
 have h0:=h
 unfold hasK at h
 cases hy:r[posK keyE ltP r p]? with
 | none=>rw [hy] at h; cases h
 | some y =>
  rw [hy] at h
  simp only [Bool.and_eq_true,decide_eq_true_eq] at h
  refine ⟨y,rfl,by unfold keyE; rw [h.1,h.2], ?_⟩
  unfold entR
  rw [if_pos h0,List.getD_eq_getElem?_getD,hy]
  rfl
def keepL (r:List Ent) (o s t:Int) (u:Bool) (c:Int):List Ent :=
  if (askF (entR r (o,s)) t u).1=0 then
    (if hasK r (o,s)=true then r.set (posK keyE ltP r (o,s)) (keepE (entR r (o,s)) o s t u c)
     else r.take (posK keyE ltP r (o,s))++keepE noEnt o s t u c :: r.drop (posK keyE ltP r (o,s)))
  else r
def keepRr (r:List Ent) (o s t:Int) (u:Bool):Int:=if (askF (entR r (o,s)) t u).1=0 then 0 else 130
theorem info_ent2:(Tryz.prog.info? 171).map (fun i=>(i.zero,i.size,i.bytes))=some (some (enE noEnt),5,40):=by kernel_rfl
structure IsRef (base:Nat) (w:World) (R:Nat) (A:Option Addr) (cap:Nat) (r:List Ent):Prop where
 blk:Blk w R 97 #[.slice A r.length cap]
 own:w.ownsRow base 171 5 (.slice A r.length cap) r.length (r.flatMap enE5)
 lt:R < base
section
variable {base R cap:Nat} {A:Option Addr} {r:List Ent} {w w':World}
theorem IsRef.next (h:IsRef base w R A cap r) (hb:Below w.heap.size w w'):IsRef base w' R A cap r :=
 ⟨h.blk.next hb,h.own.kept (grown_of_below hb none) (by cases hv:(Value.slice A r.length cap).ownBlock <;> simp),h.lt⟩
end
end Go.Proofs.YtakaalldbnklcaaGreat.In
namespace Go.Proofs.YtakaalldbnklcaaGreat.In
open Go.RowKit Go.WideShapes
set_option linter.unusedVariables false
set_option maxHeartbeats 2000000 in
theorem before_any (x y:Ent) (w:World):Calls Tryz.prog 135 #[enE x,enE y] w fun e w'=>e = .returned (.bool (ltE x y))∧Below w.heap.size w w':=by
 obtain ⟨xo,xs,xt,xc,xb⟩:=x
 obtain ⟨yo,ys,yt,yc,yb⟩:=y
 simp only [enE]
 have hb:Below w.heap.size w ((w.alloc (.cells #[.int .i64 xo,.int .i64 xs,.int .i64 xt,.int .i64 xc,.bool xb] 171)).alloc (.cells #[.int .i64 yo,.int .i64 ys,.int .i64 yt,.int .i64 yc,.bool yb] 171)):=((Below.refl _ _).alloc (Nat.le_refl _) _).alloc (by simp) _
 have HB:=hid hb
 clear hb
 rcases (show xo < yo∨(xo=yo∧xs < ys)∨(xo=yo∧ys≤xs)∨yo < xo from by omega) with h1 | ⟨h1,h2⟩ | ⟨h1,h2⟩ | h1
 ·have e:ltE ⟨xo,xs,xt,xc,xb⟩ ⟨yo,ys,yt,yc,yb⟩=true:=(ltE_iff _ _).2 (.inl h1)
  have d1:decide (xo < yo)=true:=decide_eq_true h1
  rw [e]
  clear e
  go_enter Tryz.func135,Tryz.ntmps135
  go_wp2_with fail
  go_ret
  exact ⟨by simp,HB.out⟩
 ·have e:ltE ⟨xo,xs,xt,xc,xb⟩ ⟨yo,ys,yt,yc,yb⟩=true:=(ltE_iff _ _).2 (.inr ⟨h1,h2⟩)
  subst h1
  have d1:decide (xs < ys)=true:=decide_eq_true h2
  rw [e]
  clear e
  go_enter Tryz.func135,Tryz.ntmps135
  go_wp2_with fail
  go_ret
  exact ⟨by simp,HB.out⟩
 ·have e:ltE ⟨xo,xs,xt,xc,xb⟩ ⟨yo,ys,yt,yc,yb⟩=false:=by
   cases hh:ltE ⟨xo,xs,xt,xc,xb⟩ ⟨yo,ys,yt,yc,yb⟩ with
   | false=>rfl
   | true=>have:=(ltE_iff _ _).1 hh; simp only at this; omega
  subst h1
  have d1:decide (xs < ys)=false:=decide_eq_false (by omega)
  rw [e]
  clear e
  go_enter Tryz.func135,Tryz.ntmps135
  go_wp2_with fail
  go_ret
  exact ⟨by simp,HB.out⟩
 ·have e:ltE ⟨xo,xs,xt,xc,xb⟩ ⟨yo,ys,yt,yc,yb⟩=false:=by
   cases hh:ltE ⟨xo,xs,xt,xc,xb⟩ ⟨yo,ys,yt,yc,yb⟩ with
   | false=>rfl
   | true=>have:=(ltE_iff _ _).1 hh; simp only at this; omega
  have d1:decide (xo < yo)=false:=decide_eq_false (by omega)
  have d2:(xo == yo)=false:=by simp; omega
  rw [e]
  clear e
  go_enter Tryz.func135,Tryz.ntmps135
  go_wp2_with fail
  go_ret
  exact ⟨by simp,HB.out⟩
theorem IsRef.elem {base R cap:Nat} {A:Option Addr} {r:List Ent} {w:World} (h:IsRef base w R A cap r) {k:Nat} {y:Ent} (hk:r[k]?=some y):∃ g,A=some ⟨g,0,none⟩∧base≤g∧CellsAt w g (k * 5) (enE5 y):=by
 have hkl:=(List.getElem?_eq_some_iff.1 hk).1
 obtain ⟨g,cap',e,hb,hlt⟩:=own_form h.own (by omega)
 injection e with e1 e2 e3
 subst e1 e3
 exact ⟨g,rfl,hb,hlt,fun j u hu=>own_cells enE5_len h.own hk hu⟩
set_option maxRecDepth 100000 in
set_option maxHeartbeats 8000000 in
theorem find_any {base R cap:Nat} {A:Option Addr} {r:List Ent} (o s:Int) (w:World) (h:IsRef base w R A cap r) (hl:r.length≤140737488355328) :
  Calls Tryz.prog 97 #[.pointer (some ⟨R,0,none⟩),.int .i64 o,.int .i64 s] w fun e w' =>
   e = .returned (.tuple #[.int .i64 (posK keyE ltP r (o,s):Nat),.bool (hasK r (o,s))])∧Below w.heap.size w w':=by
 have hG:=Blk.new w 171 #[.int .i64 o,.int .i64 s,.int .i64 0,.int .i64 0,.bool false]
 have h1:=h.next ((Below.refl _ _).alloc (Nat.le_refl _) (.cells #[.int .i64 o,.int .i64 s,.int .i64 0,.int .i64 0,.bool false] 171))
 have hb1:=(Below.refl w.heap.size w).alloc (Nat.le_refl _) (.cells #[.int .i64 o,.int .i64 s,.int .i64 0,.int .i64 0,.bool false] 171)
 have H:=hid (And.intro hG (And.intro h1 hb1))
 clear hG h1 hb1 h
 go_enter Tryz.func97,Tryz.ntmps97
 go_wp2_with fail
 obtain ⟨hG,h1,hb1⟩:=H.out
 clear H
 obtain ⟨w1,hw1⟩:∃ w1,w1=w.alloc (.cells #[.int .i64 o,.int .i64 s,.int .i64 0,.int .i64 0,.bool false] 171):=⟨_,rfl⟩
 rw [← hw1] at hG h1 hb1 ⊢
 obtain ⟨G,hGG⟩:∃ G,G=w.heap.size:=⟨_,rfl⟩
 rw [← hGG] at hG ⊢
 clear hw1 hGG
 go_loopw [9] (fun i wr=>∃ k:Nat,k≤r.length∧i = .int .i64 k∧Hid (∀ j y,j < k→r[j]?=some y→ltP (keyE y) (o,s)=true)∧Blk wr G 171 #[.int .i64 o,.int .i64 s,.int .i64 0,.int .i64 0,.bool false]∧IsRef base wr R A cap r∧Below w.heap.size w wr) (fun i _=>r.length - (intOf i).toNat)
 case atStart=>exact ⟨0,Nat.zero_le _,rfl,hid (fun j y hj=>by omega),hG,h1,hb1⟩
 case round =>
  clear hG h1 hb1
  obtain ⟨k,hk,rfl,hP,hG,h,hb⟩:=hrel
  have hbl:wr.cell? ⟨R,0,none⟩=some (.slice A r.length cap):=h.blk.cell 0
  by_cases hlt:k < r.length
  ·obtain ⟨y,hy⟩:∃ y,r[k]?=some y:=⟨r[k],List.getElem?_eq_getElem hlt⟩
   obtain ⟨g,rfl,hbg,hpr⟩:=h.elem hy
   have HY:=hid hy
   clear hy
   obtain ⟨C,hCd⟩:∃ C:World→Prop,∀ w',C w' ↔ (IsRef base w' R (some ⟨g,0,none⟩) cap r∧Blk w' G 171 #[.int .i64 o,.int .i64 s,.int .i64 0,.int .i64 0,.bool false]∧CellsAt w' g (k * 5) (enE5 y)∧Below w.heap.size w w'):=⟨_,fun _=>Iff.rfl⟩
   have hC:C wr.drew:=(hCd _).2 ⟨h.next (below_drewN (Below.refl _ _) 1),hG,hpr,hb.drew⟩
   obtain ⟨yo,ys,yt,yc,yb⟩:=y
   have HL:Hid (ltE ⟨yo,ys,yt,yc,yb⟩ ⟨o,s,0,0,false⟩=ltP (keyE ⟨yo,ys,yt,yc,yb⟩) (o,s)):=hid (ltE_ltP _ _)
   obtain ⟨cv,hcv⟩:∃ cv,ltE ⟨yo,ys,yt,yc,yb⟩ ⟨o,s,0,0,false⟩=cv:=⟨_,rfl⟩
   have HCV:=hid hcv
   clear hcv
   go_wp2_with fail
   have c0:∀ p:In C,p.w.cell? ⟨R,0,none⟩=some (.slice (some ⟨g,0,none⟩) r.length cap):=fun p=>((hCd _).1 p.h).1.blk.cell 0
   have g0:∀ p:In C,p.w.cell? ⟨G,0,none⟩=some (.int .i64 o):=fun p=>((hCd _).1 p.h).2.1.cell 0
   have g1:∀ p:In C,p.w.cell? ⟨G,1,none⟩=some (.int .i64 s):=fun p=>((hCd _).1 p.h).2.1.cell 1
   have g2:∀ p:In C,p.w.cell? ⟨G,2,none⟩=some (.int .i64 0):=fun p=>((hCd _).1 p.h).2.1.cell 2
   have g3:∀ p:In C,p.w.cell? ⟨G,3,none⟩=some (.int .i64 0):=fun p=>((hCd _).1 p.h).2.1.cell 3
   have g4:∀ p:In C,p.w.cell? ⟨G,4,none⟩=some (.bool false):=fun p=>((hCd _).1 p.h).2.1.cell 4
   have p0:∀ p:In C,p.w.cell? ⟨g,k * 5,none⟩=some (.int .i64 yo):=fun p=>((hCd _).1 p.h).2.2.1.2 0 _ rfl
   have p1:∀ p:In C,p.w.cell? ⟨g,k * 5 + 1,none⟩=some (.int .i64 ys):=fun p=>((hCd _).1 p.h).2.2.1.2 1 _ rfl
   have p2:∀ p:In C,p.w.cell? ⟨g,k * 5 + 2,none⟩=some (.int .i64 yt):=fun p=>((hCd _).1 p.h).2.2.1.2 2 _ rfl
   have p3:∀ p:In C,p.w.cell? ⟨g,k * 5 + 3,none⟩=some (.int .i64 yc):=fun p=>((hCd _).1 p.h).2.2.1.2 3 _ rfl
   have p4:∀ p:In C,p.w.cell? ⟨g,k * 5 + 4,none⟩=some (.bool yb):=fun p=>((hCd _).1 p.h).2.2.1.2 4 _ rfl
   have O:Hid (∀ p:In C,Calls Tryz.prog 135 #[.agg #[.int .i64 yo,.int .i64 ys,.int .i64 yt,.int .i64 yc,.bool yb],.agg #[.int .i64 o,.int .i64 s,.int .i64 0,.int .i64 0,.bool false]] p.w fun e w'=>e = .returned (.bool cv)∧C w') :=
    hid (fun p=>by
     have:=before_any ⟨yo,ys,yt,yc,yb⟩ ⟨o,s,0,0,false⟩ p.w
     rw [HCV.out] at this
     exact this.mono fun _ _ ⟨e1,e2⟩=>⟨e1,(hCd _).2 (by have:=(hCd _).1 p.h; exact ⟨this.1.next e2,this.2.1.next e2,this.2.2.1.next e2,bthen this.2.2.2 e2⟩)⟩)
   have HCd:=hid hCd
   clear hCd h hG hb hpr hbl
   refine wp_region_in C (by kernel_rfl) (by kernel_rfl) hC ?_
   intro hne
   clear hC
   repeat (first | go_big_quiet_step ((go_at_call 135; exact Calls.in_of (O.out _))) | quiet_step ((go_at_call 135; exact Calls.in_of (O.out _))))
   refine wpQuiet_nil ?_
   intro wq hq
   obtain ⟨h,hG,hpr,hb⟩:=(HCd.out _).1 hq
   clear c0 g0 g1 g2 g3 g4 p0 p1 p2 p3 p4 O hne hq HCd
   cases cv with
   | true =>
    go_wp2_with fail
    go_roundw
    case rel=>exact ⟨k + 1,by omega,by go_num,hid (fun j z hj hz=>by
     by_cases e:j=k
     ·subst e; rw [HY.out] at hz; injection hz with hz; subst hz; rw [← HL.out]; exact HCV.out
     ·exact hP.out j z (by omega) hz),hG,h,hb⟩
    case measure=>simp [intOf]; omega
   | false =>
    have hpos:posK keyE ltP r (o,s)=k:=posK_eq hk hP.out (fun z hz=>by rw [HY.out] at hz; injection hz with hz; subst hz; rw [← HL.out]; exact HCV.out)
    have hhas:hasK r (o,s)=(decide (yo=o) && decide (ys=s)):=by unfold hasK; rw [hpos,HY.out]
    have HP2:=hid hpos
    have HH2:=hid hhas
    clear hpos hhas HCV HL HY hP
    have c0:wq.cell? ⟨R,0,none⟩=some (.slice (some ⟨g,0,none⟩) r.length cap):=h.blk.cell 0
    have p0:wq.cell? ⟨g,k * 5,none⟩=some (.int .i64 yo):=hpr.2 0 _ rfl
    have p1:wq.cell? ⟨g,k * 5 + 1,none⟩=some (.int .i64 ys):=hpr.2 1 _ rfl
    have hd1:decide (k < r.length)=true:=decide_eq_true hlt
    by_cases e1:yo=o
    ·by_cases e2:ys=s
     ·subst e1 e2
      go_wp2_with fail
      go_quiet (fail)
      go_wp2_with fail
      go_ret2
      exact ⟨by rw [HP2.out,HH2.out]; simp,below_drewN hb _⟩
     ·subst e1
      have b2:(ys == s)=false:=by simpa using e2
      go_wp2_with fail
      go_quiet (fail)
      go_wp2_with fail
      go_ret2
      exact ⟨by rw [HP2.out,HH2.out]; simp [e2],below_drewN hb _⟩
    ·have b2:(yo == o)=false:=by simpa using e1
     go_wp2_with fail
     go_quiet (fail)
     go_wp2_with fail
     go_ret2
     exact ⟨by rw [HP2.out,HH2.out]; simp [e1],below_drewN hb _⟩
  ·have hk':k=r.length:=by omega
   have hpos:posK keyE ltP r (o,s)=r.length:=posK_eq (Nat.le_refl _) (fun j y hj hy=>hP.out j y (by omega) hy) (fun z hz=>by rw [List.getElem?_eq_none (Nat.le_refl _)] at hz; cases hz)
   have hhas:hasK r (o,s)=false:=by unfold hasK; rw [hpos,List.getElem?_eq_none (Nat.le_refl _)]
   subst hk'
   have HP2:=hid hpos
   have HH2:=hid hhas
   clear hpos hhas hP hlt hk
   go_wp2_with fail
   go_quiet (fail)
   go_wp2_with fail
   go_ret2
   exact ⟨by rw [HP2.out,HH2.out]; simp,below_drewN hb _⟩
end Go.Proofs.YtakaalldbnklcaaGreat.In
namespace Go.Proofs.YtakaalldbnklcaaGreat.In
open Go.RowKit Go.WideShapes
set_option linter.unusedVariables false
set_option maxRecDepth 100000 in
set_option maxHeartbeats 8000000 in
theorem rask_any {base R cap:Nat} {A:Option Addr} {r:List Ent} (o s t:Int) (u:Bool) (w:World) (h:IsRef base w R A cap r) (hl:r.length≤140737488355328) :
  Calls Tryz.prog 53 #[.pointer (some ⟨R,0,none⟩),.int .i64 o,.int .i64 s,.int .i64 t,.bool u] w fun e w' =>
   e = .returned (.tuple #[.int .i64 (askF (entR r (o,s)) t u).1,.int .i64 (askF (entR r (o,s)) t u).2])∧Below w.heap.size w w':=by
 have F:=find_any o s w h hl
 have hpl:posK keyE ltP r (o,s)≤r.length:=posK_le _ _
 cases hh:hasK r (o,s) with
 | false =>
  have he:entR r (o,s)=noEnt:=by unfold entR; rw [hh]; rfl
  rw [hh] at F
  rw [he]
  clear hh he
  generalize posK keyE ltP r (o,s)=ps at F hpl
  have HF:=hid F
  clear F
  go_enter Tryz.func53,Tryz.ntmps53
  cases u with
  | true =>
   go_wp2_with fail
   refine HF.out.mono ?_
   rintro e w1 ⟨rfl,hb⟩
   have hb2:=hb.alloc hb.size (.cells #[.int .i64 0,.int .i64 0,.int .i64 0,.int .i64 0,.bool false] 171)
   clear h HF hb
   go_wp2_with fail
   go_ret2
   exact ⟨rfl,hb2⟩
  | false =>
   by_cases h1:t < 1
   ·go_wp2_with fail
    refine HF.out.mono ?_
    rintro e w1 ⟨rfl,hb⟩
    have hb2:=hb.alloc hb.size (.cells #[.int .i64 0,.int .i64 0,.int .i64 0,.int .i64 0,.bool false] 171)
    clear h HF hb
    go_wp2_with fail
    go_ret2
    exact ⟨by simp [askF,noEnt,h1],hb2⟩
   ·have b1:decide (t < 1)=false:=decide_eq_false h1
    have b2:decide (t < 0)=false:=decide_eq_false (by omega)
    have b3:(t == 0)=false:=by simp; omega
    have HV:Hid (askF noEnt t false=(0,0)):=hid (ask_fresh (e:=noEnt) rfl t (by omega) (by show (0:Int) < t; omega))
    clear h1
    go_wp2_with fail
    refine HF.out.mono ?_
    rintro e w1 ⟨rfl,hb⟩
    have hb2:=hb.alloc hb.size (.cells #[.int .i64 0,.int .i64 0,.int .i64 0,.int .i64 0,.bool false] 171)
    clear h HF hb
    go_wp2_with fail
    go_ret2
    exact ⟨by rw [HV.out]; rfl,hb2⟩
 | true =>
  obtain ⟨y,hy,hk,he⟩:=hasK_true hh
  rw [hh] at F
  rw [he]
  have hbl:w.cell? ⟨R,0,none⟩=some (.slice A r.length cap):=h.blk.cell 0
  obtain ⟨g,rfl,hbg,hpr⟩:=h.elem hy
  have hlt:posK keyE ltP r (o,s) < r.length:=(List.getElem?_eq_some_iff.1 hy).1
  clear hh he hk hy hpl
  generalize posK keyE ltP r (o,s)=ps at F hlt hpr
  have HF:=hid F
  clear F hbl
  obtain ⟨yo,ys,yt,yc,yb⟩:=y
  go_enter Tryz.func53,Tryz.ntmps53
  cases u with
  | true =>
   cases yb
   all_goals
    go_wp2_with fail
    refine HF.out.mono ?_
    rintro e w1 ⟨rfl,hb⟩
    have hp1:=hpr.next hb
    have c0:w1.cell? ⟨R,0,none⟩=some (.slice (some ⟨g,0,none⟩) r.length cap):=(h.next hb).blk.cell 0
    have lR:R < w1.heap.size:=(h.next hb).blk.lt
    have lg:g < w1.heap.size:=hp1.1
    have p0:w1.cell? ⟨g,ps * 5,none⟩=some (.int .i64 yo):=hp1.2 0 _ rfl
    have p1:w1.cell? ⟨g,ps * 5 + 1,none⟩=some (.int .i64 ys):=hp1.2 1 _ rfl
    have p2:w1.cell? ⟨g,ps * 5 + 2,none⟩=some (.int .i64 yt):=hp1.2 2 _ rfl
    have p3:w1.cell? ⟨g,ps * 5 + 3,none⟩=some (.int .i64 yc):=hp1.2 3 _ rfl
    have p4:=hp1.2 4 _ rfl
    clear h HF hp1 hpr
    go_wp2_with fail
    go_ret2
    exact ⟨rfl,hb.alloc hb.size _⟩
  | false =>
   cases yb with
   | true =>
    go_wp2_with fail
    refine HF.out.mono ?_
    rintro e w1 ⟨rfl,hb⟩
    have hp1:=hpr.next hb
    have c0:w1.cell? ⟨R,0,none⟩=some (.slice (some ⟨g,0,none⟩) r.length cap):=(h.next hb).blk.cell 0
    have lR:R < w1.heap.size:=(h.next hb).blk.lt
    have lg:g < w1.heap.size:=hp1.1
    have p0:w1.cell? ⟨g,ps * 5,none⟩=some (.int .i64 yo):=hp1.2 0 _ rfl
    have p1:w1.cell? ⟨g,ps * 5 + 1,none⟩=some (.int .i64 ys):=hp1.2 1 _ rfl
    have p2:w1.cell? ⟨g,ps * 5 + 2,none⟩=some (.int .i64 yt):=hp1.2 2 _ rfl
    have p3:w1.cell? ⟨g,ps * 5 + 3,none⟩=some (.int .i64 yc):=hp1.2 3 _ rfl
    have p4:w1.cell? ⟨g,ps * 5 + 4,none⟩=some (.bool true):=hp1.2 4 _ rfl
    clear h HF hp1 hpr
    go_wp2_with fail
    go_ret2
    exact ⟨rfl,hb.alloc hb.size _⟩
   | false =>
    rcases (show t < 1∨(1≤t∧t < yt)∨(1≤t∧t=yt)∨(1≤t∧yt < t) from by omega) with h1 | ⟨h1,h2⟩ | ⟨h1,h2⟩ | ⟨h1,h2⟩
    ·have b1:decide (t < 1)=true:=decide_eq_true h1
     have HV:Hid (askF ⟨yo,ys,yt,yc,false⟩ t false=(2,0)):=hid (by simp [askF,h1])
     clear h1
     go_wp2_with fail
     refine HF.out.mono ?_
     rintro e w1 ⟨rfl,hb⟩
     have hp1:=hpr.next hb
     have c0:w1.cell? ⟨R,0,none⟩=some (.slice (some ⟨g,0,none⟩) r.length cap):=(h.next hb).blk.cell 0
     have lR:R < w1.heap.size:=(h.next hb).blk.lt
     have lg:g < w1.heap.size:=hp1.1
     have p0:w1.cell? ⟨g,ps * 5,none⟩=some (.int .i64 yo):=hp1.2 0 _ rfl
     have p1:w1.cell? ⟨g,ps * 5 + 1,none⟩=some (.int .i64 ys):=hp1.2 1 _ rfl
     have p2:w1.cell? ⟨g,ps * 5 + 2,none⟩=some (.int .i64 yt):=hp1.2 2 _ rfl
     have p3:w1.cell? ⟨g,ps * 5 + 3,none⟩=some (.int .i64 yc):=hp1.2 3 _ rfl
     have p4:w1.cell? ⟨g,ps * 5 + 4,none⟩=some (.bool false):=hp1.2 4 _ rfl
     clear h HF hp1 hpr
     go_wp2_with fail
     go_ret2
     exact ⟨by rw [HV.out]; rfl,hb.alloc hb.size _⟩
    ·have b1:decide (t < 1)=false:=decide_eq_false (by omega)
     have b2:decide (t < yt)=true:=decide_eq_true h2
     have HV:Hid (askF ⟨yo,ys,yt,yc,false⟩ t false=(2,0)):=hid (by simp [askF,h2])
     clear h1 h2
     go_wp2_with fail
     refine HF.out.mono ?_
     rintro e w1 ⟨rfl,hb⟩
     have hp1:=hpr.next hb
     have c0:w1.cell? ⟨R,0,none⟩=some (.slice (some ⟨g,0,none⟩) r.length cap):=(h.next hb).blk.cell 0
     have lR:R < w1.heap.size:=(h.next hb).blk.lt
     have lg:g < w1.heap.size:=hp1.1
     have p0:w1.cell? ⟨g,ps * 5,none⟩=some (.int .i64 yo):=hp1.2 0 _ rfl
     have p1:w1.cell? ⟨g,ps * 5 + 1,none⟩=some (.int .i64 ys):=hp1.2 1 _ rfl
     have p2:w1.cell? ⟨g,ps * 5 + 2,none⟩=some (.int .i64 yt):=hp1.2 2 _ rfl
     have p3:w1.cell? ⟨g,ps * 5 + 3,none⟩=some (.int .i64 yc):=hp1.2 3 _ rfl
     have p4:w1.cell? ⟨g,ps * 5 + 4,none⟩=some (.bool false):=hp1.2 4 _ rfl
     clear h HF hp1 hpr
     go_wp2_with fail
     go_ret2
     exact ⟨by rw [HV.out]; rfl,hb.alloc hb.size _⟩
    ·have b1:decide (t < 1)=false:=decide_eq_false (by omega)
     have b2:decide (t < yt)=false:=decide_eq_false (by omega)
     have HV:Hid (askF ⟨yo,ys,yt,yc,false⟩ t false=(1,yc)):=hid (by simp [askF,h2]; omega)
     have b3:(t == yt)=true:=by simpa using h2
     clear h1 h2
     go_wp2_with fail
     refine HF.out.mono ?_
     rintro e w1 ⟨rfl,hb⟩
     have hp1:=hpr.next hb
     have c0:w1.cell? ⟨R,0,none⟩=some (.slice (some ⟨g,0,none⟩) r.length cap):=(h.next hb).blk.cell 0
     have lR:R < w1.heap.size:=(h.next hb).blk.lt
     have lg:g < w1.heap.size:=hp1.1
     have p0:w1.cell? ⟨g,ps * 5,none⟩=some (.int .i64 yo):=hp1.2 0 _ rfl
     have p1:w1.cell? ⟨g,ps * 5 + 1,none⟩=some (.int .i64 ys):=hp1.2 1 _ rfl
     have p2:w1.cell? ⟨g,ps * 5 + 2,none⟩=some (.int .i64 yt):=hp1.2 2 _ rfl
     have p3:w1.cell? ⟨g,ps * 5 + 3,none⟩=some (.int .i64 yc):=hp1.2 3 _ rfl
     have p4:w1.cell? ⟨g,ps * 5 + 4,none⟩=some (.bool false):=hp1.2 4 _ rfl
     clear h HF hp1 hpr
     go_wp2_with fail
     go_quiet (fail)
     go_wp2_with fail
     go_ret2
     exact ⟨by rw [HV.out]; rfl,below_drewN (hb.alloc hb.size _) _⟩
    ·have b1:decide (t < 1)=false:=decide_eq_false (by omega)
     have b2:decide (t < yt)=false:=decide_eq_false (by omega)
     have HV:Hid (askF ⟨yo,ys,yt,yc,false⟩ t false=(0,0)):=hid (by
      simp only [askF,Bool.false_eq_true,if_false]
      rw [if_neg (by omega),if_neg (by omega),if_neg (by omega)])
     have b3:(t == yt)=false:=by simp; omega
     clear h1 h2
     go_wp2_with fail
     refine HF.out.mono ?_
     rintro e w1 ⟨rfl,hb⟩
     have hp1:=hpr.next hb
     have c0:w1.cell? ⟨R,0,none⟩=some (.slice (some ⟨g,0,none⟩) r.length cap):=(h.next hb).blk.cell 0
     have lR:R < w1.heap.size:=(h.next hb).blk.lt
     have lg:g < w1.heap.size:=hp1.1
     have p0:w1.cell? ⟨g,ps * 5,none⟩=some (.int .i64 yo):=hp1.2 0 _ rfl
     have p1:w1.cell? ⟨g,ps * 5 + 1,none⟩=some (.int .i64 ys):=hp1.2 1 _ rfl
     have p2:w1.cell? ⟨g,ps * 5 + 2,none⟩=some (.int .i64 yt):=hp1.2 2 _ rfl
     have p3:w1.cell? ⟨g,ps * 5 + 3,none⟩=some (.int .i64 yc):=hp1.2 3 _ rfl
     have p4:w1.cell? ⟨g,ps * 5 + 4,none⟩=some (.bool false):=hp1.2 4 _ rfl
     clear h HF hp1 hpr
     go_wp2_with fail
     go_ret2
     exact ⟨by rw [HV.out]; rfl,hb.alloc hb.size _⟩
set_option maxRecDepth 100000 in
set_option maxHeartbeats 8000000 in
theorem rdone_any {base R cap:Nat} {A:Option Addr} {r:List Ent} (o s:Int) (w:World) (h:IsRef base w R A cap r) (hl:r.length≤140737488355328) :
  Calls Tryz.prog 54 #[.pointer (some ⟨R,0,none⟩),.int .i64 o,.int .i64 s] w fun e w' =>
   e = .returned (.bool (doneF (entR r (o,s))))∧Below w.heap.size w w':=by
 have F:=find_any o s w h hl
 cases hh:hasK r (o,s) with
 | false =>
  have he:entR r (o,s)=noEnt:=by unfold entR; rw [hh]; rfl
  rw [hh] at F
  rw [he]
  clear hh he
  generalize posK keyE ltP r (o,s)=ps at F
  have HF:=hid F
  clear F
  go_enter Tryz.func54,Tryz.ntmps54
  go_wp2_with fail
  refine HF.out.mono ?_
  rintro e w1 ⟨rfl,hb⟩
  clear h HF
  go_wp2_with fail
  go_ret
  exact ⟨rfl,hb⟩
 | true =>
  obtain ⟨y,hy,hk,he⟩:=hasK_true hh
  rw [hh] at F
  rw [he]
  obtain ⟨g,rfl,hbg,hpr⟩:=h.elem hy
  have hlt:posK keyE ltP r (o,s) < r.length:=(List.getElem?_eq_some_iff.1 hy).1
  clear hh he hk hy
  generalize posK keyE ltP r (o,s)=ps at F hlt hpr
  have HF:=hid F
  clear F
  obtain ⟨yo,ys,yt,yc,yb⟩:=y
  go_enter Tryz.func54,Tryz.ntmps54
  have hcs:(0 < yt∧yc=0)∨(0 < yt∧yc ≠ 0)∨yt≤0:=by omega
  rcases hcs with ⟨h1,h2⟩ | ⟨h1,h2⟩ | h1
  ·subst h2
   have b1:decide (0 < yt)=true:=decide_eq_true h1
   go_wp2_with fail
   refine HF.out.mono ?_
   rintro e w1 ⟨rfl,hb⟩
   have hp1:=hpr.next hb
   have c0:w1.cell? ⟨R,0,none⟩=some (.slice (some ⟨g,0,none⟩) r.length cap):=(h.next hb).blk.cell 0
   have lR:R < w1.heap.size:=(h.next hb).blk.lt
   have lg:g < w1.heap.size:=hp1.1
   have p2:w1.cell? ⟨g,ps * 5 + 2,none⟩=some (.int .i64 yt):=hp1.2 2 _ rfl
   have p3:w1.cell? ⟨g,ps * 5 + 3,none⟩=some (.int .i64 0):=hp1.2 3 _ rfl
   have p4:w1.cell? ⟨g,ps * 5 + 4,none⟩=some (.bool yb):=hp1.2 4 _ rfl
   clear h HF hp1 hpr
   have HV:Hid (doneF ⟨yo,ys,yt,0,yb⟩ = !yb):=hid (by simp [doneF,h1])
   clear h1
   cases yb
   all_goals
    go_wp2_with fail
    go_ret
    exact ⟨by rw [HV.out]; rfl,hb⟩
  ·have b1:decide (0 < yt)=true:=decide_eq_true h1
   have b2:(yc == 0)=false:=by simpa using h2
   have HV:Hid (doneF ⟨yo,ys,yt,yc,yb⟩=false):=hid (by simp [doneF,h2])
   clear h1 h2
   go_wp2_with fail
   refine HF.out.mono ?_
   rintro e w1 ⟨rfl,hb⟩
   have hp1:=hpr.next hb
   have c0:w1.cell? ⟨R,0,none⟩=some (.slice (some ⟨g,0,none⟩) r.length cap):=(h.next hb).blk.cell 0
   have lR:R < w1.heap.size:=(h.next hb).blk.lt
   have lg:g < w1.heap.size:=hp1.1
   have p2:w1.cell? ⟨g,ps * 5 + 2,none⟩=some (.int .i64 yt):=hp1.2 2 _ rfl
   have p3:w1.cell? ⟨g,ps * 5 + 3,none⟩=some (.int .i64 yc):=hp1.2 3 _ rfl
   have p4:w1.cell? ⟨g,ps * 5 + 4,none⟩=some (.bool yb):=hp1.2 4 _ rfl
   clear h HF hp1 hpr
   go_wp2_with fail
   go_ret
   exact ⟨by rw [HV.out]; rfl,hb⟩
  ·have b1:decide (0 < yt)=false:=decide_eq_false (by omega)
   have HV:Hid (doneF ⟨yo,ys,yt,yc,yb⟩=false):=hid (by simp [doneF]; omega)
   clear h1
   go_wp2_with fail
   refine HF.out.mono ?_
   rintro e w1 ⟨rfl,hb⟩
   have hp1:=hpr.next hb
   have c0:w1.cell? ⟨R,0,none⟩=some (.slice (some ⟨g,0,none⟩) r.length cap):=(h.next hb).blk.cell 0
   have lR:R < w1.heap.size:=(h.next hb).blk.lt
   have lg:g < w1.heap.size:=hp1.1
   have p2:w1.cell? ⟨g,ps * 5 + 2,none⟩=some (.int .i64 yt):=hp1.2 2 _ rfl
   have p3:w1.cell? ⟨g,ps * 5 + 3,none⟩=some (.int .i64 yc):=hp1.2 3 _ rfl
   have p4:w1.cell? ⟨g,ps * 5 + 4,none⟩=some (.bool yb):=hp1.2 4 _ rfl
   clear h HF hp1 hpr
   go_wp2_with fail
   go_ret
   exact ⟨by rw [HV.out]; rfl,hb⟩
end Go.Proofs.YtakaalldbnklcaaGreat.In
namespace Go.Proofs.YtakaalldbnklcaaGreat.In
open Go.RowKit Go.WideShapes Go.ChangeShapes Go.ChangeAt Go.Deep
set_option linter.unusedVariables false
theorem shift_set {r:List Ent} {z y:Ent} {k:Nat} (hk:0 < k) (hkl:k≤r.length) (hy:r[k - 1]?=some y):(r.take k++z :: r.drop k).set k y=r.take (k - 1)++y :: r.drop (k - 1):=by
 have hl:(r.take k).length=k:=by simp; omega
 have e1:(r.take k++z :: r.drop k).set k y=r.take k++y :: r.drop k:=by
  rw [List.set_append_right _ _ (by omega),hl,Nat.sub_self,List.set_cons_zero]
 have hk1:k - 1 < r.length:=by omega
 have e2:r.take k=r.take (k - 1)++[y]:=by
  have:=List.take_succ_eq_append_getElem (l:=r) (i:=k - 1) hk1
  rw [show k - 1 + 1=k from by omega,(List.getElem?_eq_some_iff.1 hy).2] at this
  exact this
 have e3:r.drop (k - 1)=y :: r.drop k:=by
  rw [List.drop_eq_getElem_cons hk1,(List.getElem?_eq_some_iff.1 hy).2,show k - 1 + 1=k from by omega]
 rw [e1,e3,e2]
 simp
theorem shift_at {r:List Ent} {z:Ent} {k:Nat} (hk:0 < k) (hkl:k≤r.length):(r.take k++z :: r.drop k)[k - 1]?=r[k - 1]?:=by
 rw [List.getElem?_append_left (by simp; omega),List.getElem?_take_of_lt (by omega)]
theorem shift_here {r:List Ent} {z:Ent} {k:Nat} (hkl:k≤r.length):(r.take k++z :: r.drop k)[k]?=some z:=by
 have hl:(r.take k).length=k:=by simp; omega
 rw [List.getElem?_append_right (by omega),hl,Nat.sub_self]; rfl
theorem shift_len {r:List Ent} {z:Ent} {k:Nat} (hkl:k≤r.length):(r.take k++z :: r.drop k).length=r.length + 1:=by
 simp; omega
theorem shift_put {r:List Ent} {z y:Ent} {k:Nat} (hkl:k≤r.length):(r.take k++z :: r.drop k).set k y=r.take k++y :: r.drop k:=by
 have hl:(r.take k).length=k:=by simp; omega
 rw [List.set_append_right _ _ (by omega),hl,Nat.sub_self,List.set_cons_zero]
structure IsRow (base:Nat) (w0 w:World) (A0:Option Addr) (R g cap:Nat) (r:List Ent):Prop where
 ref:IsRef base w R (some ⟨g,0,none⟩) cap r
 bg:base≤g
 loc:RT w0.heap.size R A0 g
 touch:Touch (RT w0.heap.size R A0) w0 w
theorem IsRow.gR {base R g cap:Nat} {A0:Option Addr} {r:List Ent} {w0 w:World} (h:IsRow base w0 w A0 R g cap r):g ≠ R:=by
 have:=h.ref.lt; have:=h.bg; omega
theorem IsRow.drew {base R g cap:Nat} {A0:Option Addr} {r:List Ent} {w0 w:World} (h:IsRow base w0 w A0 R g cap r):IsRow base w0 w.drew A0 R g cap r :=
 ⟨h.ref.next (below_drewN (Below.refl _ _) 1),h.bg,h.loc,h.touch.drew⟩
theorem IsRow.cell {base R g cap:Nat} {A0:Option Addr} {r:List Ent} {w0 w:World} (h:IsRow base w0 w A0 R g cap r):w.cell? ⟨R,0,none⟩=some (.slice (some ⟨g,0,none⟩) r.length cap):=h.ref.blk.cell 0
theorem IsRow.elem {base R g cap:Nat} {A0:Option Addr} {r:List Ent} {w0 w:World} (h:IsRow base w0 w A0 R g cap r) {k:Nat} {y:Ent} (hk:r[k]?=some y):CellsAt w g (k * 5) (enE5 y):=by
 obtain ⟨g',e,_,h2⟩:=h.ref.elem hk
 injection e with e
 injection e with e
 subst e
 exact h2
theorem IsRow.free {base R g cap:Nat} {A0:Option Addr} {r:List Ent} {w0 w:World} (h:IsRow base w0 w A0 R g cap r) (i:Nat):w.frozen? ⟨g,i,none⟩=false:=own_free h.ref.own i
theorem IsRow.put {base R g cap:Nat} {A0:Option Addr} {r:List Ent} {w0 w:World} (h:IsRow base w0 w A0 R g cap r) {k:Nat} (hk:k < r.length) (x:Ent):IsRow base w0 (storeMany w g (k * 5) (enE5 x)) A0 R g cap (r.set k x):=by
 obtain ⟨h1,h2⟩:=own_set enE5_len h.ref.own hk x
 have ht:Touch (RT w0.heap.size R A0) w (storeMany w g (k * 5) (enE5 x)):=(Touch.of_grown h2).mono (fun k hk=>by subst hk; exact h.loc)
 refine ⟨⟨?_,h1,h.ref.lt⟩,h.bg,h.loc,h.touch.then ht⟩
 rw [List.length_set]
 exact (Touch.of_grown h2).blk h.ref.blk (fun e=>h.gR e.symm)
theorem IsRow.field {base R g cap:Nat} {A0:Option Addr} {r:List Ent} {w0 w:World} (h:IsRow base w0 w A0 R g cap r) {k j:Nat} {x x':Ent} {v:Value} (hk:r[k]?=some x) (hj:j < 5) (hx:enE5 x'=(enE5 x).set j v):IsRow base w0 (w.setCell ⟨g,k * 5 + j,none⟩ v) A0 R g cap (r.set k x'):=by
 obtain ⟨h1,h2⟩:=own_field enE5_len h.ref.own hk hj v x' hx
 have ht:Touch (RT w0.heap.size R A0) w (w.setCell ⟨g,k * 5 + j,none⟩ v):=(Touch.of_grown h2).mono (fun k hk=>by subst hk; exact h.loc)
 refine ⟨⟨?_,h1,h.ref.lt⟩,h.bg,h.loc,h.touch.then ht⟩
 rw [List.length_set]
 exact (Touch.of_grown h2).blk h.ref.blk (fun e=>h.gR e.symm)
theorem own_at {A:Option Addr} {n cap k:Nat} (h:(Value.slice A n cap).ownBlock=some k):A.map (·.block)=some k:=by
 cases A with
 | none=>simp [Value.ownBlock] at h
 | some a=>simpa [Value.ownBlock] using h
theorem row_start {base R n cap:Nat} {A A0:Option Addr} {r:List Ent} {w0 w3:World} {v':Value} (h3:Blk w3 R 97 #[.slice A n cap]) (hO:w3.ownsRow base 171 5 v' (r.length + 1) (r.flatMap enE5++enE5 noEnt)) (hT:Touch (RT w0.heap.size R A0) w0 w3) (hlt:R < base) (hloc:∀ g,v'.ownBlock=some g→RT w0.heap.size R A0 g) :
  ∃ g cap',v' = .slice (some ⟨g,0,none⟩) (r.length + 1) cap'∧IsRow base w0 (w3.setCell ⟨R,0,none⟩ (.slice (some ⟨g,0,none⟩) (r.length + 1) cap')) A0 R g cap' (r.take r.length++noEnt :: r.drop r.length):=by
 have e:r.flatMap enE5++enE5 noEnt=(r++[noEnt]).flatMap enE5:=by simp
 rw [e] at hO
 have hO':w3.ownsRow base 171 5 v' (r++[noEnt]).length ((r++[noEnt]).flatMap enE5):=by simpa using hO
 obtain ⟨g,cap',rfl,hbg,hgl⟩:=own_form hO' (by simp)
 refine ⟨g,cap',by simp, ?_⟩
 have hne:g ≠ R:=by omega
 have hl:r.take r.length++noEnt :: r.drop r.length=r++[noEnt]:=by simp
 rw [hl]
 have hg:w3.grownBy (w3.setCell ⟨R,0,none⟩ (.slice (some ⟨g,0,none⟩) (r.length + 1) cap')) (some R):=⟨rfl,rfl,rfl,by simp,fun k _ hk=>heap_setCell_other w3 ⟨R,0,none⟩ k _ (fun e=>hk (by simp [e]))⟩
 refine ⟨⟨?_,hO'.kept hg (.inr (by simp [Value.ownBlock]; exact hne)),hlt⟩,hbg,hloc g rfl,hT.then ((Touch.setCell w3 R 0 _).mono (fun k hk => .inl hk))⟩
 have:=h3.set_ 0 (.slice (some ⟨g,0,none⟩) (r.length + 1) cap')
 simpa using this
def KeepPost (base R:Nat) (A:Option Addr) (r:List Ent) (o s t:Int) (u:Bool) (c:Int) (w:World) (e:Ending) (w':World):Prop :=
 ∃ A' cap',e = .returned (.int .i64 (keepRr r o s t u))∧IsRef base w' R A' cap' (keepL r o s t u c)∧Touch (RT w.heap.size R A) w w'
set_option maxRecDepth 100000 in
set_option maxHeartbeats 16000000 in
theorem rkeep_any {base R cap:Nat} {A:Option Addr} {r:List Ent} (o s t:Int) (u:Bool) (c:Int) (w:World) (h:IsRef base w R A cap r) (hl:r.length * 40 + 40≤140737488355328) (hbw:base≤w.heap.size) :
  Calls Tryz.prog 56 #[.pointer (some ⟨R,0,none⟩),.int .i64 o,.int .i64 s,.int .i64 t,.bool u,.int .i64 c] w (KeepPost base R A r o s t u c w):=by
 have K:=rask_any o s t u w h (by omega)
 by_cases hv:(askF (entR r (o,s)) t u).1=0
 ·have HR:Hid (keepRr r o s t u=0):=hid (if_pos hv)
  have HL:Hid (keepL r o s t u c=if hasK r (o,s)=true then r.set (posK keyE ltP r (o,s)) (keepE (entR r (o,s)) o s t u c) else r.take (posK keyE ltP r (o,s))++keepE noEnt o s t u c :: r.drop (posK keyE ltP r (o,s))):=hid (if_pos hv)
  have F:=fun w h=>find_any (base:=base) (R:=R) (cap:=cap) (A:=A) (r:=r) o s w h (by omega)
  have hps:posK keyE ltP r (o,s)≤r.length:=posK_le _ _
  rw [hv] at K
  generalize (askF (entR r (o,s)) t u).2=c0 at K
  have HK:=hid K
  clear K hv
  cases hh:hasK r (o,s) with
  | true =>
   obtain ⟨y,hy,hky,hey⟩:=hasK_true hh
   rw [hh] at F
   have HL2:Hid (keepL r o s t u c=r.set (posK keyE ltP r (o,s)) (keepE y o s t u c)):=hid (by rw [HL.out,if_pos hh,hey])
   clear HL hh hey
   have hlt:=(List.getElem?_eq_some_iff.1 hy).1
   have HY:=hid hy
   have HKY:=hid hky
   generalize posK keyE ltP r (o,s)=ps at *
   have HF:=hid F
   clear F hy hky
   go_enter Tryz.func56,Tryz.ntmps56
   go_wp2_with fail
   refine HK.out.mono ?_
   rintro e w1 ⟨rfl,hb1⟩
   have h1:=h.next hb1
   clear HK h
   go_wp2_with fail
   refine (HF.out _ h1).mono ?_
   rintro e w2 ⟨rfl,hb2⟩
   have h2:=h1.next hb2
   have hb:=bthen hb1 hb2
   clear HF h1 hb1 hb2
   obtain ⟨g,rfl,hbg,_⟩:=h2.elem HY.out
   have hI:IsRow base w w2 (some ⟨g,0,none⟩) R g cap r:=⟨h2,hbg,.inr (.inl rfl),Touch.of_below hb⟩
   obtain ⟨yo,ys,yt,yc,yb⟩:=y
   have hyk:yo=o∧ys=s:=by have:=HKY.out; simp only [keyE,Prod.mk.injEq] at this; exact this
   obtain ⟨rfl,rfl⟩:=hyk
   have c0:w2.cell? ⟨R,0,none⟩=some (.slice (some ⟨g,0,none⟩) r.length cap):=hI.cell
   have p2:w2.cell? ⟨g,ps * 5 + 2,none⟩=some (.int .i64 yt):=(hI.elem HY.out).2 2 _ rfl
   have p3:w2.cell? ⟨g,ps * 5 + 3,none⟩=some (.int .i64 yc):=(hI.elem HY.out).2 3 _ rfl
   have p4:w2.cell? ⟨g,ps * 5 + 4,none⟩=some (.bool yb):=(hI.elem HY.out).2 4 _ rfl
   have f2:=hI.free (ps * 5 + 2)
   have f3:=hI.free (ps * 5 + 3)
   have f4:=hI.free (ps * 5 + 4)
   have hgR:g ≠ R:=hI.gR
   cases u with
   | true =>
    have hJ:=hid (hI.field (k:=ps) (j:=4) (x':=⟨yo,ys,yt,yc,true⟩) (v:=.bool true) HY.out (by omega) rfl)
    clear hI h2 hb
    go_wp2_with fail
    go_ret
    exact ⟨_,_,by rw [HR.out]; rfl,by rw [HL2.out]; exact hJ.out.ref,hJ.out.touch⟩
   | false =>
    have hJ1:=hI.field (k:=ps) (j:=2) (x':=⟨yo,ys,t,yc,yb⟩) (v:=.int .i64 t) HY.out (by omega) rfl
    have hJ:=hid (hJ1.field (k:=ps) (j:=3) (x:=⟨yo,ys,t,yc,yb⟩) (x':=⟨yo,ys,t,c,yb⟩) (v:=.int .i64 c) (by rw [List.getElem?_set,if_pos rfl,if_pos hlt]) (by omega) rfl)
    clear hI h2 hb hJ1
    go_wp2_with fail
    go_ret
    exact ⟨_,_,by rw [HR.out]; rfl,by have:=hJ.out.ref; rw [List.set_set] at this; rw [HL2.out]; exact this,hJ.out.touch⟩
  | false =>
   rw [hh] at F
   have HL2:Hid (keepL r o s t u c=r.take (posK keyE ltP r (o,s))++keepE noEnt o s t u c :: r.drop (posK keyE ltP r (o,s))):=hid (by rw [HL.out,hh,if_neg (by decide)])
   clear HL hh
   generalize posK keyE ltP r (o,s)=ps at *
   have HF:=hid F
   clear F
   obtain ⟨i0,hi,hz0,hz1,hz2⟩:=info_parts info_ent2
   go_enter Tryz.func56,Tryz.ntmps56
   go_wp2_with fail
   refine HK.out.mono ?_
   rintro e w1 ⟨rfl,hb1⟩
   have h1:=h.next hb1
   clear HK h
   go_wp2_with fail
   refine (HF.out _ h1).mono ?_
   rintro e w2 ⟨rfl,hb2⟩
   have h2:=h1.next hb2
   have hb:=bthen hb1 hb2
   clear HF h1 hb1 hb2
   have c0:w2.cell? ⟨R,0,none⟩=some (.slice A r.length cap):=h2.blk.cell 0
   have hRl:R < w2.heap.size:=h2.blk.lt
   have hbw2:base≤w2.heap.size:=Nat.le_trans hbw hb.size
   have hww2:w.heap.size≤w2.heap.size:=hb.size
   have HO:=hid h2.own
   have HB:=hid (h2.blk.alloc (.cells #[.int .i64 0,.int .i64 0,.int .i64 0,.int .i64 0,.bool false] 171))
   have HT:=hid ((Touch.of_below (S:=RT w.heap.size R A) hb).alloc (.cells #[.int .i64 0,.int .i64 0,.int .i64 0,.int .i64 0,.bool false] 171))
   have hRb:R < base:=h2.lt
   clear hb h2
   go_wp2_with (first
    | (at_builtin; refine wpList_push_at _ rfl _ _ 95 rfl base 171 i0 _ 5 40 Tryz.underlying95 hi hz0 hz1 hz2 rfl (by decide) _ _ _ (by rfl) HO.out #[.int .i64 0,.int .i64 0,.int .i64 0,.int .i64 0,.bool false] w2.heap.size (by simp) (by rfl) (by rfl) (by rfl) (by unfold maxLen; omega) (by omega) (by omega) ?_; intro v' w3 hO3 hg3 hat3; have hB3:=HB.out.grown hg3 (fun e=>by have:=(HO.out.lt R e.symm).1; omega); obtain ⟨g,cap',rfl,hI0⟩:=row_start hB3 hO3 (HT.out.then (touch_row hg3 (fun k e => .inr (.inl (own_at e))))) hRb (fun g e=>hat3.elim (fun e1 => .inr (.inl (own_at (e1 ▸ e)))) (fun e1 => .inr (.inr (by rw [e1] at e; injection e with e; omega)))); have c3:w3.cell? ⟨R,0,none⟩=some (.slice A r.length cap):=hB3.cell 0; have f3:=hB3.free 0; have HI0:=hid hI0; clear hI0 hO3 hg3 hB3 c0))
   obtain ⟨w4,hw4⟩:∃ w4,w4=w3.setCell ⟨R,0,none⟩ (.slice (some ⟨g,0,none⟩) (r.length + 1) cap'):=⟨_,rfl⟩
   have hI:=HI0.out
   rw [← hw4] at hI ⊢
   clear hw4 HI0 c3 f3 HO HB HT hRl hbw2
   go_loopw [17] (fun i wr=>∃ (k:Nat) (z:Ent),i = .int .i64 k∧ps≤k∧k≤r.length∧IsRow base w wr A R g cap' (r.take k++z :: r.drop k)) (fun i _=>(intOf i).toNat)
   case atStart=>exact ⟨r.length,noEnt,by go_num,hps,Nat.le_refl _,hI⟩
   case round =>
    clear hI
    obtain ⟨k,z,rfl,hk1,hk2,hI⟩:=hrel
    have hln:=shift_len (z:=z) hk2
    obtain ⟨n1,hn1⟩:∃ n1,n1=r.length + 1:=⟨_,rfl⟩
    have c0:wr.cell? ⟨R,0,none⟩=some (.slice (some ⟨g,0,none⟩) n1 cap'):=by have:=hI.cell; rw [hln, ← hn1] at this; exact this
    have hkn:k < n1:=by omega
    have hn2:n1≤140737488355328:=by omega
    have HN:=hid hn1
    have hgR:g ≠ R:=hI.gR
    by_cases hlt:ps < k
    ·have hk0:0 < k:=by omega
     obtain ⟨y,hy⟩:∃ y,r[k - 1]?=some y:=⟨r[k - 1],List.getElem?_eq_getElem (by omega)⟩
     have e1:=hI.elem (k:=k - 1) (y:=y) (by rw [shift_at hk0 hk2]; exact hy)
     have e2:=hI.elem (k:=k) (y:=z) (shift_here hk2)
     have hJ:=hid (hI.put (k:=k) (by rw [hln]; omega) y).drew
     have hS:=hid (shift_set (z:=z) hk0 hk2 hy)
     have hkw:IntKind.i64.wrap ((k:Int) - 1)=((k - 1:Nat):Int):=by rw [IntWalk.i64_in _ ⟨by omega,by omega⟩]; omega
     have hkl:k - 1 < n1:=by omega
     clear hn1
     obtain ⟨yo,ys,yt,yc,yb⟩:=y
     obtain ⟨zo,zs,zt,zc,zb⟩:=z
     have p0:wr.cell? ⟨g,(k - 1) * 5,none⟩=some (.int .i64 yo):=e1.2 0 _ rfl
     have p1:wr.cell? ⟨g,(k - 1) * 5 + 1,none⟩=some (.int .i64 ys):=e1.2 1 _ rfl
     have p2:wr.cell? ⟨g,(k - 1) * 5 + 2,none⟩=some (.int .i64 yt):=e1.2 2 _ rfl
     have p3:wr.cell? ⟨g,(k - 1) * 5 + 3,none⟩=some (.int .i64 yc):=e1.2 3 _ rfl
     have p4:wr.cell? ⟨g,(k - 1) * 5 + 4,none⟩=some (.bool yb):=e1.2 4 _ rfl
     have q0:wr.cell? ⟨g,k * 5,none⟩=some (.int .i64 zo):=e2.2 0 _ rfl
     have q1:wr.cell? ⟨g,k * 5 + 1,none⟩=some (.int .i64 zs):=e2.2 1 _ rfl
     have q2:wr.cell? ⟨g,k * 5 + 2,none⟩=some (.int .i64 zt):=e2.2 2 _ rfl
     have q3:wr.cell? ⟨g,k * 5 + 3,none⟩=some (.int .i64 zc):=e2.2 3 _ rfl
     have q4:wr.cell? ⟨g,k * 5 + 4,none⟩=some (.bool zb):=e2.2 4 _ rfl
     have f0:=hI.free (k * 5)
     have f1:=hI.free (k * 5 + 1)
     have f2:=hI.free (k * 5 + 2)
     have f3:=hI.free (k * 5 + 3)
     have f4:=hI.free (k * 5 + 4)
     clear e1 e2 hI hy hln
     go_wp2_with fail
     refine wp_tail 14 (by kernel_rfl) (by kernel_rfl) ?_
     simp only [List.take_succ_cons,List.take_zero,List.drop_succ_cons,List.drop_zero]
     repeat still_step
     refine wpStill_nil ?_
     clear hkw
     go_wp2_with fail
     go_roundw
     case rel=>exact ⟨k - 1,⟨yo,ys,yt,yc,yb⟩,by congr 1; omega,by omega,by omega,by have:=hJ.out; rw [hS.out] at this; exact this⟩
     case measure=>simp [intOf]; omega
    ·have:k=ps:=by omega
     subst this
     have hkl:k < (r.take k++z :: r.drop k).length:=by rw [hln]; omega
     have e2:=hI.elem (k:=k) (y:=z) (shift_here hk2)
     have J0:=hI.put (k:=k) hkl ⟨o,s,0,0,false⟩
     rw [shift_put hk2] at J0
     obtain ⟨zo,zs,zt,zc,zb⟩:=z
     have q0:wr.cell? ⟨g,k * 5,none⟩=some (.int .i64 zo):=e2.2 0 _ rfl
     have q1:wr.cell? ⟨g,k * 5 + 1,none⟩=some (.int .i64 zs):=e2.2 1 _ rfl
     have q2:wr.cell? ⟨g,k * 5 + 2,none⟩=some (.int .i64 zt):=e2.2 2 _ rfl
     have q3:wr.cell? ⟨g,k * 5 + 3,none⟩=some (.int .i64 zc):=e2.2 3 _ rfl
     have q4:wr.cell? ⟨g,k * 5 + 4,none⟩=some (.bool zb):=e2.2 4 _ rfl
     have f0:=hI.free (k * 5)
     have f1:=hI.free (k * 5 + 1)
     have f2:=hI.free (k * 5 + 2)
     have f3:=hI.free (k * 5 + 3)
     have f4:=hI.free (k * 5 + 4)
     have hat:(r.take k++(⟨o,s,0,0,false⟩:Ent) :: r.drop k)[k]?=some ⟨o,s,0,0,false⟩:=shift_here hk2
     cases u with
     | true =>
      have J1:=J0.field (k:=k) (j:=4) (x':=⟨o,s,0,0,true⟩) (v:=.bool true) hat (by omega) rfl
      rw [shift_put hk2] at J1
      have hJ:=hid J1
      clear J0 J1 hat e2 hI hln hn1
      go_wp2_with fail
      go_ret
      exact ⟨_,_,by rw [HR.out]; rfl,by rw [HL2.out]; exact hJ.out.ref,hJ.out.touch⟩
     | false =>
      have J1:=J0.field (k:=k) (j:=2) (x':=⟨o,s,t,0,false⟩) (v:=.int .i64 t) hat (by omega) rfl
      rw [shift_put hk2] at J1
      have J2:=J1.field (k:=k) (j:=3) (x:=⟨o,s,t,0,false⟩) (x':=⟨o,s,t,c,false⟩) (v:=.int .i64 c) (shift_here hk2) (by omega) rfl
      rw [shift_put hk2] at J2
      have hJ:=hid J2
      clear J0 J1 J2 hat e2 hI hln hn1
      go_wp2_with fail
      go_ret
      exact ⟨_,_,by rw [HR.out]; rfl,by rw [HL2.out]; exact hJ.out.ref,hJ.out.touch⟩
 ·have HR:Hid (keepRr r o s t u=130):=hid (if_neg hv)
  have HL:Hid (keepL r o s t u c=r):=hid (if_neg hv)
  have hv2:((askF (entR r (o,s)) t u).1 != 0)=true:=by simpa using hv
  clear hv
  generalize (askF (entR r (o,s)) t u).1=v0 at *
  generalize (askF (entR r (o,s)) t u).2=c0 at *
  have HK:=hid K
  clear K
  go_enter Tryz.func56,Tryz.ntmps56
  go_wp2_with fail
  refine HK.out.mono ?_
  rintro e w1 ⟨rfl,hb⟩
  replace h:=h.next hb
  clear HK
  go_wp2_with fail
  go_ret
  exact ⟨_,_,by rw [HR.out]; rfl,by rw [HL.out]; exact h,Touch.of_below hb⟩
end Go.Proofs.YtakaalldbnklcaaGreat.In
