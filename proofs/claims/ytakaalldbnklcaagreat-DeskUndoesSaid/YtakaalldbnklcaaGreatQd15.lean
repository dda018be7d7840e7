/-
  Money of orders, told plainly: an account, what is open, what it is in the ledger; books of accounts.
  The book of money: the struct, its ledger, its accounts in blocks of their own; New and the small functions.
  The book of money: apply, Invoice, Receive.
  Money of orders, plain: what the six calls make of an account, its place in the ledger and the turnover.
  The book of money: Invoice and Receive.
-/
import Derived.Test.YtakaalldbnklcaaGreatQd14
import Derived.RegionTactic
import Derived.Deep.RegionHeld3
namespace Go.Proofs.YtakaalldbnklcaaGreat.Mo
open Go.RowKit
set_option linter.unusedVariables false
structure Ca where
 o:Int
 c:Int
 st:Int
 lv:Int
 net:Int
 tax:Int
 ap:Int
 wr:Int
 dep:Int
deriving DecidableEq
instance:Inhabited Ca:=⟨⟨0,0,0,0,0,0,0,0,0⟩⟩
structure CP where
 g:Nat
 a:Ca
def openC (a:Ca):Int:=if a.st=1 then a.net + a.tax - a.ap - a.wr else 0
def paidC (a:Ca):Bool:=decide (a.st=1) && decide (openC a=0)
def con (a:Ca) (k:Int):Int :=
 (if k=0 then a.dep + (if a.st=1 then a.ap else 0) else 0) + (if k=1 then openC a else 0) + (if k=2 then (if a.st=1 then -a.net else 0) else 0) + (if k=3 then (if a.st=1 then -a.tax else 0) else 0) + (if k=4 then -a.dep else 0) + (if k=5 then (if a.st=1 then a.wr else 0) else 0)
def wt (a:Ca):Int:=a.dep + if a.st=1 then a.net + a.tax + a.ap + a.wr else 0
structure FitC (a:Ca):Prop where
 o1:1≤a.o
 c1:1≤a.c
 c2:a.c≤64
 s0:0≤a.st
 s2:a.st≤2
 l0:0≤a.lv
 l3:a.lv≤3
 n0:0≤a.net
 n1:a.net≤281474976710656
 t0:0≤a.tax
 t1:a.tax≤281474976710656
 p0:0≤a.ap
 p1:a.ap≤a.net + a.tax
 w0:0≤a.wr
 w1:a.wr≤a.net + a.tax - a.ap
 d0:0≤a.dep
 d1:a.dep≤576460752303423488
 z:a.st=0→a.net + a.tax=0
 k:a.st=2→a.ap + a.wr=0
 q:a.st=1→a.net + a.tax - a.ap - a.wr=0∨a.dep=0
def sumM (g:Ca→Int) (ac:List (Int × CP)):Int:=(ac.map fun q=>g q.2.a).sum
def cfind (ac:List (Int × CP)) (o:Int):Option Ca:=(mget ac o).map (·.a)
theorem mget_cons {m:List (Int × CP)} {p:Int × CP} {a:Int}:mget (p :: m) a=if p.1=a then some p.2 else mget m a:=by
 unfold mget
 by_cases h:p.1=a
 ·rw [List.find?_cons_of_pos (by simpa using h),if_pos h]; rfl
 ·rw [List.find?_cons_of_neg (by simpa using h),if_neg h]
theorem sumM_same (g:Ca→Int) {ac:List (Int × CP)} {o:Int} {p':CP} (h:o ∉ ac.map (·.1)):sumM g (ac.map fun p=>if p.1=o then (o,p') else p)=sumM g ac:=by
 unfold sumM
 rw [List.map_map]
 congr 1
 refine List.map_congr_left fun p hp => ?_
 have:p.1 ≠ o:=fun e=>h (by rw [← e]; exact List.mem_map_of_mem hp)
 simp [this]
theorem sumM_map (g:Ca→Int) {o:Int} {p':CP}:∀ {ac:List (Int × CP)},(ac.map (·.1)).Nodup→∀ {p:CP},mget ac o=some p→sumM g (ac.map fun q=>if q.1=o then (o,p') else q)=sumM g ac + g p'.a - g p.a
 | [],_,_,h=>by simp [mget] at h
 | q :: ac,hd,p,h=>by
  simp only [List.map_cons,List.nodup_cons] at hd
  rw [mget_cons] at h
  by_cases e:q.1=o
  ·rw [if_pos e] at h
   injection h with h
   subst h
   have h1:=sumM_same g (p':=p') (e ▸ hd.1)
   unfold sumM at h1 ⊢
   simp only [List.map_cons,if_pos e,List.sum_cons]
   omega
  ·rw [if_neg e] at h
   have h1:=sumM_map g (p':=p') hd.2 h
   unfold sumM at h1 ⊢
   simp only [List.map_cons,if_neg e,List.sum_cons]
   omega
def acOf (F:Int→Option Ca) (o c:Int):Ca:=(F o).getD ⟨o,c,0,0,0,0,0,0,0⟩
theorem sumM_mset (g:Ca→Int) {ac:List (Int × CP)} (hd:(ac.map (·.1)).Nodup) (o c:Int) (p':CP) (hg:g ⟨o,c,0,0,0,0,0,0,0⟩=0):sumM g (mset ac o p')=sumM g ac + g p'.a - g (acOf (cfind ac) o c):=by
 unfold acOf cfind
 cases hm:mget ac o with
 | some p =>
  have hk:o ∈ ac.map (·.1):=mget_isSome.1 (by rw [hm]; rfl)
  unfold mset
  rw [if_pos hk,sumM_map g hd hm]
  simp
 | none =>
  rw [mset_new hm]
  unfold sumM
  rw [List.map_append,List.sum_append]
  simp [hg]
theorem cfind_mset {ac:List (Int × CP)} {o:Int} {p':CP} (o':Int):cfind (mset ac o p') o'=if o'=o then some p'.a else cfind ac o':=by
 unfold cfind
 rw [mget_mset]
 split <;> rfl
def ledC (ac:List (Int × CP)):Fn:=fun p=>sumM (fun a=>if a.c=p.1 then con a p.2 else 0) ac
def wts (ac:List (Int × CP)):Int:=sumM wt ac
theorem con_new (o c k:Int):con ⟨o,c,0,0,0,0,0,0,0⟩ k=0:=by simp [con,openC]
theorem wt_new (o c:Int):wt ⟨o,c,0,0,0,0,0,0,0⟩=0:=by simp [wt]
def at_ (es:List En) (k:Int):Int:=(es.map fun x=>if k=x.a then x.n else 0).sum
theorem ledC_post {ac:List (Int × CP)} (hd:(ac.map (·.1)).Nodup) (o c:Int) (p':CP) (es:List En) (hc0:(acOf (cfind ac) o c).c=c) (hc:p'.a.c=c) (hk:∀ k,con p'.a k=con (acOf (cfind ac) o c) k + at_ es k):addF (ledC ac) c es=ledC (mset ac o p'):=by
 funext p
 rw [addF_apply]
 unfold ledC
 rw [sumM_mset _ hd o c p' (by simp [con_new]),hc0,hc]
 by_cases e:c=p.1
 ·subst e
  simp only [↓reduceIte,hk]
  have:(es.map fun x=>if p=(p.1,x.a) then x.n else 0)=es.map fun x=>if p.2=x.a then x.n else 0:=by
   refine List.map_congr_left fun x _ => ?_
   by_cases h:p.2=x.a
   ·rw [if_pos h,if_pos (by rw [← h])]
   ·rw [if_neg h,if_neg (fun e=>h (by rw [e]))]
  rw [this]
  unfold at_
  omega
 ·simp only [if_neg e]
  rw [sum_map_zero]
  ·omega
  ·intro x _
   rw [if_neg (fun e'=>e (by rw [e']))]
theorem wts_mset {ac:List (Int × CP)} (hd:(ac.map (·.1)).Nodup) (o c:Int) (p':CP):wts (mset ac o p')=wts ac + wt p'.a - wt (acOf (cfind ac) o c):=sumM_mset wt hd o c p' (wt_new o c)
theorem sumM_nonneg {g:Ca→Int} {ac:List (Int × CP)} (h:∀ q ∈ ac,0≤g q.2.a):0≤sumM g ac:=sum_nonneg_sub _ _ h
theorem sumM_one {g:Ca→Int} {ac:List (Int × CP)} (h:∀ q ∈ ac,0≤g q.2.a) {q:Int × CP} (hq:q ∈ ac):g q.2.a≤sumM g ac:=by
 induction ac with
 | nil=>cases hq
 | cons x ac ih =>
  unfold sumM at *
  simp only [List.map_cons,List.sum_cons]
  have h0:=h x (by simp)
  have h1:0≤(ac.map fun q=>g q.2.a).sum:=sumM_nonneg (fun q hq=>h q (by simp [hq]))
  cases hq with
  | head=>omega
  | tail _ hq=>have:=ih (fun q hq=>h q (by simp [hq])) hq; omega
theorem FitC.wt0 {a:Ca} (h:FitC a):0≤wt a∧a.dep≤wt a:=by
 unfold wt
 have:=h.n0
 have:=h.t0
 have:=h.p0
 have:=h.w0
 have:=h.d0
 split <;> omega
structure GoodC (ac:List (Int × CP)) (d:Int):Prop where
 fit:∀ q ∈ ac,FitC q.2.a∧q.2.a.o=q.1
 tot:wts ac≤d
 d1:d≤1152921504606846976
theorem GoodC.of (o c:Int) {ac:List (Int × CP)} {d:Int} (h:GoodC ac d) {a:Ca} (ha:cfind ac o=some a):FitC a∧a.o=o∧wt a≤wts ac:=by
 unfold cfind at ha
 cases hm:mget ac o with
 | none=>rw [hm] at ha; cases ha
 | some p =>
  rw [hm] at ha
  injection ha with ha
  subst ha
  have:=h.fit _ (mget_mem hm)
  exact ⟨this.1,this.2,sumM_one (g:=wt) (fun q hq=>(h.fit q hq).1.wt0.1) (mget_mem hm)⟩
theorem GoodC.d0 {ac:List (Int × CP)} {d:Int} (h:GoodC ac d):0≤d:=Int.le_trans (sumM_nonneg (fun q hq=>(h.fit q hq).1.wt0.1)) h.tot
theorem GoodC.put {ac:List (Int × CP)} {d d':Int} (h:GoodC ac d) (hd:(ac.map (·.1)).Nodup) (o c:Int) (p':CP) (hf:FitC p'.a) (ho:p'.a.o=o) (hw:wt p'.a - wt (acOf (cfind ac) o c)≤d' - d) (h1:d'≤1152921504606846976):GoodC (mset ac o p') d':=by
 refine ⟨fun q hq => ?_, ?_,h1⟩
 ·rcases mem_mset hq with rfl | ⟨hq',_⟩
  ·exact ⟨hf,ho⟩
  ·exact h.fit q hq'
 ·rw [wts_mset hd o c]
  have:=h.tot
  omega
theorem acOf_fit {ac:List (Int × CP)} {d:Int} (h:GoodC ac d) {o c:Int} (ho:1≤o) (hc:1≤c∧c≤64):FitC (acOf (cfind ac) o c)∧(acOf (cfind ac) o c).o=o∧wt (acOf (cfind ac) o c)≤wts ac:=by
 unfold acOf
 cases hf:cfind ac o with
 | none =>
  refine ⟨?_,rfl, ?_⟩
  ·constructor <;> simp <;> omega
  ·simp only [Option.getD_none,wt_new]
   exact sumM_nonneg (fun q hq=>(h.fit q hq).1.wt0.1)
 | some a=>exact h.of o c hf
theorem addF_some0 (f:Fn) (c:Int) (es:List En):addF f c (some0 es)=addF f c es:=by
 funext p
 rw [addF_apply,addF_apply]
 congr 1
 unfold some0
 induction es with
 | nil=>rfl
 | cons x es ih =>
  by_cases h:x.n=0
  ·rw [List.filter_cons_of_neg (by simp [h])]
   simp [ih,h]
  ·rw [List.filter_cons_of_pos (by simp [h])]
   simp [ih]
theorem sums_some0 (es:List En):sumE (some0 es)=sumE es∧debs (some0 es)=debs es:=by
 unfold some0 sumE debs
 induction es with
 | nil=>exact ⟨rfl,rfl⟩
 | cons x es ih =>
  by_cases h:x.n=0
  ·rw [List.filter_cons_of_neg (by simp [h])]
   refine ⟨by simp [ih.1,h], ?_⟩
   rw [ih.2]
   simp [h,pos]
  ·rw [List.filter_cons_of_pos (by simp [h])]
   simp [ih.1,ih.2]
structure PostOk (c d:Int) (es:List En):Prop where
 c1:1≤c∧c≤64
 len:es.length≤8
 ok:∀ x ∈ es,0≤x.a∧x.a < 6∧x.n≤1125899906842624 ∧ -1125899906842624≤x.n
 sum:sumE es=0
 room:d + debs es≤1152921504606846976
theorem PostOk.zero {c d:Int} {es:List En} (h:PostOk c d es) (hne:some0 es ≠ []):postC d c (some0 es)=0:=by
 unfold postC
 have hl:(some0 es).length≤es.length:=List.length_filter_le _ _
 have hall:(some0 es).all okE=true:=by
  rw [List.all_eq_true]
  intro x hx
  unfold some0 at hx
  obtain ⟨hx1,hx2⟩:=List.mem_filter.1 hx
  obtain ⟨b1,b2,b3,b4⟩:=h.ok x hx1
  exact (okE_iff x).2 ⟨b1,b2,by simpa using hx2,b3,b4⟩
 have hr:=h.room
 rw [if_pos ⟨h.c1.1,h.c1.2,hne,Nat.le_trans hl h.len,hall⟩,if_neg (by rw [(sums_some0 es).1,h.sum]; simp),if_neg (by rw [(sums_some0 es).2]; omega)]
theorem addF_nothing (f:Fn) (c:Int) {es:List En} (h:some0 es=[]):addF f c es=f∧debs es=0:=by
 rw [← addF_some0,h]
 exact ⟨rfl,by rw [← (sums_some0 es).2,h]; rfl⟩
end Go.Proofs.YtakaalldbnklcaaGreat.Mo
namespace Go.Proofs.YtakaalldbnklcaaGreat.Mo
open Go.RowKit Go.WideShapes Go.ChangeShapes Go.ChangeAt Go.Deep
set_option linter.unusedVariables false
def kC (n:Int):Value:=.int .i64 n
theorem keyC:KeyLaw Tryz.prog 3 kC:=intKey Tryz.underlying3
def vCP (p:CP):Value:=.pointer (some ⟨p.g,0,none⟩)
def celC (a:Ca):Array Value:=#[.int .i64 a.o,.int .i64 a.c,.int .i64 a.st,.int .i64 a.lv,.int .i64 a.net,.int .i64 a.tax,.int .i64 a.ap,.int .i64 a.wr,.int .i64 a.dep]
theorem zeroCP (w:World):(zeroValue 212).run Tryz.prog w = .ok (.pointer none) w:=by kernel_rfl
structure IsCash (n0:Nat) (w:World) (X XL BL BA:Nat) (ac:List (Int × CP)) (f:Fn) (d:Int):Prop where
 blk:Blk w X 195 #[.pointer (some ⟨XL,0,none⟩),.map (some BA)]
 led:IsLed w XL BL f d
 acs:IsMap w BA kC vCP ac
 cells:∀ p ∈ ac,Blk w p.2.g 162 (celC p.2.a)
 apart:(ac.map (·.2.g)).Nodup
 low:n0≤X∧n0≤XL∧n0≤BL∧n0≤BA∧BL ≠ BA
 lows:∀ p ∈ ac,n0≤p.2.g
namespace Ch
def Own (XL BL BA:Nat) (ac:List (Int × CP)) (k:Nat):Prop:=k=XL∨k=BL∨k=BA∨∃ p ∈ ac,p.2.g=k
end Ch
section
variable {n0:Nat} {w w':World} {X XL BL BA:Nat} {ac:List (Int × CP)} {f f':Fn} {d d':Int}
theorem IsCash.own_low (h:IsCash n0 w X XL BL BA ac f d) {k:Nat} (hk:Ch.Own XL BL BA ac k):n0≤k:=by
 obtain ⟨h1,h2,h3,h4,_⟩:=h.low
 rcases hk with rfl | rfl | rfl | ⟨p,hp,rfl⟩
 ·exact h2
 ·exact h3
 ·exact h4
 ·exact h.lows p hp
theorem IsCash.touch {S:Nat→Prop} (h:IsCash n0 w X XL BL BA ac f d) (ht:Touch S w w') (hX:¬ S X) (hS:∀ k,Ch.Own XL BL BA ac k→¬ S k):IsCash n0 w' X XL BL BA ac f d :=
 ⟨ht.blk h.blk hX,h.led.touch ht (hS _ (.inl rfl)) (hS _ (.inr (.inl rfl))),ht.isMap h.acs (hS _ (.inr (.inr (.inl rfl)))),fun p hp=>ht.blk (h.cells p hp) (hS _ (.inr (.inr (.inr ⟨p,hp,rfl⟩)))),h.apart,h.low,h.lows⟩
theorem IsCash.next (h:IsCash n0 w X XL BL BA ac f d) (hb:Below w.heap.size w w'):IsCash n0 w' X XL BL BA ac f d:=h.touch (S:=fun _=>False) (.of_below hb) (fun h=>h) (fun _ _ h=>h)
theorem IsCash.cellL (h:IsCash n0 w X XL BL BA ac f d):w.cell? ⟨X,0,none⟩=some (.pointer (some ⟨XL,0,none⟩)):=h.blk.cell 0
theorem IsCash.cellA (h:IsCash n0 w X XL BL BA ac f d):w.cell? ⟨X,1,none⟩=some (.map (some BA)):=h.blk.cell 1
theorem IsCash.at_ (h:IsCash n0 w X XL BL BA ac f d) {o:Int} {p:CP} (ha:mget ac o=some p):Blk w p.g 162 (celC p.a):=h.cells (o,p) (mget_mem ha)
def ptrC (ac:List (Int × CP)) (o:Int):Option Addr:=(mget ac o).map fun p=>⟨p.g,0,none⟩
theorem IsCash.look (h:IsCash n0 w X XL BL BA ac f d) (o:Int):(Instr.lookup 193 (.map (some BA)) (.int .i64 o) false).run Tryz.prog w = .ok (.pointer (ptrC ac o)) w:=by
 have:=h.acs.look keyC Tryz.underlying193 (zeroCP _) o
 rw [show looked (.pointer none) vCP ac o = .pointer (ptrC ac o) from by unfold looked ptrC; cases mget ac o <;> rfl] at this
 exact this
theorem IsCash.ledger (h:IsCash n0 w X XL BL BA ac f d) (hL:IsLed w' XL BL f' d') (ht:Touch (XB XL BL) w w'):IsCash n0 w' X XL BL BA ac f' d':=by
 have nb:∀ {g:Nat} {t:TypeId} {cs:Array Value},Blk w g t cs→t ≠ 255→¬ XB XL BL g:=fun hb hn hk=>by
  rcases hk with rfl | rfl
  ·exact hb.ne_ h.led.blk hn rfl
  ·obtain ⟨m,h1,_⟩:=h.led.map; exact h1.notBlk hb rfl
 refine ⟨ht.blk h.blk (nb h.blk (by decide)),hL,ht.isMap h.acs (fun hk => ?_),fun p hp=>ht.blk (h.cells p hp) (nb (h.cells p hp) (by decide)),h.apart,h.low,h.lows⟩
 rcases hk with rfl | rfl
 ·exact h.acs.notBlk h.led.blk rfl
 ·exact h.low.2.2.2.2 rfl
theorem gsC_mset {p p':CP} {o:Int} (ha:mget ac o=some p) (hd:(ac.map (·.1)).Nodup) (hg:p'.g=p.g):(mset ac o p').map (·.2.g)=ac.map (·.2.g):=by
 have:=mset_map_same (fun p:CP=>p.g) ha hd hg
 have:=congrArg (List.map Prod.snd) this
 simpa [List.map_map,Function.comp_def] using this
theorem IsCash.put {p:CP} {a':Ca} {o:Int} (h:IsCash n0 w X XL BL BA ac f d) (ha:mget ac o=some p) (hc:Blk w' p.g 162 (celC a')) (ht:Touch (· = p.g) w w'):IsCash n0 w' X XL BL BA (mset ac o ⟨p.g,a'⟩) f d:=by
 have hd:=h.acs.nodup
 have hcell:=h.at_ ha
 refine ⟨ht.blk h.blk (h.blk.ne_ hcell (by decide)),h.led.touch ht (h.led.blk.ne_ hcell (by decide)) (fun e=>by obtain ⟨m,h1,_⟩:=h.led.map; exact h1.notBlk hcell e),ht.isMap (h.acs.same ?_) (fun e=>h.acs.notBlk hcell e), ?_, ?_,h.low, ?_⟩
 ·exact mset_map_same vCP ha hd (by rfl)
 ·intro q hq
  rcases mem_mset hq with rfl | ⟨hq',hne⟩
  ·exact hc
  ·have hgq:q.2.g ≠ p.g:=by
    intro e
    have hm2:=mget_mem ha
    obtain ⟨i1,hi1⟩:=List.mem_iff_getElem?.1 hq'
    obtain ⟨i2,hi2⟩:=List.mem_iff_getElem?.1 hm2
    have e1:(ac.map (·.2.g))[i1]?=some p.g:=by rw [List.getElem?_map,hi1]; simp [e]
    have e2:(ac.map (·.2.g))[i2]?=some p.g:=by rw [List.getElem?_map,hi2]; rfl
    have hl:i1 < (ac.map (·.2.g)).length:=(List.getElem?_eq_some_iff.1 e1).1
    have:=(List.getElem?_inj hl h.apart).1 (e1.trans e2.symm)
    subst this
    rw [hi1] at hi2
    injection hi2 with hi2
    exact hne (by rw [hi2])
   exact ht.blk (h.cells q hq') hgq
 ·rw [gsC_mset (p':=⟨p.g,a'⟩) ha hd rfl]; exact h.apart
 ·intro q hq
  rcases mem_mset hq with rfl | ⟨hq',_⟩
  ·have:=h.lows _ (mget_mem ha)
   exact this
  ·exact h.lows q hq'
theorem IsCash.add {p:CP} {o:Int} (h:IsCash n0 w X XL BL BA ac f d) (hm:mget ac o=none) (hg:Blk w p.g 162 (celC p.a)) (hf:∀ q ∈ ac,q.2.g ≠ p.g) (hn:n0≤p.g)
  (hM:IsMap w' BA kC vCP (mset ac o p)) (hgr:w.grownBy w' (some BA)):IsCash n0 w' X XL BL BA (mset ac o p) f d:=by
 have ht:=Touch.of_grown hgr
 have nB:∀ {g:Nat} {t:TypeId} {cs:Array Value},Blk w g t cs→¬ g=BA:=fun hb e=>h.acs.notBlk hb e.symm
 refine ⟨ht.blk h.blk (nB h.blk),h.led.touch ht (nB h.led.blk) h.low.2.2.2.2,hM, ?_, ?_,h.low, ?_⟩
 ·intro q hq
  rcases mem_mset hq with rfl | ⟨hq',_⟩
  ·exact ht.blk hg (nB hg)
  ·exact ht.blk (h.cells q hq') (nB (h.cells q hq'))
 ·rw [mset_new hm,List.map_append]
  refine List.nodup_append.2 ⟨h.apart,by simp,fun x hx y hy e => ?_⟩
  obtain ⟨q,hq,rfl⟩:=List.mem_map.1 hx
  simp at hy
  exact hf q hq (e.trans hy)
 ·intro q hq
  rcases mem_mset hq with rfl | ⟨hq',_⟩
  ·exact hn
  ·exact h.lows q hq'
theorem IsCash.again {p:CP} {o:Int} (h:IsCash n0 w X XL BL BA ac f d) (hm:mget ac o=some p) (hM:IsMap w' BA kC vCP (mset ac o p)) (hgr:w.grownBy w' (some BA)):IsCash n0 w' X XL BL BA ac f d:=by
 have ht:=Touch.of_grown hgr
 have nB:∀ {g:Nat} {t:TypeId} {cs:Array Value},Blk w g t cs→¬ g=BA:=fun hb e=>h.acs.notBlk hb e.symm
 have hs:mset ac o p=ac:=by
  have:=mset_map_same (fun p:CP=>p) hm h.acs.nodup rfl
  simpa using this
 exact ⟨ht.blk h.blk (nB h.blk),h.led.touch ht (nB h.led.blk) h.low.2.2.2.2,hs ▸ hM,fun q hq=>ht.blk (h.cells q hq) (nB (h.cells q hq)),h.apart,h.low,h.lows⟩
end
theorem cnew_any (w:World):Calls Tryz.prog 22 #[] w fun e w' =>
  ∃ X XL BL BA,e = .returned (.pointer (some ⟨X,0,none⟩))∧IsCash w.heap.size w' X XL BL BA [] f0 0∧Below w.heap.size w w':=by
 have hmm:=@run_makeMap Tryz.prog
 go_enter Tryz.func22,Tryz.ntmps22
 go_wp2_with fail
 refine (lnew_any w).mono ?_
 rintro e w1 ⟨XL,BL,rfl,lB,lX,hL,hb⟩
 have s1:=hb.size
 have hBL:BL < w1.heap.size:=by obtain ⟨m,h1,_⟩:=hL.map; exact h1.lt
 have hbn:=Blk.new (w1.alloc (.map #[] 0)) 195 #[.pointer (some ⟨XL,0,none⟩),.map (some w1.heap.size)]
 have hM:=(IsMap.made w1 kC vCP).alloc (.cells #[.pointer (some ⟨XL,0,none⟩),.map (some w1.heap.size)] 195)
 have hb1:Below w1.heap.size w1 ((w1.alloc (.map #[] 0)).alloc (.cells #[.pointer (some ⟨XL,0,none⟩),.map (some w1.heap.size)] 195)):=((Below.refl _ _).alloc (Nat.le_refl _) _).alloc (by simp) _
 rw [World.size_alloc] at hbn
 have H:=hid (IsCash.mk (n0:=w.heap.size) (ac:=[]) hbn (hL.next hb1) hM (fun p hp=>by cases hp) (by simp) ⟨by omega,lX,lB,by omega,by omega⟩ (fun p hp=>by cases hp))
 have HB:=hid (bthen hb hb1)
 clear hL hb hbn hM hb1
 go_wp2_with fail
 go_ret
 exact ⟨_,XL,BL,_,by simp,H.out,HB.out⟩
theorem between_any (n m:Int) (w:World):Calls Tryz.prog 69 #[.int .i64 n,.int .i64 m] w fun e w'=>e = .returned (.bool (decide (0≤n) && decide (n≤m)))∧w=w':=by
 by_cases h1:0≤n
 ·by_cases h2:n≤m
  ·have t2:decide (n≤m)=true:=decide_eq_true h2
   have t1:decide (0≤n)=true:=decide_eq_true h1
   rw [t1,t2]
   clear h1 h2
   go_enter Tryz.func69,Tryz.ntmps69
   go_wp2_with fail
   go_ret
   exact ⟨rfl,rfl⟩
  ·have t2:decide (n≤m)=false:=decide_eq_false h2
   have t1:decide (0≤n)=true:=decide_eq_true h1
   rw [t1,t2]
   clear h1 h2
   go_enter Tryz.func69,Tryz.ntmps69
   go_wp2_with fail
   go_ret
   exact ⟨rfl,rfl⟩
 ·have t1:decide (0≤n)=false:=decide_eq_false h1
  rw [t1]
  clear h1
  go_enter Tryz.func69,Tryz.ntmps69
  go_wp2_with fail
  go_ret
  exact ⟨rfl,rfl⟩
theorem cfit_yes (o c:Int) (w:World) (h:1≤o∧1≤c∧c≤64):Calls Tryz.prog 68 #[.int .i64 o,.int .i64 c] w fun e w'=>e = .returned (.bool true)∧w=w':=by
 obtain ⟨h1,h2,h3⟩:=h
 go_enter Tryz.func68,Tryz.ntmps68
 go_wp2_with fail
 go_ret
 exact ⟨rfl,rfl⟩
theorem cfit_no (o c:Int) (w:World) (h:¬ (1≤o∧1≤c∧c≤64)):Calls Tryz.prog 68 #[.int .i64 o,.int .i64 c] w fun e w'=>e = .returned (.bool false)∧w=w':=by
 by_cases h1:1≤o
 ·by_cases h2:1≤c
  ·have h4:decide (c≤64)=false:=by simp; omega
   clear h
   go_enter Tryz.func68,Tryz.ntmps68
   go_wp2_with fail
   go_ret
   exact ⟨rfl,rfl⟩
  ·have h4:decide (1≤c)=false:=by simp; omega
   clear h h2
   go_enter Tryz.func68,Tryz.ntmps68
   go_wp2_with fail
   go_ret
   exact ⟨rfl,rfl⟩
 ·have h4:decide (1≤o)=false:=by simp; omega
  clear h h1
  go_enter Tryz.func68,Tryz.ntmps68
  go_wp2_with fail
  go_ret
  exact ⟨rfl,rfl⟩
structure SmallC (a:Ca):Prop where
 n : -1152921504606846976≤a.net∧a.net≤1152921504606846976
 t : -1152921504606846976≤a.tax∧a.tax≤1152921504606846976
 p : -1152921504606846976≤a.ap∧a.ap≤1152921504606846976
 w : -1152921504606846976≤a.wr∧a.wr≤1152921504606846976
theorem FitC.small {a:Ca} (h:FitC a):SmallC a:=by
 have:=h.n0; have:=h.n1; have:=h.t0; have:=h.t1; have:=h.p0; have:=h.p1; have:=h.w0; have:=h.w1
 constructor <;> omega
set_option maxRecDepth 100000 in
theorem open_any (a:Ca) (w:World) (hs:SmallC a):Calls Tryz.prog 105 #[.agg (celC a)] w fun e w'=>e = .returned (.int .i64 (openC a))∧Below w.heap.size w w':=by
 obtain ⟨o,c,st,lv,net,tax,ap,wr,dep⟩:=a
 obtain ⟨⟨a1,a2⟩,⟨b1,b2⟩,⟨c1,c2⟩,⟨d1,d2⟩⟩:=hs
 simp only [celC,openC] at *
 by_cases h:st=1
 ·subst h
  rw [if_pos rfl]
  go_enter Tryz.func105,Tryz.ntmps105
  go_wp2_with fail
  go_ret
  exact ⟨rfl,(Below.refl _ _).alloc (Nat.le_refl _) _⟩
 ·rw [if_neg h]
  have t1:(st != 1)=true:=by simpa using h
  clear h a1 a2 b1 b2 c1 c2 d1 d2
  go_enter Tryz.func105,Tryz.ntmps105
  go_wp2_with fail
  go_ret
  exact ⟨rfl,(Below.refl _ _).alloc (Nat.le_refl _) _⟩
set_option maxRecDepth 100000 in
theorem paid_any (a:Ca) (w:World) (hs:SmallC a):Calls Tryz.prog 107 #[.agg (celC a)] w fun e w'=>e = .returned (.bool (paidC a))∧Below w.heap.size w w':=by
 have K:=hid (fun w=>open_any a w hs)
 by_cases h:a.st=1
 ·have hp:paidC a=(openC a == 0):=by unfold paidC; rw [decide_eq_true h,Bool.true_and]; by_cases e:openC a=0 <;> simp [e]
  rw [hp]
  obtain ⟨z,hz⟩:∃ z,z=openC a:=⟨_,rfl⟩
  rw [← hz] at K ⊢
  clear hz hp hs
  obtain ⟨o,c,st,lv,net,tax,ap,wr,dep⟩:=a
  simp only [celC] at *
  subst h
  go_enter Tryz.func107,Tryz.ntmps107
  go_wp2_with fail
  refine (K.out _).mono ?_
  rintro e w1 ⟨rfl,hb⟩
  go_wp2_with fail
  go_ret
  exact ⟨by simp,((Below.refl _ _).alloc (Nat.le_refl _) _).trans (hb.mono (by simp))⟩
 ·have hp:paidC a=false:=by unfold paidC; rw [decide_eq_false h]; rfl
  rw [hp]
  have t1:(a.st == 1)=false:=by simpa using h
  clear h hp hs K
  obtain ⟨o,c,st,lv,net,tax,ap,wr,dep⟩:=a
  simp only [celC] at *
  go_enter Tryz.func107,Tryz.ntmps107
  go_wp2_with fail
  go_ret
  exact ⟨by simp,(Below.refl _ _).alloc (Nat.le_refl _) _⟩
section
variable {n0:Nat} {w w':World} {X XL BL BA:Nat} {ac:List (Int × CP)} {f f':Fn} {d d':Int}
set_option maxRecDepth 100000 in
theorem cturn_any (h:IsCash n0 w X XL BL BA ac f d):Calls Tryz.prog 50 #[.pointer (some ⟨X,0,none⟩)] w fun e w'=>e = .returned (.int .i64 d)∧Below w.heap.size w w':=by
 have cL:=h.cellL
 have K:=hid (lturn_any w h.led)
 clear h
 go_enter Tryz.func50,Tryz.ntmps50
 go_wp2_with fail
 refine K.out.mono ?_
 rintro e w1 ⟨rfl,hb⟩
 go_wp2_with fail
 go_ret
 exact ⟨rfl,hb⟩
def roomR (d n:Int):Int:=if 576460752303423488 - n < d then 72 else 0
set_option maxRecDepth 100000 in
theorem room_any (h:IsCash n0 w X XL BL BA ac f d) (n:Int) (h0 : -4611686018427387904≤n) (h1:n≤4611686018427387904):Calls Tryz.prog 71 #[.pointer (some ⟨X,0,none⟩),.int .i64 n] w fun e w'=>e = .returned (.int .i64 (roomR d n))∧Below w.heap.size w w':=by
 have K:=hid (cturn_any h)
 clear h
 unfold roomR
 by_cases hr:576460752303423488 - n < d
 ·have t1:decide (576460752303423488 - n < d)=true:=decide_eq_true hr
  rw [if_pos hr]
  clear hr
  go_enter Tryz.func71,Tryz.ntmps71
  go_wp2_with fail
  refine K.out.mono ?_
  rintro e w1 ⟨rfl,hb⟩
  go_wp2_with fail
  go_ret
  exact ⟨rfl,hb⟩
 ·have t1:decide (576460752303423488 - n < d)=false:=decide_eq_false hr
  rw [if_neg hr]
  clear hr
  go_enter Tryz.func71,Tryz.ntmps71
  go_wp2_with fail
  refine K.out.mono ?_
  rintro e w1 ⟨rfl,hb⟩
  go_wp2_with fail
  go_ret
  exact ⟨rfl,hb⟩
theorem find_none (h:IsCash n0 w X XL BL BA ac f d) (o:Int) (hm:mget ac o=none):Calls Tryz.prog 224 #[.pointer (some ⟨X,0,none⟩),.int .i64 o] w fun e w'=>e = .returned (.tuple #[.pointer none,.int .i64 70])∧w=w':=by
 have cA:=h.cellA
 have l1:=h.look o
 rw [show ptrC ac o=none from by unfold ptrC; rw [hm]; rfl] at l1
 clear h hm
 go_enter Tryz.func224,Tryz.ntmps224
 go_wp2_with fail
 go_ret2
 exact ⟨rfl,rfl⟩
theorem find_some (h:IsCash n0 w X XL BL BA ac f d) (o:Int) (p:CP) (hm:mget ac o=some p):Calls Tryz.prog 224 #[.pointer (some ⟨X,0,none⟩),.int .i64 o] w fun e w'=>e = .returned (.tuple #[.pointer (some ⟨p.g,0,none⟩),.int .i64 0])∧w=w':=by
 have cA:=h.cellA
 have l1:=h.look o
 rw [show ptrC ac o=some ⟨p.g,0,none⟩ from by unfold ptrC; rw [hm]; rfl] at l1
 clear h hm
 go_enter Tryz.func224,Tryz.ntmps224
 go_wp2_with fail
 go_ret2
 exact ⟨rfl,rfl⟩
set_option maxRecDepth 100000 in
theorem account_new (h:IsCash n0 w X XL BL BA ac f d) (o c:Int) (hm:mget ac o=none):Calls Tryz.prog 70 #[.pointer (some ⟨X,0,none⟩),.int .i64 o,.int .i64 c] w fun e w'=>e = .returned (.tuple #[.pointer (some ⟨w.heap.size,0,none⟩),.int .i64 0])∧Blk w' w.heap.size 162 (celC ⟨o,c,0,0,0,0,0,0,0⟩)∧Below w.heap.size w w':=by
 have cA:=h.cellA
 have l1:=h.look o
 rw [show ptrC ac o=none from by unfold ptrC; rw [hm]; rfl] at l1
 clear h hm
 go_enter Tryz.func70,Tryz.ntmps70
 go_wp2_with fail
 go_ret2
 exact ⟨rfl,Blk.new _ _ _,(Below.refl _ _).alloc (Nat.le_refl _) _⟩
set_option maxRecDepth 100000 in
theorem account_other (h:IsCash n0 w X XL BL BA ac f d) (o c:Int) (p:CP) (hm:mget ac o=some p) (hc:p.a.c ≠ c):Calls Tryz.prog 70 #[.pointer (some ⟨X,0,none⟩),.int .i64 o,.int .i64 c] w fun e w'=>e = .returned (.tuple #[.pointer none,.int .i64 130])∧w=w':=by
 have cA:=h.cellA
 have l1:=h.look o
 rw [show ptrC ac o=some ⟨p.g,0,none⟩ from by unfold ptrC; rw [hm]; rfl] at l1
 have c1:w.cell? ⟨p.g,1,none⟩=some (.int .i64 p.a.c):=(h.at_ hm).cell 1
 have t1:(p.a.c != c)=true:=by simpa using hc
 clear h hm hc
 go_enter Tryz.func70,Tryz.ntmps70
 go_wp2_with fail
 go_ret2
 exact ⟨rfl,rfl⟩
set_option maxRecDepth 100000 in
theorem account_same (h:IsCash n0 w X XL BL BA ac f d) (o c:Int) (p:CP) (hm:mget ac o=some p) (hc:p.a.c=c):Calls Tryz.prog 70 #[.pointer (some ⟨X,0,none⟩),.int .i64 o,.int .i64 c] w fun e w'=>e = .returned (.tuple #[.pointer (some ⟨p.g,0,none⟩),.int .i64 0])∧w=w':=by
 have cA:=h.cellA
 have l1:=h.look o
 rw [show ptrC ac o=some ⟨p.g,0,none⟩ from by unfold ptrC; rw [hm]; rfl] at l1
 have c1:w.cell? ⟨p.g,1,none⟩=some (.int .i64 p.a.c):=(h.at_ hm).cell 1
 subst hc
 clear h hm
 go_enter Tryz.func70,Tryz.ntmps70
 go_wp2_with fail
 go_ret2
 exact ⟨rfl,rfl⟩
theorem cpost_any (h:IsCash n0 w X XL BL BA ac f d) (g:Nat) (a:Ca) (hg:Blk w g 162 (celC a)) (es:List En) (hp:PostOk a.c d es) (A:Option Addr) (cap:Nat) (hR:Rd w A ((some0 es).flatMap enE)) (hlo:∀ b,A.map (·.block)=some b→¬ XB XL BL b) :
  Calls Tryz.prog 72 #[.pointer (some ⟨X,0,none⟩),.pointer (some ⟨g,0,none⟩),.slice A (some0 es).length cap] w fun e w'=>e = .returned (.tuple #[])∧IsLed w' XL BL (addF f a.c es) (d + debs es)∧Touch (XB XL BL) w w':=by
 by_cases hne:some0 es=[]
 ·obtain ⟨e1,e2⟩:=addF_nothing f a.c hne
  rw [e1,e2,hne]
  have H:=hid h.led
  clear h hg hp hR hlo e1 e2
  simp only [List.length_nil]
  go_enter Tryz.func72,Tryz.ntmps72
  go_wp2_with fail
  go_end0
  exact ⟨rfl,by simpa using H.out,.refl _ _⟩
 ·have hz:=hp.zero hne
  have hl:(some0 es).length≤8:=Nat.le_trans (List.length_filter_le _ _) hp.len
  have hpos:decide ((0:Int) < ((some0 es).length:Int))=true:=decide_eq_true (by have:=List.length_pos_iff.2 hne; omega)
  have hpos2:0 < (some0 es).length:=List.length_pos_iff.2 hne
  have hbd:Below w.heap.size w w.drew:=below_drewN (Below.refl _ _) 1
  have hd:=h.next hbd
  have K:=lpost_any (d:=d) a.c (some0 es) A cap w.drew hd.led (hR.below hbd) (by omega) (fun _ b hb=>hlo b hb)
  unfold PostL nextF nextD at K
  rw [if_pos hz,if_pos hz,hz,addF_some0,(sums_some0 es).2] at K
  replace K:=hid K
  obtain ⟨N,hN⟩:∃ N,N=(some0 es).length:=⟨_,rfl⟩
  rw [← hN] at K hpos hl hpos2 ⊢
  have c0:w.drew.cell? ⟨X,0,none⟩=some (.pointer (some ⟨XL,0,none⟩)):=hd.blk.cell 0
  have c1:w.drew.cell? ⟨g,1,none⟩=some (.int .i64 a.c):=(hg.next hbd).cell 1
  obtain ⟨C,hCd⟩:∃ C:World→Prop,∀ w',C w' ↔ w'=w.drew:=⟨_,fun _=>Iff.rfl⟩
  have hC:C w.drew:=(hCd _).2 rfl
  have q0:∀ p:In C,p.w.cell? ⟨X,0,none⟩=some (.pointer (some ⟨XL,0,none⟩)):=fun p=>by rw [(hCd _).1 p.h]; exact c0
  have q1:∀ p:In C,p.w.cell? ⟨g,1,none⟩=some (.int .i64 a.c):=fun p=>by rw [(hCd _).1 p.h]; exact c1
  have HCd:=hid hCd
  have HB:=hid (Touch.of_below (S:=XB XL BL) hbd)
  generalize a.c=c at *
  clear h hg hp hR hlo hz hN hne hd hbd c0 c1 hCd
  go_enter Tryz.func72,Tryz.ntmps72
  go_wp2_with fail
  refine wp_region_in_tail C 9 (by kernel_rfl) (by kernel_rfl) hC ?_
  intro hne
  clear hC
  refine wpIn_quiet ?_
  simp only [List.take_succ_cons,List.take_zero,List.drop_succ_cons,List.drop_zero]
  repeat (first | go_big_quiet_step (fail) | quiet_step (fail))
  refine wpQuiet_nil ?_
  intro wp hwp
  obtain rfl:=(HCd.out _).1 hwp
  clear q0 q1 hne hwp HCd
  go_wp2_with fail
  refine K.out.mono ?_
  rintro e w5 ⟨rfl,hL,hT⟩
  have HF:=hid (And.intro hL (HB.out.then hT))
  clear K hL hT
  go_wp2_with fail
  go_end0
  exact ⟨rfl,HF.out.1,HF.out.2⟩
end
end Go.Proofs.YtakaalldbnklcaaGreat.Mo
namespace Go.Proofs.YtakaalldbnklcaaGreat.Mo
open Go.RowKit Go.WideShapes Go.ChangeShapes Go.ChangeAt Go.Deep
set_option linter.unusedVariables false
theorem wr64 {n:Int} (h : -9223372036854775808≤n∧n≤9223372036854775807):wrap64 n=n:=by unfold wrap64; omega
def moveE (ta fr n:Int):List En:=[⟨ta,n⟩,⟨fr, -n⟩]
def invE (n t:Int):List En:=[⟨1,n + t⟩,⟨2, -n⟩,⟨3, -t⟩]
def memE (n t a r:Int):List En:=[⟨2,n⟩,⟨3,t⟩,⟨1,a + r - n - t⟩,⟨4, -a⟩,⟨5, -r⟩]
theorem moveL_eq {ta fr n:Int} (h:0≤n∧n≤1152921504606846976):moveL ta fr n=moveE ta fr n:=by unfold moveL moveE; rw [wr64 ⟨by omega,by omega⟩]
theorem invoiceL_eq {n t:Int} (h:0≤n∧n≤1152921504606846976) (h2:0≤t∧t≤1152921504606846976):invoiceL n t=invE n t:=by unfold invoiceL invE; rw [wr64 (n:=n + t) ⟨by omega,by omega⟩,wr64 (n := -n) ⟨by omega,by omega⟩,wr64 (n := -t) ⟨by omega,by omega⟩]
theorem memoL_eq {n t a r:Int} (h:0≤n∧n≤1152921504606846976) (h2:0≤t∧t≤1152921504606846976) (h3:0≤a∧a≤1152921504606846976) (h4:0≤r∧r≤1152921504606846976):memoL n t a r=memE n t a r:=by
 unfold memoL memE
 rw [wr64 (n:=a + r) ⟨by omega,by omega⟩,wr64 (n:=a + r - n) ⟨by omega,by omega⟩,wr64 (n:=a + r - n - t) ⟨by omega,by omega⟩,wr64 (n := -a) ⟨by omega,by omega⟩,wr64 (n := -r) ⟨by omega,by omega⟩]
theorem moveE_debs {ta fr n:Int} (h:0≤n):debs (moveE ta fr n)=n:=by simp [moveE,debs,pos]; split <;> split <;> omega
theorem invE_debs {n t:Int} (h:0≤n) (h2:0≤t):debs (invE n t)=n + t:=by simp [invE,debs,pos]; split <;> split <;> split <;> omega
theorem memE_debs {n t a r:Int} (h:0≤n) (h2:0≤t) (h3:0≤a) (h4:0≤r) (h5:a + r≤n + t):debs (memE n t a r)=n + t:=by
 simp [memE,debs,pos]
 split <;> split <;> split <;> split <;> split <;> omega
theorem moveE_ok {c d ta fr n:Int} (hc:1≤c∧c≤64) (h:0≤n∧n≤1125899906842624) (ht:0≤ta∧ta < 6) (hf:0≤fr∧fr < 6) (hd:d + n≤1152921504606846976):PostOk c d (moveE ta fr n) :=
 ⟨hc,by simp [moveE],fun x hx=>by simp [moveE] at hx; rcases hx with rfl | rfl <;> simp <;> omega,by simp [moveE,sumE]; omega,by rw [moveE_debs h.1]; exact hd⟩
theorem invE_ok {c d n t:Int} (hc:1≤c∧c≤64) (h:0≤n∧n≤281474976710656) (h2:0≤t∧t≤281474976710656) (hd:d + (n + t)≤1152921504606846976):PostOk c d (invE n t) :=
 ⟨hc,by simp [invE],fun x hx=>by simp [invE] at hx; rcases hx with rfl | rfl | rfl <;> simp <;> omega,by simp [invE,sumE]; omega,by rw [invE_debs h.1 h2.1]; exact hd⟩
theorem memE_ok {c d n t a r:Int} (hc:1≤c∧c≤64) (h:0≤n∧n≤281474976710656) (h2:0≤t∧t≤281474976710656) (h3:0≤a) (h4:0≤r) (h5:a + r≤n + t) (hd:d + (n + t)≤1152921504606846976):PostOk c d (memE n t a r) :=
 ⟨hc,by simp [memE],fun x hx=>by simp [memE] at hx; rcases hx with rfl | rfl | rfl | rfl | rfl <;> simp <;> omega,by simp [memE,sumE]; omega,by rw [memE_debs h.1 h2.1 h3 h4 h5]; exact hd⟩
def appN (a:Ca):Int:=min a.dep (openC a)
def appA (a:Ca):Ca:={ a with dep:=a.dep - appN a,ap:=a.ap + appN a }
section
variable {n0:Nat} {w w':World} {X XL BL BA:Nat} {ac:List (Int × CP)} {f f':Fn} {d d':Int}
theorem IsCash.not_xb (h:IsCash n0 w X XL BL BA ac f d) {b:Nat} (hb:w.heap.size≤b):¬ XB XL BL b:=by
 have h1:=h.led.blk.lt
 have h2:BL < w.heap.size:=by obtain ⟨m,h2,_⟩:=h.led.map; exact h2.lt
 rintro (rfl | rfl) <;> omega
theorem _root_.Go.Proofs.YtakaalldbnklcaaGreat.Ch.xb_own {k:Nat} (h:XB XL BL k):Ch.Own XL BL BA ac k:=by
 rcases h with e | e
 ·exact .inl e
 ·exact .inr (.inl e)
set_option maxRecDepth 100000 in
set_option maxHeartbeats 8000000 in
theorem capply_any (h:IsCash n0 w X XL BL BA ac f d) (o:Int) (p:CP) (hp:mget ac o=some p) (hc:1≤p.a.c∧p.a.c≤64) (hs:SmallC p.a) (hs2:SmallC (appA p.a)) (hdep:0≤p.a.dep∧p.a.dep≤1152921504606846976) (hop:0≤openC p.a∧openC p.a≤1125899906842624) (hd:d + appN p.a≤1152921504606846976) :
  Calls Tryz.prog 74 #[.pointer (some ⟨X,0,none⟩),.pointer (some ⟨p.g,0,none⟩)] w fun e w'=>e = .returned (.bool (paidC (appA p.a)))∧IsCash n0 w' X XL BL BA (mset ac o ⟨p.g,appA p.a⟩) (addF f p.a.c (moveE 4 1 (appN p.a))) (d + appN p.a)∧Touch (Ch.Own XL BL BA ac) w w':=by
 have hg:=h.at_ hp
 obtain ⟨C,hCd⟩:∃ C:World→Prop,∀ w',C w' ↔ Below w.heap.size w w':=⟨_,fun _=>Iff.rfl⟩
 have hC:C w.drew:=(hCd _).2 ((Below.refl _ _).drew)
 have K:∀ q:In C,Calls Tryz.prog 105 #[.agg (celC p.a)] q.w fun e w'=>e = .returned (.int .i64 (openC p.a))∧C w':=fun q=>(open_any p.a q.w hs).mono fun e w' ⟨h1,h2⟩=>⟨h1,(hCd _).2 (bthen ((hCd _).1 q.h) h2)⟩
 have c0:∀ q:In C,q.w.cell? ⟨p.g,0,none⟩=some (.int .i64 p.a.o):=fun q=>(hg.next ((hCd _).1 q.h)).cell 0
 have c1:∀ q:In C,q.w.cell? ⟨p.g,1,none⟩=some (.int .i64 p.a.c):=fun q=>(hg.next ((hCd _).1 q.h)).cell 1
 have c2:∀ q:In C,q.w.cell? ⟨p.g,2,none⟩=some (.int .i64 p.a.st):=fun q=>(hg.next ((hCd _).1 q.h)).cell 2
 have c3:∀ q:In C,q.w.cell? ⟨p.g,3,none⟩=some (.int .i64 p.a.lv):=fun q=>(hg.next ((hCd _).1 q.h)).cell 3
 have c4:∀ q:In C,q.w.cell? ⟨p.g,4,none⟩=some (.int .i64 p.a.net):=fun q=>(hg.next ((hCd _).1 q.h)).cell 4
 have c5:∀ q:In C,q.w.cell? ⟨p.g,5,none⟩=some (.int .i64 p.a.tax):=fun q=>(hg.next ((hCd _).1 q.h)).cell 5
 have c6:∀ q:In C,q.w.cell? ⟨p.g,6,none⟩=some (.int .i64 p.a.ap):=fun q=>(hg.next ((hCd _).1 q.h)).cell 6
 have c7:∀ q:In C,q.w.cell? ⟨p.g,7,none⟩=some (.int .i64 p.a.wr):=fun q=>(hg.next ((hCd _).1 q.h)).cell 7
 have c8:∀ q:In C,q.w.cell? ⟨p.g,8,none⟩=some (.int .i64 p.a.dep):=fun q=>(hg.next ((hCd _).1 q.h)).cell 8
 have hn1:0≤appN p.a∧appN p.a≤1125899906842624∧appN p.a≤p.a.dep:=by unfold appN; omega
 have hmin:appN p.a=if openC p.a < p.a.dep then openC p.a else p.a.dep:=by unfold appN; split <;> omega
 have HN:=hid hn1
 have HM:=hid hmin
 have HCd:=hid hCd
 have H:=hid h
 have HS:=hid (And.intro hs2 (And.intro hdep (And.intro hop (And.intro hd (And.intro hc hs)))))
 clear h hCd hg hn1 hmin hs2 hdep hop hd hc hs
 go_enter Tryz.func74,Tryz.ntmps74
 go_wp2_with fail
 refine wp_region_in C (by kernel_rfl) (by kernel_rfl) hC ?_
 intro hne
 clear hC
 simp only [celC] at K
 repeat (first | go_big_quiet_step (fail) | quiet_step (exact Calls.in_of (K _)))
 refine wpQuiet_nil ?_
 intro w1 hw1
 first
  | rw [← HM.out]
  | rw [show min p.a.dep (openC p.a)=appN p.a from by rw [HM.out]; split <;> omega]
 have hb1:=(HCd.out _).1 hw1
 have h1:=H.out.next hb1
 have hg:=h1.at_ hp
 have lg:=hg.lt
 have e8:w1.cell? ⟨p.g,8,none⟩=some (.int .i64 p.a.dep):=hg.cell 8
 have e6:w1.cell? ⟨p.g,6,none⟩=some (.int .i64 p.a.ap):=hg.cell 6
 have f8:=hg.free 8
 have f6:=hg.free 6
 have hB2:Blk ((w1.setCell ⟨p.g,8,none⟩ (.int .i64 (p.a.dep - appN p.a))).setCell ⟨p.g,6,none⟩ (.int .i64 (p.a.ap + appN p.a))) p.g 162 (celC (appA p.a)):=(hg.set_ 8 (.int .i64 (p.a.dep - appN p.a))).set_ 6 (.int .i64 (p.a.ap + appN p.a))
 have hT2:=(Touch.setCell w1 p.g 8 (.int .i64 (p.a.dep - appN p.a))).then (Touch.setCell _ p.g 6 (.int .i64 (p.a.ap + appN p.a)))
 have h3:=h1.put (a':=appA p.a) hp hB2 hT2
 have hgg:Ch.Own XL BL BA ac p.g:=.inr (.inr (.inr ⟨_,mget_mem hp,rfl⟩))
 have HT:=hid ((Touch.of_below (S:=Ch.Own XL BL BA ac) hb1).then (hT2.mono (fun k hk=>by rw [hk]; exact hgg)))
 have H3:=hid (And.intro h3 hB2)
 obtain ⟨n,hn⟩:∃ n,n=appN p.a:=⟨_,rfl⟩
 have wd:IntKind.i64.wrap (p.a.dep - n)=p.a.dep - n:=IntWalk.i64_in _ ⟨by have:=HN.out; omega,by have:=HN.out; have:=HS.out.2.1; omega⟩
 have wa:IntKind.i64.wrap (p.a.ap + n)=p.a.ap + n:=IntWalk.i64_in _ ⟨by have:=HN.out; have:=HS.out.2.2.2.2.2.p; omega,by have:=HN.out; have:=HS.out.2.2.2.2.2.p; omega⟩
 rw [← hn] at H3 HT
 rw [← hn]
 have HNN:=hid hn
 have HP:=hid hp
 clear K c0 c1 c2 c3 c4 c5 c6 c7 c8 hne hw1 HCd HM hb1 h1 hg hB2 hT2 h3 hgg hn hp
 go_wp2_with fail
 clear wd wa e8 e6 f8 f6 lg
 generalize (w1.setCell ⟨p.g,8,none⟩ (.int .i64 (p.a.dep - n))).setCell ⟨p.g,6,none⟩ (.int .i64 (p.a.ap + n))=w3 at H3 HT ⊢
 refine (apply_any n w3).mono ?_
 rintro e w4 ⟨A,cap,rfl,hR,hlo,hb4⟩
 have hnb:=HN.out
 rw [← HNN.out] at hnb
 rw [moveL_eq ⟨hnb.1,by omega⟩] at hR ⊢
 have h4:=H3.out.1.next hb4
 have hdn:=HS.out.2.2.2.1
 rw [← HNN.out] at hdn
 have K:=hid (cpost_any h4 p.g (appA p.a) (H3.out.2.next hb4) (moveE 4 1 n) (moveE_ok HS.out.2.2.2.2.1 ⟨hnb.1,hnb.2.1⟩ (by omega) (by omega) hdn) A cap hR (fun b hb=>H3.out.1.not_xb (hlo b hb)))
 rw [moveE_debs hnb.1] at K
 have H4:=hid h4
 have HT4:=hid (HT.out.then (.of_below hb4))
 clear hR hlo hb4 hnb h4 hdn H3 HT
 go_wp2_with fail
 refine K.out.mono ?_
 rintro e w5 ⟨rfl,hL,hT5⟩
 have h5:=H4.out.ledger hL hT5
 have hg5:=h5.at_ (o:=o) (p:=⟨p.g,appA p.a⟩) (by rw [mget_mset,if_pos rfl])
 simp only at hg5
 have HF:=hid (And.intro h5 (HT4.out.then (hT5.mono (fun k hk=>Ch.xb_own hk))))
 obtain ⟨b,hb⟩:∃ b,b=appA p.a:=⟨_,rfl⟩
 have hbs:=HS.out.1
 rw [← hb] at hg5 hbs
 have HFB:=hid hb
 have KP:=hid (paid_any b w5 hbs)
 simp only [celC] at KP
 have e0:w5.cell? ⟨p.g,0,none⟩=some (.int .i64 b.o):=hg5.cell 0
 have e1:w5.cell? ⟨p.g,1,none⟩=some (.int .i64 b.c):=hg5.cell 1
 have e2:w5.cell? ⟨p.g,2,none⟩=some (.int .i64 b.st):=hg5.cell 2
 have e3:w5.cell? ⟨p.g,3,none⟩=some (.int .i64 b.lv):=hg5.cell 3
 have e4:w5.cell? ⟨p.g,4,none⟩=some (.int .i64 b.net):=hg5.cell 4
 have e5:w5.cell? ⟨p.g,5,none⟩=some (.int .i64 b.tax):=hg5.cell 5
 have e6:w5.cell? ⟨p.g,6,none⟩=some (.int .i64 b.ap):=hg5.cell 6
 have e7:w5.cell? ⟨p.g,7,none⟩=some (.int .i64 b.wr):=hg5.cell 7
 have e8:w5.cell? ⟨p.g,8,none⟩=some (.int .i64 b.dep):=hg5.cell 8
 clear K H4 HT4 hL hT5 h5 hg5 hb hbs HS HN H
 go_wp2_with fail
 refine KP.out.mono ?_
 rintro e w6 ⟨rfl,hb6⟩
 have HZ:=hid (And.intro (HF.out.1.next hb6) (HF.out.2.then (.of_below hb6)))
 clear KP HF hb6 e0 e1 e2 e3 e4 e5 e6 e7 e8
 go_wp2_with fail
 go_ret
 rw [HFB.out,HNN.out] at *
 exact ⟨rfl,HZ.out.1,HZ.out.2⟩
end
end Go.Proofs.YtakaalldbnklcaaGreat.Mo
namespace Go.Proofs.YtakaalldbnklcaaGreat.Mo
open Go.RowKit
set_option linter.unusedVariables false
theorem addF_app (f:Fn) (c:Int) (es es':List En):addF (addF f c es) c es'=addF f c (es++es'):=by unfold addF; rw [List.foldl_append]
theorem at_app (es es':List En) (k:Int):at_ (es++es') k=at_ es k + at_ es' k:=by unfold at_; rw [List.map_append,List.sum_append]
theorem at_move (ta fr n k:Int):at_ (moveE ta fr n) k=(if k=ta then n else 0) + (if k=fr then -n else 0):=by simp [at_,moveE]
theorem at_inv (n t k:Int):at_ (invE n t) k=(if k=1 then n + t else 0) + ((if k=2 then -n else 0) + (if k=3 then -t else 0)):=by simp [at_,invE]
theorem at_mem (n t a r k:Int):at_ (memE n t a r) k=(if k=2 then n else 0) + ((if k=3 then t else 0) + ((if k=1 then a + r - n - t else 0) + ((if k=4 then -a else 0) + (if k=5 then -r else 0)))):=by simp [at_,memE]
def updC (F:Int→Option Ca) (o:Int) (x:Option Ca):Int→Option Ca:=match x with | none=>F | some a=>fun o'=>if o'=o then some a else F o'
structure ResC where
 paid:Bool
 code:Int
 acc:Option Ca
 d:Int
def noC (e d:Int):ResC:=⟨false,e,none,d⟩
def invB (a:Ca) (net tax:Int):Ca:={ a with st:=1,net:=net,tax:=tax }
def rcvB (a:Ca) (n:Int):Ca:={ a with dep:=a.dep + n }
def okInv (o c net tax:Int):Prop:=(1≤o∧1≤c∧c≤64)∧(0≤net∧net≤281474976710656)∧(0≤tax∧tax≤281474976710656)
instance (o c net tax:Int):Decidable (okInv o c net tax):=by unfold okInv; infer_instance
def invR (F:Int→Option Ca) (d o c net tax:Int):ResC :=
 if okInv o c net tax then
  if (acOf F o c).c ≠ c then noC 130 d else if (acOf F o c).st ≠ 0 then noC 71 d else if 576460752303423488 - (net + tax) < d then noC 72 d
  else ⟨paidC (appA (invB (acOf F o c) net tax)),0,some (appA (invB (acOf F o c) net tax)),d + (net + tax) + appN (invB (acOf F o c) net tax)⟩
 else noC 2 d
def okRcv (o c n:Int):Prop:=(1≤o∧1≤c∧c≤64)∧(1≤n∧n≤281474976710656)
instance (o c n:Int):Decidable (okRcv o c n):=by unfold okRcv; infer_instance
def rcvR (F:Int→Option Ca) (d o c n:Int):ResC :=
 if okRcv o c n then
  if (acOf F o c).c ≠ c then noC 130 d else if 576460752303423488 - n < d then noC 72 d
  else ⟨paidC (appA (rcvB (acOf F o c) n)),0,some (appA (rcvB (acOf F o c) n)),d + n + appN (rcvB (acOf F o c) n)⟩
 else noC 2 d
def wofB (a:Ca):Ca:={ a with wr:=a.wr + openC a }
def memB (a:Ca):Ca:={ a with dep:=a.dep + a.ap,st:=2,ap:=0,wr:=0 }
def memR (F:Int→Option Ca) (d o:Int):ResC :=
 match F o with
 | none=>noC 70 d
 | some a=>if a.st ≠ 1 then noC 130 d else if 576460752303423488 - (a.net + a.tax) < d then noC 72 d else ⟨false,0,some (memB a),d + (a.net + a.tax)⟩
def refB (a:Ca):Ca:={ a with dep:=0 }
def refR (F:Int→Option Ca) (d o:Int):Int × ResC :=
 match F o with
 | none=>(0,noC 70 d)
 | some a=>if 576460752303423488 - a.dep < d then (0,noC 72 d) else (a.dep,⟨false,0,some (refB a),d + a.dep⟩)
structure NextC (a b:Ca) (c d d':Int) (es:List En):Prop where
 fit:FitC b
 o:b.o=a.o
 c:b.c=a.c
 wt:wt b - wt a≤d' - d
 con:∀ k,con b k=con a k + at_ es k
theorem FitC.zero {a:Ca} (h:FitC a) (hs:a.st=0):a.ap=0∧a.wr=0∧a.net=0∧a.tax=0:=by
 have:=h.z hs; have:=h.p0; have:=h.p1; have:=h.w0; have:=h.w1; have:=h.n0; have:=h.t0
 omega
theorem FitC.open0 {a:Ca} (h:FitC a):0≤openC a∧openC a≤562949953421312:=by
 have:=h.p0; have:=h.p1; have:=h.w0; have:=h.w1; have:=h.n0; have:=h.t0; have:=h.n1; have:=h.t1
 unfold openC
 split <;> omega
theorem app_next {a:Ca} {c d:Int} (ho:1≤a.o) (hc:1≤a.c∧a.c≤64) (hs:0≤a.st∧a.st≤2) (hl:0≤a.lv∧a.lv≤3) (hn:0≤a.net∧a.net≤281474976710656) (ht:0≤a.tax∧a.tax≤281474976710656) (hp:0≤a.ap∧a.ap≤a.net + a.tax) (hw:0≤a.wr∧a.wr≤a.net + a.tax - a.ap) (hd:0≤a.dep∧a.dep≤576460752303423488)
  (hz:a.st=0→a.net + a.tax=0) (hk:a.st=2→a.ap + a.wr=0):NextC a (appA a) c d (d + appN a) (moveE 4 1 (appN a))∧(0≤appN a∧appN a≤562949953421312):=by
 obtain ⟨o,c',st,lv,net,tax,ap,wr,dep⟩:=a
 simp only at *
 by_cases h1:st=1
 ·subst h1
  have e:openC ⟨o,c',1,lv,net,tax,ap,wr,dep⟩=net + tax - ap - wr:=by simp [openC]
  have hN:appN ⟨o,c',1,lv,net,tax,ap,wr,dep⟩=min dep (net + tax - ap - wr):=by unfold appN; rw [e]
  unfold appA
  rw [hN]
  obtain ⟨n,hn'⟩:∃ n,n=min dep (net + tax - ap - wr):=⟨_,rfl⟩
  rw [← hn']
  refine ⟨⟨by constructor <;> simp <;> omega,rfl,rfl, ?_,fun k => ?_⟩,by omega,by omega⟩
  ·simp [wt]; omega
  ·rw [at_move]
   simp only [con,openC]
   simp only [↓reduceIte]
   split <;> split <;> split <;> split <;> split <;> split <;> omega
 ·have e:openC ⟨o,c',st,lv,net,tax,ap,wr,dep⟩=0:=by simp [openC,h1]
  have hN:appN ⟨o,c',st,lv,net,tax,ap,wr,dep⟩=0:=by unfold appN; rw [e]; simp only; omega
  unfold appA
  rw [hN]
  refine ⟨⟨by constructor <;> simp <;> omega,rfl,rfl, ?_,fun k => ?_⟩,by omega,by omega⟩
  ·simp [wt]
  ·rw [at_move]
   simp only [con,openC]
   simp [h1]
structure StepC (a b:Ca) (d d':Int) (es:List En):Prop where
 o:b.o=a.o
 c:b.c=a.c
 wt:wt b - wt a≤d' - d
 con:∀ k,con b k=con a k + at_ es k
theorem StepC.then {a b b':Ca} {c d d' d'':Int} {es es':List En} (h:StepC a b d d' es) (h2:NextC b b' c d' d'' es'):NextC a b' c d d'' (es++es') :=
 ⟨h2.fit,h2.o.trans h.o,h2.c.trans h.c,by have:=h.wt; have:=h2.wt; omega,fun k=>by rw [h2.con,h.con,at_app]; omega⟩
theorem inv_next {a:Ca} {c d net tax:Int} (h:FitC a) (hs:a.st=0) (hn:0≤net∧net≤281474976710656) (ht:0≤tax∧tax≤281474976710656) :
  StepC a (invB a net tax) d (d + (net + tax)) (invE net tax)∧NextC a (appA (invB a net tax)) c d (d + (net + tax) + appN (invB a net tax)) (invE net tax++moveE 4 1 (appN (invB a net tax)))∧(0≤appN (invB a net tax)∧appN (invB a net tax)≤562949953421312):=by
 obtain ⟨z1,z2,z3,z4⟩:=h.zero hs
 have hS:StepC a (invB a net tax) d (d + (net + tax)) (invE net tax):=by
  refine ⟨rfl,rfl, ?_,fun k => ?_⟩
  ·simp [wt,invB,hs,z1,z2]; omega
  ·rw [at_inv]
   simp only [con,openC,invB,hs,z1,z2, ↓reduceIte]
   split <;> split <;> split <;> split <;> split <;> split <;> simp_all
 have hA:=app_next (a:=invB a net tax) (c:=c) (d:=d + (net + tax)) h.o1 ⟨h.c1,h.c2⟩ ⟨by simp [invB],by simp [invB]⟩ ⟨h.l0,h.l3⟩ hn ht ⟨by simp [invB,z1],by simp [invB,z1]; omega⟩ ⟨by simp [invB,z2],by simp [invB,z1,z2]; omega⟩ ⟨h.d0,h.d1⟩ (by simp [invB]) (by simp [invB])
 exact ⟨hS,hS.then hA.1,hA.2⟩
theorem rcv_next {a:Ca} {c d n:Int} (h:FitC a) (hn:0≤n) (hd:a.dep + n≤576460752303423488) :
  StepC a (rcvB a n) d (d + n) (moveE 0 4 n)∧NextC a (appA (rcvB a n)) c d (d + n + appN (rcvB a n)) (moveE 0 4 n++moveE 4 1 (appN (rcvB a n)))∧(0≤appN (rcvB a n)∧appN (rcvB a n)≤562949953421312):=by
 have hS:StepC a (rcvB a n) d (d + n) (moveE 0 4 n):=by
  refine ⟨rfl,rfl, ?_,fun k => ?_⟩
  ·simp [wt,rcvB]; omega
  ·rw [at_move]
   obtain ⟨o,c',st,lv,net,tax,ap,wr,dep⟩:=a
   simp only [con,openC,rcvB]
   by_cases k0:k=0
   ·subst k0; simp; omega
   ·by_cases k4:k=4
    ·subst k4; simp; omega
    ·by_cases hs:st=1 <;> simp [k0,k4,hs]
 have hd0:=h.d0
 have hA:=app_next (a:=rcvB a n) (c:=c) (d:=d + n) h.o1 ⟨h.c1,h.c2⟩ ⟨h.s0,h.s2⟩ ⟨h.l0,h.l3⟩ ⟨h.n0,h.n1⟩ ⟨h.t0,h.t1⟩ ⟨h.p0,h.p1⟩ ⟨h.w0,h.w1⟩ ⟨by simp only [rcvB]; omega,hd⟩ h.z h.k
 exact ⟨hS,hS.then hA.1,hA.2⟩
theorem wof_next {a:Ca} {c d:Int} (h:FitC a) (h1:openC a ≠ 0):NextC a (wofB a) c d (d + openC a) (moveE 5 1 (openC a)):=by
 have hs:a.st=1:=by
  by_cases e:a.st=1
  ·exact e
  ·exact absurd (by simp [openC,e]) h1
 have:=h.p0; have:=h.p1; have:=h.w0; have:=h.w1; have:=h.n0; have:=h.t0; have:=h.n1; have:=h.t1; have:=h.o1; have:=h.c1; have:=h.c2; have:=h.l0; have:=h.l3; have:=h.d0; have:=h.d1
 obtain ⟨o,c',st,lv,net,tax,ap,wr,dep⟩:=a
 simp only at *
 subst hs
 have e:openC ⟨o,c',1,lv,net,tax,ap,wr,dep⟩=net + tax - ap - wr:=by simp [openC]
 unfold wofB
 rw [e]
 refine ⟨by constructor <;> simp <;> omega,rfl,rfl, ?_,fun k => ?_⟩
 ·simp [wt]; omega
 ·rw [at_move]
  simp only [con,openC, ↓reduceIte]
  split <;> split <;> split <;> split <;> split <;> split <;> omega
theorem mem_next {a:Ca} {c d:Int} (h:FitC a) (hs:a.st=1) (hd:a.dep + a.ap≤576460752303423488):NextC a (memB a) c d (d + (a.net + a.tax)) (memE a.net a.tax a.ap a.wr):=by
 have:=h.p0; have:=h.p1; have:=h.w0; have:=h.w1; have:=h.n0; have:=h.t0; have:=h.n1; have:=h.t1; have:=h.o1; have:=h.c1; have:=h.c2; have:=h.l0; have:=h.l3; have:=h.d0; have:=h.d1
 obtain ⟨o,c',st,lv,net,tax,ap,wr,dep⟩:=a
 simp only at *
 subst hs
 unfold memB
 refine ⟨by constructor <;> simp <;> omega,rfl,rfl, ?_,fun k => ?_⟩
 ·simp [wt]; omega
 ·rw [at_mem]
  simp only [con,openC, ↓reduceIte]
  simp only [show ¬ ((2:Int)=1) from by decide,if_false]
  split <;> split <;> split <;> split <;> split <;> split <;> omega
theorem ref_next {a:Ca} {c d:Int} (h:FitC a):NextC a (refB a) c d (d + a.dep) (moveE 4 0 a.dep):=by
 have:=h.p0; have:=h.p1; have:=h.w0; have:=h.w1; have:=h.n0; have:=h.t0; have:=h.n1; have:=h.t1; have:=h.o1; have:=h.c1; have:=h.c2; have:=h.l0; have:=h.l3; have:=h.d0; have:=h.d1; have:=h.z; have:=h.k; have:=h.s0; have:=h.s2
 obtain ⟨o,c',st,lv,net,tax,ap,wr,dep⟩:=a
 simp only at *
 unfold refB
 refine ⟨by constructor <;> simp <;> first | assumption | omega,rfl,rfl, ?_,fun k => ?_⟩
 ·simp [wt]; omega
 ·rw [at_move]
  simp only [con,openC]
  by_cases k0:k=0
  ·subst k0; simp
   omega
  ·by_cases k4:k=4
   ·subst k4; simp; omega
   ·simp [k0,k4]
theorem GoodC.next {ac:List (Int × CP)} {d d':Int} (h:GoodC ac d) (hd:(ac.map (·.1)).Nodup) (o c:Int) (g:Nat) {b:Ca} {es:List En} (hc:(acOf (cfind ac) o c).c=c) (ho:(acOf (cfind ac) o c).o=o) (hN:NextC (acOf (cfind ac) o c) b c d d' es) (h1:d'≤1152921504606846976) :
  GoodC (mset ac o ⟨g,b⟩) d'∧addF (ledC ac) c es=ledC (mset ac o ⟨g,b⟩) :=
 ⟨h.put hd o c ⟨g,b⟩ hN.fit (hN.o.trans ho) hN.wt h1,ledC_post hd o c ⟨g,b⟩ es hc (hN.c.trans hc) hN.con⟩
end Go.Proofs.YtakaalldbnklcaaGreat.Mo
namespace Go.Proofs.YtakaalldbnklcaaGreat.Mo
open Go.RowKit Go.WideShapes Go.ChangeShapes Go.ChangeAt Go.Deep
set_option linter.unusedVariables false
theorem msetC_twice {κ ν:Type} [DecidableEq κ] {m:List (κ × ν)} {a:κ} {b c:ν}:mset (mset m a b) a c=mset m a c:=by
 have hk:a ∈ (mset m a b).map (·.1):=by
  rw [mset_keys]; split
  ·assumption
  ·simp
 rw [mset,if_pos hk]
 unfold mset
 split
 ·rw [List.map_map]
  refine List.map_congr_left fun p _ => ?_
  simp only [Function.comp]
  split <;> simp_all
 ·rename_i hn
  rw [List.map_append]
  congr 1
  ·conv=>rhs; rw [← List.map_id m]
   refine List.map_congr_left fun p hp => ?_
   have:¬ p.1=a:=fun e=>hn (by rw [← e]; exact List.mem_map_of_mem hp)
   simp [this]
  ·simp
structure IsC (n0:Nat) (w:World) (X XL BL BA:Nat) (ac:List (Int × CP)) (d:Int):Prop where
 bk:IsCash n0 w X XL BL BA ac (ledC ac) d
 gd:GoodC ac d
section
variable {n0:Nat} {w w':World} {X XL BL BA:Nat} {ac:List (Int × CP)} {f f':Fn} {d d':Int}
theorem IsC.next (h:IsC n0 w X XL BL BA ac d) (hb:Below w.heap.size w w'):IsC n0 w' X XL BL BA ac d:=⟨h.bk.next hb,h.gd⟩
theorem _root_.Go.Proofs.YtakaalldbnklcaaGreat.Ch.own_set {o:Int} {g:Nat} {a:Ca} {k:Nat} (h:Ch.Own XL BL BA (mset ac o ⟨g,a⟩) k):Ch.Own XL BL BA ac k∨k=g:=by
 rcases h with h | h | h | ⟨q,hq,h⟩
 ·exact .inl (.inl h)
 ·exact .inl (.inr (.inl h))
 ·exact .inl (.inr (.inr (.inl h)))
 ·rcases mem_mset hq with rfl | ⟨hq',_⟩
  ·exact .inr h.symm
  ·exact .inl (.inr (.inr (.inr ⟨q,hq',h⟩)))
def AtG (ac:List (Int × CP)) (n0:Nat) (o:Int) (g:Nat) (a0:Ca):Prop:=mget ac o=some ⟨g,a0⟩∨(mget ac o=none∧(∀ q ∈ ac,q.2.g ≠ g)∧n0≤g)
theorem IsCash.keepPut {o:Int} {g:Nat} {a0:Ca} (h:IsCash n0 w X XL BL BA ac f d) (hc:AtG ac n0 o g a0) (hg:Blk w g 162 (celC a0)) (hM:IsMap w' BA kC vCP (mset ac o ⟨g,a0⟩)) (hgr:w.grownBy w' (some BA)):IsCash n0 w' X XL BL BA (mset ac o ⟨g,a0⟩) f d:=by
 rcases hc with hm | ⟨hm,hf,hn⟩
 ·have hs:mset ac o ⟨g,a0⟩=ac:=by
   have:=mset_map_same (fun p:CP=>p) hm h.acs.nodup rfl
   simpa using this
  have:=h.again hm hM hgr
  rw [hs]
  exact this
 ·exact h.add hm hg hf hn hM hgr
theorem account_any (h:IsCash n0 w X XL BL BA ac f d) (hn0:n0≤w.heap.size) (o c:Int) (hc:(acOf (cfind ac) o c).c=c):Calls Tryz.prog 70 #[.pointer (some ⟨X,0,none⟩),.int .i64 o,.int .i64 c] w fun e w'=>∃ g,e = .returned (.tuple #[.pointer (some ⟨g,0,none⟩),.int .i64 0])∧Blk w' g 162 (celC (acOf (cfind ac) o c))∧AtG ac n0 o g (acOf (cfind ac) o c)∧(Ch.Own XL BL BA ac g∨w.heap.size≤g)∧Below w.heap.size w w':=by
 cases hm:mget ac o with
 | none =>
  have e:acOf (cfind ac) o c=⟨o,c,0,0,0,0,0,0,0⟩:=by unfold acOf cfind; rw [hm]; rfl
  rw [e]
  refine (account_new h o c hm).mono ?_
  rintro e w' ⟨h1,h2,h3⟩
  exact ⟨w.heap.size,h1,h2,.inr ⟨hm,fun q hq=>Nat.ne_of_lt (h.cells q hq).lt,by omega⟩,.inr (Nat.le_refl _),h3⟩
 | some p =>
  have e:acOf (cfind ac) o c=p.a:=by unfold acOf cfind; rw [hm]; rfl
  rw [e] at hc ⊢
  refine (account_same h o c p hm hc).mono ?_
  rintro e w' ⟨h1,rfl⟩
  exact ⟨p.g,h1,h.at_ hm,.inl hm,.inl (.inr (.inr (.inr ⟨_,mget_mem hm,rfl⟩))),Below.refl _ _⟩
theorem account_bad (h:IsCash n0 w X XL BL BA ac f d) (o c:Int) (hc:(acOf (cfind ac) o c).c ≠ c):Calls Tryz.prog 70 #[.pointer (some ⟨X,0,none⟩),.int .i64 o,.int .i64 c] w fun e w'=>e = .returned (.tuple #[.pointer none,.int .i64 130])∧w=w':=by
 cases hm:mget ac o with
 | none =>
  exact absurd (by unfold acOf cfind; rw [hm]; rfl) hc
 | some p =>
  have e:acOf (cfind ac) o c=p.a:=by unfold acOf cfind; rw [hm]; rfl
  rw [e] at hc
  exact account_other h o c p hm hc
def PostC (n0:Nat) (X XL BL BA:Nat) (ac:List (Int × CP)) (o:Int) (r:ResC) (w w':World):Prop :=
 ∃ ac',IsC n0 w' X XL BL BA ac' r.d∧cfind ac'=updC (cfind ac) o r.acc∧Touch (Ch.Own XL BL BA ac) w w'∧∀ k,Ch.Own XL BL BA ac' k→Ch.Own XL BL BA ac k∨w.heap.size≤k
theorem PostC.same {o e:Int} (h:IsC n0 w X XL BL BA ac d) (hb:Below w.heap.size w w'):PostC n0 X XL BL BA ac o (noC e d) w w':=⟨ac,h.next hb,rfl,.of_below hb,fun k hk => .inl hk⟩
theorem PostC.put {o c:Int} {g:Nat} {b:Ca} {pd:Bool} {es:List En} (h:IsC n0 w X XL BL BA ac d) (hgo:Ch.Own XL BL BA ac g∨w.heap.size≤g) (hc:(acOf (cfind ac) o c).c=c) (ho:(acOf (cfind ac) o c).o=o) (hN:NextC (acOf (cfind ac) o c) b c d d' es) (h1:d'≤1152921504606846976) (hB:IsCash n0 w' X XL BL BA (mset ac o ⟨g,b⟩) (addF (ledC ac) c es) d') (hT:Touch (fun k=>Ch.Own XL BL BA ac k∨k=g) w w'):PostC n0 X XL BL BA ac o ⟨pd,0,some b,d'⟩ w w':=by
 obtain ⟨g1,g2⟩:=h.gd.next h.bk.acs.nodup o c g hc ho hN h1
 rw [g2] at hB
 refine ⟨_,⟨hB,g1⟩,funext fun o'=>cfind_mset o',(Touch.refl _ w).trans hT (fun k hk => ?_),fun k hk => ?_⟩
 ·rcases hk with hk | rfl
  ·exact .inl hk
  ·exact hgo
 ·rcases Ch.own_set hk with hk | rfl
  ·exact .inl hk
  ·exact hgo
theorem bet_yes {n m:Int} (h:0≤n∧n≤m) (w:World):Calls Tryz.prog 69 #[.int .i64 n,.int .i64 m] w fun e w'=>e = .returned (.bool true)∧w=w':=by
 have:=between_any n m w
 rwa [decide_eq_true h.1,decide_eq_true h.2] at this
theorem bet_no {n m:Int} (h:¬ (0≤n∧n≤m)) (w:World):Calls Tryz.prog 69 #[.int .i64 n,.int .i64 m] w fun e w'=>e = .returned (.bool false)∧w=w':=by
 have:=between_any n m w
 by_cases h0:0≤n
 ·rwa [decide_eq_true h0,decide_eq_false (show ¬ n≤m from fun e=>h ⟨h0,e⟩)] at this
 ·rwa [decide_eq_false h0] at this
theorem roomR_zero {d n:Int} (h:¬ (576460752303423488 - n < d)):roomR d n=0:=if_neg h
theorem roomR_many {d n:Int} (h:576460752303423488 - n < d):roomR d n=72:=if_pos h
set_option maxRecDepth 100000 in
set_option maxHeartbeats 8000000 in
theorem cinv_any (h:IsC n0 w X XL BL BA ac d) (hn0:n0≤w.heap.size) (o c net tax:Int) :
  Calls Tryz.prog 126 #[.pointer (some ⟨X,0,none⟩),.int .i64 o,.int .i64 c,.int .i64 net,.int .i64 tax] w fun e w'=>e = .returned (.tuple #[.bool (invR (cfind ac) d o c net tax).paid,.int .i64 (invR (cfind ac) d o c net tax).code])∧PostC n0 X XL BL BA ac o (invR (cfind ac) d o c net tax) w w':=by
 unfold invR
 by_cases hok:okInv o c net tax
 ·rw [if_pos hok]
  have F1:=hid (fun w=>cfit_yes o c w hok.1)
  have F2:=hid (fun w=>bet_yes (m:=281474976710656) hok.2.1 w)
  have F3:=hid (fun w=>bet_yes (m:=281474976710656) hok.2.2 w)
  by_cases hc:(acOf (cfind ac) o c).c=c
  ·rw [if_neg (fun e=>e hc)]
   have hfa:=(acOf_fit h.gd (o:=o) (c:=c) hok.1.1 hok.1.2)
   have A:=hid (account_any h.bk hn0 o c hc)
   by_cases hs:(acOf (cfind ac) o c).st=0
   ·rw [if_neg (fun e=>e hs)]
    by_cases hr:576460752303423488 - (net + tax) < d
    ·rw [if_pos hr]
     have H:=hid h
     have HOK:=hid hok
     have HR:=hid hr
     obtain ⟨a0,ha0⟩:∃ a0,a0=acOf (cfind ac) o c:=⟨_,rfl⟩
     rw [← ha0] at A hs
     clear h hok hr hc hfa ha0
     go_enter Tryz.func126,Tryz.ntmps126
     go_wp2_with fail
     refine (F1.out _).mono ?_
     rintro e w1 ⟨rfl,rfl⟩
     go_wp2_with fail
     refine (F2.out _).mono ?_
     rintro e w1 ⟨rfl,rfl⟩
     go_wp2_with fail
     refine (F3.out _).mono ?_
     rintro e w1 ⟨rfl,rfl⟩
     go_wp2_with fail
     refine (A.out).mono ?_
     rintro e w2 ⟨g,rfl,hg,hcase,hgo,hb⟩
     have c2:w2.cell? ⟨g,2,none⟩=some (.int .i64 0):=by have:=hg.cell 2; rw [show (celC a0)[2]?=some (.int .i64 a0.st) from rfl,hs] at this; exact this
     have R:=room_any (H.out.bk.next hb) (net + tax) (by have:=HOK.out.2.1; have:=HOK.out.2.2; omega) (by have:=HOK.out.2.2; have:=HOK.out.2.1; omega)
     rw [roomR_many HR.out] at R
     replace R:=hid R
     have w0:IntKind.i64.wrap (net + tax)=net + tax:=IntWalk.i64_in _ ⟨by have:=HOK.out.2.1; have:=HOK.out.2.2; omega,by have:=HOK.out.2.2; have:=HOK.out.2.1; omega⟩
     have HB:=hid hb
     clear hg hcase hgo hb A F1 F2 F3
     go_wp2_with fail
     refine R.out.mono ?_
     rintro e w3 ⟨rfl,hb3⟩
     clear R c2
     go_wp2_with fail
     go_ret2
     exact ⟨rfl,PostC.same H.out (bthen HB.out hb3)⟩
    ·rw [if_neg hr]
     have hNX:=inv_next (c:=c) (d:=d) (net:=net) (tax:=tax) hfa.1 hs hok.2.1 hok.2.2
     have hpa:SmallC (invB (acOf (cfind ac) o c) net tax):=⟨⟨by have:=hok.2.1; simp only [invB]; omega,by have:=hok.2.1; simp only [invB]; omega⟩,⟨by have:=hok.2.2; simp only [invB]; omega,by have:=hok.2.2; simp only [invB]; omega⟩,hfa.1.small.p,hfa.1.small.w⟩
     have hdp:0≤(invB (acOf (cfind ac) o c) net tax).dep∧(invB (acOf (cfind ac) o c) net tax).dep≤576460752303423488:=by
      have:=hfa.1.d0
      have:=hfa.1.d1
      have:=hfa.2.2
      have:=hfa.1.wt0
      have:=h.gd.tot
      have:=hok.2.1
      simp only [invB]
      omega
     have hop:0≤openC (invB (acOf (cfind ac) o c) net tax)∧openC (invB (acOf (cfind ac) o c) net tax)≤1125899906842624:=by
      have:=hfa.1.open0
      have:=hfa.1.w0
      have:=hfa.1.p0
      have z:=hfa.1.zero hs; have:=hok.2.1; have:=hok.2.2; simp only [openC,invB, ↓reduceIte]; omega
     have hfit:=hfa.1
     have hao:=hfa.2.1
     have H:=hid h
     have HOK:=hid hok
     have HR:=hid hr
     have HN0:=hid hn0
     have HC:=hid hc
     have HAO:=hid hao
     have hs2:=hpa
     obtain ⟨a0,ha0⟩:∃ a0,a0=acOf (cfind ac) o c:=⟨_,rfl⟩
     rw [← ha0] at A hNX hs2 hdp hop hfit hs ⊢
     have HA0:=hid ha0
     have HNX:=hid hNX
     have HSM:=hid (And.intro hs2 (And.intro hNX.2.1.fit.small (And.intro hdp hop)))
     have HFIT:=hid hfit
     clear h hok hr hn0 hc hfa ha0 hNX hpa hdp hop hfit hao hs2
     go_enter Tryz.func126,Tryz.ntmps126
     go_wp2_with fail
     refine (F1.out _).mono ?_
     rintro e w1 ⟨rfl,rfl⟩
     go_wp2_with fail
     refine (F2.out _).mono ?_
     rintro e w1 ⟨rfl,rfl⟩
     go_wp2_with fail
     refine (F3.out _).mono ?_
     rintro e w1 ⟨rfl,rfl⟩
     go_wp2_with fail
     refine A.out.mono ?_
     rintro e w2 ⟨g,rfl,hg,hcase,hgo,hb⟩
     have c2:w2.cell? ⟨g,2,none⟩=some (.int .i64 0):=by have:=hg.cell 2; rw [show (celC a0)[2]?=some (.int .i64 a0.st) from rfl,hs] at this; exact this
     have R:=room_any (H.out.bk.next hb) (net + tax) (by have:=HOK.out.2.1; have:=HOK.out.2.2; omega) (by have:=HOK.out.2.2; have:=HOK.out.2.1; omega)
     rw [roomR_zero (by have:=HR.out; omega)] at R
     replace R:=hid R
     have w0:IntKind.i64.wrap (net + tax)=net + tax:=IntWalk.i64_in _ ⟨by have:=HOK.out.2.1; have:=HOK.out.2.2; omega,by have:=HOK.out.2.2; have:=HOK.out.2.1; omega⟩
     have HB:=hid hb
     have HG:=hid hg
     have HCS:=hid hcase
     have HGO:=hid hgo
     clear hg hcase hgo hb A F1 F2 F3
     go_wp2_with fail
     refine R.out.mono ?_
     rintro e w3 ⟨rfl,hb3⟩
     have cA:w3.cell? ⟨X,1,none⟩=some (.map (some BA)):=((H.out.bk.next HB.out).next hb3).cellA
     have H3:=hid ((H.out.bk.next HB.out).next hb3)
     have HG3:=hid (HG.out.next hb3)
     have HB3:=hid (bthen HB.out hb3)
     clear R c2 HG HB hb3
     go_wp2_with (first
      | (at_mapUpdate; refine wpList_store _ rfl _ _ _ 193 212 rfl keyC Tryz.underlying193 BA ac rfl H3.out.acs o ⟨g,a0⟩ rfl rfl ?_; intro w4 hM4 hg4 hs4; (have H4:=hid (H3.out.keepPut HCS.out HG3.out hM4 hg4)); (have hG4:=(Touch.of_grown hg4).blk HG3.out (fun e=>H3.out.acs.notBlk HG3.out e.symm)); (have HT4:=hid ((Touch.of_below (S:=fun k=>Ch.Own XL BL BA ac k∨k=g) HB3.out).then ((Touch.of_grown hg4).mono (fun k hk => .inl (.inr (.inr (.inl hk))))))); (have lg:=hG4.lt); (have d2:w4.cell? ⟨g,2,none⟩=some (.int .i64 a0.st):=hG4.cell 2); (have d4:w4.cell? ⟨g,4,none⟩=some (.int .i64 a0.net):=hG4.cell 4); (have d5:w4.cell? ⟨g,5,none⟩=some (.int .i64 a0.tax):=hG4.cell 5); (have f2:w4.frozen? ⟨g,2,none⟩=false:=hG4.free 2); (have f4:w4.frozen? ⟨g,4,none⟩=false:=hG4.free 4); (have f5:w4.frozen? ⟨g,5,none⟩=false:=hG4.free 5); have HG4:=hid hG4; clear hM4 hg4 hs4 hG4 cA))
     have hB5:Blk (((w4.setCell ⟨g,2,none⟩ (.int .i64 1)).setCell ⟨g,4,none⟩ (.int .i64 net)).setCell ⟨g,5,none⟩ (.int .i64 tax)) g 162 (celC (invB a0 net tax)):=((HG4.out.set_ 2 (.int .i64 1)).set_ 4 (.int .i64 net)).set_ 5 (.int .i64 tax)
     have hT5:=((Touch.setCell w4 g 2 (.int .i64 1)).then (Touch.setCell _ g 4 (.int .i64 net))).then (Touch.setCell _ g 5 (.int .i64 tax))
     have h5:=H4.out.put (o:=o) (p:=⟨g,a0⟩) (a':=invB a0 net tax) (by rw [mget_mset,if_pos rfl]) hB5 hT5
     rw [msetC_twice] at h5
     have HT5:=hid (HT4.out.then (hT5.mono (fun k hk=>(.inr hk:Ch.Own XL BL BA ac k∨k=g))))
     have H5:=hid (And.intro h5 hB5)
     clear hB5 hT5 h5 HT4 H4 HG4 lg f2 f4 f5 d2 d4 d5
     generalize ((w4.setCell ⟨g,2,none⟩ (.int .i64 1)).setCell ⟨g,4,none⟩ (.int .i64 net)).setCell ⟨g,5,none⟩ (.int .i64 tax)=w5 at H5 HT5 ⊢
     refine (invoice_any net tax w5).mono ?_
     rintro e w6 ⟨A',cap,rfl,hR,hlo,hb6⟩
     rw [invoiceL_eq ⟨HOK.out.2.1.1,by have:=HOK.out.2.1.2; omega⟩ ⟨HOK.out.2.2.1,by have:=HOK.out.2.2.2; omega⟩] at hR ⊢
     have h6:=H5.out.1.next hb6
     have K:=cpost_any h6 g (invB a0 net tax) (H5.out.2.next hb6) (invE net tax) (by rw [show (invB a0 net tax).c=c from (by have:=HC.out; rw [← HA0.out] at this; exact this)]; exact invE_ok (d:=d) (c:=c) HOK.out.1.2 HOK.out.2.1 HOK.out.2.2 (by have:=HR.out; have:=HOK.out.2.1; have:=HOK.out.2.2; omega)) A' cap hR (fun b hb=>H5.out.1.not_xb (hlo b hb))
     rw [invE_debs HOK.out.2.1.1 HOK.out.2.2.1,show (invB a0 net tax).c=c from (by have:=HC.out; rw [← HA0.out] at this; exact this)] at K
     replace K:=hid K
     have H6:=hid h6
     have HT6:=hid (HT5.out.then (.of_below hb6))
     clear hR hlo hb6 h6 H5 HT5
     go_wp2_with fail
     refine K.out.mono ?_
     rintro e w7 ⟨rfl,hL,hT7⟩
     have h7:=H6.out.ledger hL hT7
     have HT7:=hid (HT6.out.then (hT7.mono (fun k hk=>(.inl (Ch.xb_own hk):Ch.Own XL BL BA ac k∨k=g))))
     have K2:=capply_any h7 o ⟨g,invB a0 net tax⟩ (by rw [mget_mset,if_pos rfl]) (by rw [show (invB a0 net tax).c=c from (by have:=HC.out; rw [← HA0.out] at this; exact this)]; exact HOK.out.1.2) HSM.out.1 HSM.out.2.1 ⟨HSM.out.2.2.1.1,by have:=HSM.out.2.2.1.2; simp only at this ⊢; omega⟩ HSM.out.2.2.2 (by have:=HNX.out.2.2.2; have:=HR.out; have:=HOK.out.2; simp only at *; omega)
     simp only at K2
     rw [show (invB a0 net tax).c=c from (by have:=HC.out; rw [← HA0.out] at this; exact this),msetC_twice,addF_app] at K2
     replace K2:=hid K2
     clear K H6 HT6 hL hT7 h7
     go_wp2_with fail
     refine K2.out.mono ?_
     rintro e w8 ⟨rfl,hB8,hT8⟩
     clear K2
     have HT8:=hid (HT7.out.then (hT8.mono (fun k hk=>Ch.own_set hk)))
     have H8:=hid hB8
     clear hB8 hT8 HT7
     go_wp2_with fail
     go_ret2
     refine ⟨rfl, ?_⟩
     have hN:=HNX.out.2.1
     rw [HA0.out] at hN
     have h8:=H8.out
     rw [HA0.out] at h8 ⊢
     exact PostC.put H.out HGO.out HC.out HAO.out hN (by have:=HNX.out.2.2.2; rw [HA0.out] at this; have:=HR.out; have:=HOK.out.2; omega) h8 HT8.out
   ·rw [if_pos (fun e=>hs e)]
    have H:=hid h
    have hs1:((acOf (cfind ac) o c).st != 0)=true:=by simpa using hs
    obtain ⟨a0,ha0⟩:∃ a0,a0=acOf (cfind ac) o c:=⟨_,rfl⟩
    rw [← ha0] at A hs1
    clear h hok hc hfa ha0 hs
    go_enter Tryz.func126,Tryz.ntmps126
    go_wp2_with fail
    refine (F1.out _).mono ?_
    rintro e w1 ⟨rfl,rfl⟩
    go_wp2_with fail
    refine (F2.out _).mono ?_
    rintro e w1 ⟨rfl,rfl⟩
    go_wp2_with fail
    refine (F3.out _).mono ?_
    rintro e w1 ⟨rfl,rfl⟩
    go_wp2_with fail
    refine A.out.mono ?_
    rintro e w2 ⟨g,rfl,hg,hcase,hgo,hb⟩
    have c2:w2.cell? ⟨g,2,none⟩=some (.int .i64 a0.st):=hg.cell 2
    have HB:=hid hb
    clear hg hcase hgo hb A F1 F2 F3
    go_wp2_with fail
    go_ret2
    exact ⟨rfl,PostC.same H.out HB.out⟩
  ·rw [if_pos (fun e=>hc e)]
   have H:=hid h
   have A:=hid (account_bad h.bk o c hc)
   clear h hok hc
   go_enter Tryz.func126,Tryz.ntmps126
   go_wp2_with fail
   refine (F1.out _).mono ?_
   rintro e w1 ⟨rfl,rfl⟩
   go_wp2_with fail
   refine (F2.out _).mono ?_
   rintro e w1 ⟨rfl,rfl⟩
   go_wp2_with fail
   refine (F3.out _).mono ?_
   rintro e w1 ⟨rfl,rfl⟩
   go_wp2_with fail
   refine A.out.mono ?_
   rintro e w2 ⟨rfl,rfl⟩
   clear A
   go_wp2_with fail
   go_ret2
   exact ⟨rfl,PostC.same H.out (Below.refl _ _)⟩
 ·rw [if_neg hok]
  have H:=hid h
  by_cases h1:1≤o∧1≤c∧c≤64
  ·have F1:=hid (fun w=>cfit_yes o c w h1)
   by_cases h2:0≤net∧net≤281474976710656
   ·have F2:=hid (fun w=>bet_yes (m:=281474976710656) h2 w)
    have F3:=hid (fun w=>bet_no (n:=tax) (m:=281474976710656) (fun h3=>hok ⟨h1,h2,h3⟩) w)
    clear h hok h1 h2
    go_enter Tryz.func126,Tryz.ntmps126
    go_wp2_with fail
    refine (F1.out _).mono ?_
    rintro e w1 ⟨rfl,rfl⟩
    go_wp2_with fail
    refine (F2.out _).mono ?_
    rintro e w1 ⟨rfl,rfl⟩
    go_wp2_with fail
    refine (F3.out _).mono ?_
    rintro e w1 ⟨rfl,rfl⟩
    go_wp2_with fail
    go_ret2
    exact ⟨rfl,PostC.same H.out (Below.refl _ _)⟩
   ·have F2:=hid (fun w=>bet_no (m:=281474976710656) h2 w)
    clear h hok h1 h2
    go_enter Tryz.func126,Tryz.ntmps126
    go_wp2_with fail
    refine (F1.out _).mono ?_
    rintro e w1 ⟨rfl,rfl⟩
    go_wp2_with fail
    refine (F2.out _).mono ?_
    rintro e w1 ⟨rfl,rfl⟩
    go_wp2_with fail
    go_ret2
    exact ⟨rfl,PostC.same H.out (Below.refl _ _)⟩
  ·have F1:=hid (fun w=>cfit_no o c w h1)
   clear h hok h1
   go_enter Tryz.func126,Tryz.ntmps126
   go_wp2_with fail
   refine (F1.out _).mono ?_
   rintro e w1 ⟨rfl,rfl⟩
   go_wp2_with fail
   go_ret2
   exact ⟨rfl,PostC.same H.out (Below.refl _ _)⟩
set_option maxRecDepth 100000 in
set_option maxHeartbeats 8000000 in
theorem crcv_any (h:IsC n0 w X XL BL BA ac d) (hn0:n0≤w.heap.size) (o c n:Int) (hi:I64 n) :
  Calls Tryz.prog 33 #[.pointer (some ⟨X,0,none⟩),.int .i64 o,.int .i64 c,.int .i64 n] w fun e w'=>e = .returned (.tuple #[.bool (rcvR (cfind ac) d o c n).paid,.int .i64 (rcvR (cfind ac) d o c n).code])∧PostC n0 X XL BL BA ac o (rcvR (cfind ac) d o c n) w w':=by
 unfold rcvR
 by_cases hok:okRcv o c n
 ·rw [if_pos hok]
  have F1:=hid (fun w=>cfit_yes o c w hok.1)
  have F2:=hid (fun w=>bet_yes (n:=n - 1) (m:=281474976710655) ⟨by have:=hok.2.1; omega,by have:=hok.2.2; omega⟩ w)
  have wn:IntKind.i64.wrap (n - 1)=n - 1:=IntWalk.i64_in _ ⟨by have:=hok.2.1; omega,by have:=hok.2.2; omega⟩
  by_cases hc:(acOf (cfind ac) o c).c=c
  ·rw [if_neg (fun e=>e hc)]
   have hfa:=(acOf_fit h.gd (o:=o) (c:=c) hok.1.1 hok.1.2)
   have A:=hid (account_any h.bk hn0 o c hc)
   by_cases hr:576460752303423488 - (n) < d
   ·rw [if_pos hr]
    have H:=hid h
    have HOK:=hid hok
    have HR:=hid hr
    obtain ⟨a0,ha0⟩:∃ a0,a0=acOf (cfind ac) o c:=⟨_,rfl⟩
    rw [← ha0] at A 
    clear h hok hr hc hfa ha0
    go_enter Tryz.func33,Tryz.ntmps33
    go_wp2_with fail
    refine (F1.out _).mono ?_
    rintro e w1 ⟨rfl,rfl⟩
    go_wp2_with fail
    refine (F2.out _).mono ?_
    rintro e w1 ⟨rfl,rfl⟩
    go_wp2_with fail
    refine (A.out).mono ?_
    rintro e w2 ⟨g,rfl,hg,hcase,hgo,hb⟩
    have R:=room_any (H.out.bk.next hb) (n) (by have:=HOK.out.2.1; omega) (by have:=HOK.out.2.2; omega)
    rw [roomR_many HR.out] at R
    replace R:=hid R
    have HB:=hid hb
    clear hg hcase hgo hb A F1 F2
    go_wp2_with fail
    refine R.out.mono ?_
    rintro e w3 ⟨rfl,hb3⟩
    clear R
    go_wp2_with fail
    go_ret2
    exact ⟨rfl,PostC.same H.out (bthen HB.out hb3)⟩
   ·rw [if_neg hr]
    have hNX:=rcv_next (c:=c) (d:=d) (n:=n) hfa.1 (by have:=hok.2.1; omega) (by have:=hfa.2.2; have:=hfa.1.wt0; have:=h.gd.tot; omega)
    have hpa:SmallC (rcvB (acOf (cfind ac) o c) n):=⟨hfa.1.small.n,hfa.1.small.t,hfa.1.small.p,hfa.1.small.w⟩
    have hdp:0≤(rcvB (acOf (cfind ac) o c) n).dep∧(rcvB (acOf (cfind ac) o c) n).dep≤576460752303423488:=by
     have:=hfa.1.d0
     have:=hfa.1.d1
     have:=hfa.2.2
     have:=hfa.1.wt0
     have:=h.gd.tot
     have:=hok.2.1
     simp only [rcvB]
     omega
    have hop:0≤openC (rcvB (acOf (cfind ac) o c) n)∧openC (rcvB (acOf (cfind ac) o c) n)≤1125899906842624:=by
     have:=hfa.1.open0
     have:=hfa.1.w0
     have:=hfa.1.p0
     simp only [openC,rcvB] at *; omega
    have hfit:=hfa.1
    have hao:=hfa.2.1
    have H:=hid h
    have HOK:=hid hok
    have HR:=hid hr
    have HN0:=hid hn0
    have HC:=hid hc
    have HAO:=hid hao
    have hs2:=hpa
    obtain ⟨a0,ha0⟩:∃ a0,a0=acOf (cfind ac) o c:=⟨_,rfl⟩
    rw [← ha0] at A hNX hs2 hdp hop hfit ⊢
    have HA0:=hid ha0
    have HNX:=hid hNX
    have HSM:=hid (And.intro hs2 (And.intro hNX.2.1.fit.small (And.intro hdp hop)))
    have HFIT:=hid hfit
    clear h hok hr hn0 hc hfa ha0 hNX hpa hdp hop hfit hao hs2
    go_enter Tryz.func33,Tryz.ntmps33
    go_wp2_with fail
    refine (F1.out _).mono ?_
    rintro e w1 ⟨rfl,rfl⟩
    go_wp2_with fail
    refine (F2.out _).mono ?_
    rintro e w1 ⟨rfl,rfl⟩
    go_wp2_with fail
    refine A.out.mono ?_
    rintro e w2 ⟨g,rfl,hg,hcase,hgo,hb⟩
    have R:=room_any (H.out.bk.next hb) (n) (by have:=HOK.out.2.1; omega) (by have:=HOK.out.2.2; omega)
    rw [roomR_zero (by have:=HR.out; omega)] at R
    replace R:=hid R
    have HB:=hid hb
    have HG:=hid hg
    have HCS:=hid hcase
    have HGO:=hid hgo
    clear hg hcase hgo hb A F1 F2
    go_wp2_with fail
    refine R.out.mono ?_
    rintro e w3 ⟨rfl,hb3⟩
    have wd:IntKind.i64.wrap (a0.dep + n)=a0.dep + n:=IntWalk.i64_in _ ⟨by have:=HFIT.out.d0; have:=HOK.out.2.1; omega,by have:=HFIT.out.d1; have:=HOK.out.2.2; omega⟩
    have cA:w3.cell? ⟨X,1,none⟩=some (.map (some BA)):=((H.out.bk.next HB.out).next hb3).cellA
    have H3:=hid ((H.out.bk.next HB.out).next hb3)
    have HG3:=hid (HG.out.next hb3)
    have HB3:=hid (bthen HB.out hb3)
    clear R HG HB hb3
    go_wp2_with (first
     | (at_mapUpdate; refine wpList_store _ rfl _ _ _ 193 212 rfl keyC Tryz.underlying193 BA ac rfl H3.out.acs o ⟨g,a0⟩ rfl rfl ?_; intro w4 hM4 hg4 hs4; (have H4:=hid (H3.out.keepPut HCS.out HG3.out hM4 hg4)); (have hG4:=(Touch.of_grown hg4).blk HG3.out (fun e=>H3.out.acs.notBlk HG3.out e.symm)); (have HT4:=hid ((Touch.of_below (S:=fun k=>Ch.Own XL BL BA ac k∨k=g) HB3.out).then ((Touch.of_grown hg4).mono (fun k hk => .inl (.inr (.inr (.inl hk))))))); (have lg:=hG4.lt); (have c8:w4.cell? ⟨g,8,none⟩=some (.int .i64 a0.dep):=hG4.cell 8); (have f8:w4.frozen? ⟨g,8,none⟩=false:=hG4.free 8); have HG4:=hid hG4; clear hM4 hg4 hs4 hG4 cA))
    have hB5:Blk (w4.setCell ⟨g,8,none⟩ (.int .i64 (a0.dep + n))) g 162 (celC (rcvB a0 n)):=HG4.out.set_ 8 (.int .i64 (a0.dep + n))
    have hT5:=Touch.setCell w4 g 8 (.int .i64 (a0.dep + n))
    have h5:=H4.out.put (o:=o) (p:=⟨g,a0⟩) (a':=rcvB a0 n) (by rw [mget_mset,if_pos rfl]) hB5 hT5
    rw [msetC_twice] at h5
    have HT5:=hid (HT4.out.then (hT5.mono (fun k hk=>(.inr hk:Ch.Own XL BL BA ac k∨k=g))))
    have H5:=hid (And.intro h5 hB5)
    clear hB5 hT5 h5 HT4 H4 HG4 lg c8 f8 wd
    generalize w4.setCell ⟨g,8,none⟩ (.int .i64 (a0.dep + n))=w5 at H5 HT5 ⊢
    refine (receipt_any n w5).mono ?_
    rintro e w6 ⟨A',cap,rfl,hR,hlo,hb6⟩
    rw [moveL_eq ⟨by have:=HOK.out.2.1; omega,by have:=HOK.out.2.2; omega⟩] at hR ⊢
    have h6:=H5.out.1.next hb6
    have K:=cpost_any h6 g (rcvB a0 n) (H5.out.2.next hb6) (moveE 0 4 n) (by rw [show (rcvB a0 n).c=c from (by have:=HC.out; rw [← HA0.out] at this; exact this)]; exact moveE_ok (d:=d) (c:=c) HOK.out.1.2 ⟨by have:=HOK.out.2.1; omega,by have:=HOK.out.2.2; omega⟩ (by omega) (by omega) (by have:=HR.out; have:=HOK.out.2.2; omega)) A' cap hR (fun b hb=>H5.out.1.not_xb (hlo b hb))
    rw [moveE_debs (show (0:Int)≤n by have:=HOK.out.2.1; omega),show (rcvB a0 n).c=c from (by have:=HC.out; rw [← HA0.out] at this; exact this)] at K
    replace K:=hid K
    have H6:=hid h6
    have HT6:=hid (HT5.out.then (.of_below hb6))
    clear hR hlo hb6 h6 H5 HT5
    go_wp2_with fail
    refine K.out.mono ?_
    rintro e w7 ⟨rfl,hL,hT7⟩
    have h7:=H6.out.ledger hL hT7
    have HT7:=hid (HT6.out.then (hT7.mono (fun k hk=>(.inl (Ch.xb_own hk):Ch.Own XL BL BA ac k∨k=g))))
    have K2:=capply_any h7 o ⟨g,rcvB a0 n⟩ (by rw [mget_mset,if_pos rfl]) (by rw [show (rcvB a0 n).c=c from (by have:=HC.out; rw [← HA0.out] at this; exact this)]; exact HOK.out.1.2) HSM.out.1 HSM.out.2.1 ⟨HSM.out.2.2.1.1,by have:=HSM.out.2.2.1.2; simp only at this ⊢; omega⟩ HSM.out.2.2.2 (by have:=HNX.out.2.2.2; have:=HR.out; have:=HOK.out.2; simp only at *; omega)
    simp only at K2
    rw [show (rcvB a0 n).c=c from (by have:=HC.out; rw [← HA0.out] at this; exact this),msetC_twice,addF_app] at K2
    replace K2:=hid K2
    clear K H6 HT6 hL hT7 h7
    go_wp2_with fail
    refine K2.out.mono ?_
    rintro e w8 ⟨rfl,hB8,hT8⟩
    clear K2
    have HT8:=hid (HT7.out.then (hT8.mono (fun k hk=>Ch.own_set hk)))
    have H8:=hid hB8
    clear hB8 hT8 HT7
    go_wp2_with fail
    go_ret2
    refine ⟨rfl, ?_⟩
    have hN:=HNX.out.2.1
    rw [HA0.out] at hN
    have h8:=H8.out
    rw [HA0.out] at h8 ⊢
    exact PostC.put H.out HGO.out HC.out HAO.out hN (by have:=HNX.out.2.2.2; rw [HA0.out] at this; have:=HR.out; have:=HOK.out.2; omega) h8 HT8.out
  ·rw [if_pos (fun e=>hc e)]
   have H:=hid h
   have A:=hid (account_bad h.bk o c hc)
   clear h hok hc
   go_enter Tryz.func33,Tryz.ntmps33
   go_wp2_with fail
   refine (F1.out _).mono ?_
   rintro e w1 ⟨rfl,rfl⟩
   go_wp2_with fail
   refine (F2.out _).mono ?_
   rintro e w1 ⟨rfl,rfl⟩
   go_wp2_with fail
   refine A.out.mono ?_
   rintro e w2 ⟨rfl,rfl⟩
   clear A
   go_wp2_with fail
   go_ret2
   exact ⟨rfl,PostC.same H.out (Below.refl _ _)⟩
 ·rw [if_neg hok]
  have H:=hid h
  have hi:=I64.bd hi
  by_cases h1:1≤o∧1≤c∧c≤64
  ·have F1:=hid (fun w=>cfit_yes o c w h1)
   by_cases hm:n = -9223372036854775808
   ·subst hm
    have F2:=hid (fun w=>bet_no (n:=wrap64 (-9223372036854775809)) (m:=281474976710655) (by unfold wrap64; omega) w)
    clear h hok h1 hi
    go_enter Tryz.func33,Tryz.ntmps33
    go_wp2_with fail
    refine (F1.out _).mono ?_
    rintro e w1 ⟨rfl,rfl⟩
    go_wp2_with fail
    refine (F2.out _).mono ?_
    rintro e w1 ⟨rfl,rfl⟩
    go_wp2_with fail
    go_ret2
    exact ⟨rfl,PostC.same H.out (Below.refl _ _)⟩
   ·have F2:=hid (fun w=>bet_no (n:=n - 1) (m:=281474976710655) (fun h3=>hok ⟨h1,by omega,by omega⟩) w)
    by_cases hi2:n≤9223372036854775807
    ·have wn:IntKind.i64.wrap (n - 1)=n - 1:=IntWalk.i64_in _ ⟨by omega,by omega⟩
     clear h hok h1 hm hi hi2
     go_enter Tryz.func33,Tryz.ntmps33
     go_wp2_with fail
     refine (F1.out _).mono ?_
     rintro e w1 ⟨rfl,rfl⟩
     go_wp2_with fail
     refine (F2.out _).mono ?_
     rintro e w1 ⟨rfl,rfl⟩
     go_wp2_with fail
     go_ret2
     exact ⟨rfl,PostC.same H.out (Below.refl _ _)⟩
    ·omega
  ·have F1:=hid (fun w=>cfit_no o c w h1)
   clear h hok h1
   go_enter Tryz.func33,Tryz.ntmps33
   go_wp2_with fail
   refine (F1.out _).mono ?_
   rintro e w1 ⟨rfl,rfl⟩
   go_wp2_with fail
   go_ret2
   exact ⟨rfl,PostC.same H.out (Below.refl _ _)⟩
end
end Go.Proofs.YtakaalldbnklcaaGreat.Mo
