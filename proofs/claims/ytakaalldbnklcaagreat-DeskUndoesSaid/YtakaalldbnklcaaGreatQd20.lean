/-
  The document's book of money: Invoice, Receive.
  The document's book of money: WriteOff, Refund.
  The document's book of money: Memo.
  The document's book of money: Dun.
  The document's book of money: Balance.
  The document's desk: what it holds, what each book's calls leave of the others; New.
  The document's services: each book's call, beside what the program's service makes of the desk.
-/
import Derived.Test.YtakaalldbnklcaaGreatQd5
import Derived.Test.YtakaalldbnklcaaGreatQd7
import Derived.Test.YtakaalldbnklcaaGreatQd12
import Derived.Test.YtakaalldbnklcaaGreatQd17
import Derived.Test.YtakaalldbnklcaaGreatQd19
import Derived.Deep.CutBlock
namespace Go.Proofs.YtakaalldbnklcaaGreat.Mo
open Go.RowKit Go.WideShapes Go.ChangeShapes Go.ChangeAt Go.Deep
set_option linter.unusedVariables false
section
variable {base R cap:Nat} {A:Option Addr} {L:List Ca} {d:Int} {w w' w4 wr:World} {F:Int→Option Ca}
theorem PostR.same (h:IsRf base w R A cap L d) (hF:RelC F L) (o:Int) (hb:Below w.heap.size w w'):PostR base R A L F o none d w w':=⟨A,cap,L,h.next hb,hF,by omega,.of_below hb⟩
theorem PostR.after {w3:World} {o d':Int} {x:Option Ca} (hT:Touch (· = R) w w3) (hP:PostR base R A L F o x d' w3 w'):PostR base R A L F o x d' w w':=by
 obtain ⟨A',cap',L',h1,h2,h3,h4⟩:=hP
 refine ⟨A',cap',L',h1,h2,h3,(hT.mono (fun k hk=>(.inl hk:RT w.heap.size R A k))).then (h4.mono (fun k hk => ?_))⟩
 rcases hk with e | e | e
 ·exact .inl e
 ·exact .inr (.inl e)
 ·exact .inr (.inr (Nat.le_trans hT.size e))
structure GoodF (F:Int→Option Ca) (d:Int):Prop where
 fit:∀ o c,1≤o→1≤c∧c≤64→FitC (acOf F o c)∧(acOf F o c).o=o∧wt (acOf F o c)≤d
 d0:0≤d
 d1:d≤1152921504606846976
theorem GoodC.good {ac:List (Int × CP)} {d:Int} (h:GoodC ac d):GoodF (cfind ac) d:=⟨fun o c h1 h2=>by have:=acOf_fit h h1 h2; exact ⟨this.1,this.2.1,Int.le_trans this.2.2 h.tot⟩,h.d0,h.d1⟩
set_option maxRecDepth 100000 in
set_option maxHeartbeats 16000000 in
theorem rinv_any (h:IsRf base w R A cap L d) (hF:RelC F L) (hg:GoodF F d) (hl:L.length * 72 + 72≤140737488355328) (hbw:base≤w.heap.size) (o c net tax:Int) :
  Calls Tryz.prog 141 #[.pointer (some ⟨R,0,none⟩),.int .i64 o,.int .i64 c,.int .i64 net,.int .i64 tax] w fun e w'=>e = .returned (.tuple #[.bool (invR F d o c net tax).paid,.int .i64 (invR F d o c net tax).code])∧PostR base R A L F o (invR F d o c net tax).acc (invR F d o c net tax).d w w':=by
 by_cases hok:okInv o c net tax
 ·unfold invR
  rw [if_pos hok]
  have O:=hid (rof_any h hF o c (by omega))
  have hfa:=hg.fit o c hok.1.1 hok.1.2
  obtain ⟨a0,ha0⟩:∃ a0,a0=acOf F o c:=⟨_,rfl⟩
  rw [← ha0] at hfa O ⊢
  have H:=hid (And.intro h (And.intro hF hbw))
  have HG:=hid hg
  have HOK:=hid hok
  have HFA:=hid hfa
  obtain ⟨k1,k2⟩:=hok
  obtain ⟨k10,k11,k12⟩:=k1
  obtain ⟨⟨k3,k4⟩,⟨k5,k6⟩⟩:=k2
  have t0:decide (o < 1)=false:=decide_eq_false (by omega)
  have t1:decide (c < 1)=false:=decide_eq_false (by omega)
  have t2:decide (64 < c)=false:=decide_eq_false (by omega)
  have t3:decide (net < 0)=false:=decide_eq_false (by omega)
  have t4:decide (281474976710656 < net)=false:=decide_eq_false (by omega)
  have t5:decide (tax < 0)=false:=decide_eq_false (by omega)
  have t6:decide (281474976710656 < tax)=false:=decide_eq_false (by omega)
  clear h hF hg hfa hbw ha0
  have W:Hid (∀ w1:World,Below w.heap.size w w1→IsRf base (w1.alloc (.cells #[.int .i64 a0.o,.int .i64 a0.c,.int .i64 a0.st,.int .i64 a0.lv,.int .i64 a0.net,.int .i64 a0.tax,.int .i64 a0.ap,.int .i64 a0.wr,.int .i64 a0.dep] 164)) R A cap L d∧Below w.heap.size w (w1.alloc (.cells #[.int .i64 a0.o,.int .i64 a0.c,.int .i64 a0.st,.int .i64 a0.lv,.int .i64 a0.net,.int .i64 a0.tax,.int .i64 a0.ap,.int .i64 a0.wr,.int .i64 a0.dep] 164))):=hid (fun w1 hb=>⟨(H.out.1.next hb).alloc _,hb.alloc hb.size _⟩)
  by_cases hc:a0.c=c
  ·rw [if_neg (fun e=>e hc)]
   have tc:(a0.c != c)=false:=by simp [hc]
   have HC:=hid hc
   by_cases hs:a0.st=0
   ·rw [if_neg (fun e=>e hs)]
    have ts:(a0.st != 0)=false:=by simp [hs]
    have HSS:=hid hs
    clear hs
    clear hc
    have w0:IntKind.i64.wrap (d + net)=d + net:=IntWalk.i64_in _ ⟨by have:=HG.out.d0; omega,by have:=HG.out.d1; omega⟩
    have w00:IntKind.i64.wrap (d + net + tax)=d + net + tax:=IntWalk.i64_in _ ⟨by have:=HG.out.d0; omega,by have:=HG.out.d1; omega⟩
    by_cases hr:576460752303423488 - (net + tax) < d
    ·rw [if_pos hr]
     have tr:decide (576460752303423488 < d + net + tax)=true:=decide_eq_true (by omega)
     clear hr
     simp only [celC] at O
     go_enter Tryz.func141,Tryz.ntmps141
     go_wp2_with fail
     refine O.out.mono ?_
     rintro e w1 ⟨rfl,hb1⟩
     obtain ⟨hr2,hb2⟩:=W.out w1 hb1
     have hG2:=Blk.new w1 164 #[.int .i64 a0.o,.int .i64 a0.c,.int .i64 a0.st,.int .i64 a0.lv,.int .i64 a0.net,.int .i64 a0.tax,.int .i64 a0.ap,.int .i64 a0.wr,.int .i64 a0.dep]
     obtain ⟨w2,hw2⟩:∃ w2,w2=w1.alloc (.cells #[.int .i64 a0.o,.int .i64 a0.c,.int .i64 a0.st,.int .i64 a0.lv,.int .i64 a0.net,.int .i64 a0.tax,.int .i64 a0.ap,.int .i64 a0.wr,.int .i64 a0.dep] 164):=⟨_,rfl⟩
     obtain ⟨G1,hG1⟩:∃ G1,G1=w1.heap.size:=⟨_,rfl⟩
     have hGR:G1 ≠ R:=by have:=(H.out.1.next hb1).blk.lt; omega
     have hGw:w.heap.size≤G1:=by rw [hG1]; exact hb1.size
     have c1:w1.cell? ⟨R,1,none⟩=some (.int .i64 d):=(H.out.1.next hb1).blk.cell 1
     have lR:R < w1.heap.size:=(H.out.1.next hb1).blk.lt
     have fR:=(H.out.1.next hb1).blk.free 1
     rw [← hw2] at hr2 hb2 hG2
     rw [← hG1] at hG2
     have HW2:=hid hw2
     have HG1:=hid hG1
     have HB1:=hid hb1
     have H2:=hid (And.intro hr2 (And.intro hb2 hG2))
     clear hr2 hb2 hG2 hw2 hG1 hb1 W O
     go_wp2_with fail
     go_ret2
     rw [← HW2.out]
     exact ⟨rfl,PostR.same H.out.1 H.out.2.1 o H2.out.2.1⟩
    ·rw [if_neg hr]
     have tr:decide (576460752303423488 < d + net + tax)=false:=decide_eq_false (by omega)
     have HR:=hid hr
     clear hr
     simp only [celC] at O
     go_enter Tryz.func141,Tryz.ntmps141
     go_wp2_with fail
     refine O.out.mono ?_
     rintro e w1 ⟨rfl,hb1⟩
     obtain ⟨hr2,hb2⟩:=W.out w1 hb1
     have hG2:=Blk.new w1 164 #[.int .i64 a0.o,.int .i64 a0.c,.int .i64 a0.st,.int .i64 a0.lv,.int .i64 a0.net,.int .i64 a0.tax,.int .i64 a0.ap,.int .i64 a0.wr,.int .i64 a0.dep]
     obtain ⟨w2,hw2⟩:∃ w2,w2=w1.alloc (.cells #[.int .i64 a0.o,.int .i64 a0.c,.int .i64 a0.st,.int .i64 a0.lv,.int .i64 a0.net,.int .i64 a0.tax,.int .i64 a0.ap,.int .i64 a0.wr,.int .i64 a0.dep] 164):=⟨_,rfl⟩
     obtain ⟨G1,hG1⟩:∃ G1,G1=w1.heap.size:=⟨_,rfl⟩
     have hGR:G1 ≠ R:=by have:=(H.out.1.next hb1).blk.lt; omega
     have hGw:w.heap.size≤G1:=by rw [hG1]; exact hb1.size
     have c1:w1.cell? ⟨R,1,none⟩=some (.int .i64 d):=(H.out.1.next hb1).blk.cell 1
     have lR:R < w1.heap.size:=(H.out.1.next hb1).blk.lt
     have fR:=(H.out.1.next hb1).blk.free 1
     rw [← hw2] at hr2 hb2 hG2
     rw [← hG1] at hG2
     have HW2:=hid hw2
     have HG1:=hid hG1
     have HB1:=hid hb1
     have H2:=hid (And.intro hr2 (And.intro hb2 hG2))
     clear hr2 hb2 hG2 hw2 hG1 hb1 W O
     have e0:w2.cell? ⟨G1,0,none⟩=some (.int .i64 a0.o):=H2.out.2.2.cell 0
     have e1:w2.cell? ⟨G1,1,none⟩=some (.int .i64 a0.c):=H2.out.2.2.cell 1
     have e2:w2.cell? ⟨G1,2,none⟩=some (.int .i64 a0.st):=H2.out.2.2.cell 2
     have e3:w2.cell? ⟨G1,3,none⟩=some (.int .i64 a0.lv):=H2.out.2.2.cell 3
     have e4:w2.cell? ⟨G1,4,none⟩=some (.int .i64 a0.net):=H2.out.2.2.cell 4
     have e5:w2.cell? ⟨G1,5,none⟩=some (.int .i64 a0.tax):=H2.out.2.2.cell 5
     have e6:w2.cell? ⟨G1,6,none⟩=some (.int .i64 a0.ap):=H2.out.2.2.cell 6
     have e7:w2.cell? ⟨G1,7,none⟩=some (.int .i64 a0.wr):=H2.out.2.2.cell 7
     have e8:w2.cell? ⟨G1,8,none⟩=some (.int .i64 a0.dep):=H2.out.2.2.cell 8
     have lG1:G1 < w2.heap.size:=H2.out.2.2.lt
     have c2:w2.cell? ⟨R,1,none⟩=some (.int .i64 d):=H2.out.1.blk.cell 1
     have fR2:=H2.out.1.blk.free 1
     have lR2:R < w2.heap.size:=H2.out.1.blk.lt
     have f2:=H2.out.2.2.free 2
     have f4:=H2.out.2.2.free 4
     have f5:=H2.out.2.2.free 5
     go_wp2_with fail
     clear e0 e1 e2 e3 e4 e5 e6 e7 e8 lG1 c2 fR2 lR2 f2 f4 f5
     have hb1:=HB1.out
     have h1:=H.out.1.next hb1
     have hB3:=(h1.blk.set_ 1 (.int .i64 (d + net + tax))).alloc (.cells #[.int .i64 a0.o,.int .i64 a0.c,.int .i64 1,.int .i64 a0.lv,.int .i64 net,.int .i64 tax,.int .i64 a0.ap,.int .i64 a0.wr,.int .i64 a0.dep] 164)
     have hT0:Touch (· = R) w ((w1.setCell ⟨R,1,none⟩ (.int .i64 (d + net + tax))).alloc (.cells #[.int .i64 a0.o,.int .i64 a0.c,.int .i64 1,.int .i64 a0.lv,.int .i64 net,.int .i64 tax,.int .i64 a0.ap,.int .i64 a0.wr,.int .i64 a0.dep] 164)):=((Touch.of_below hb1).then (Touch.setCell w1 R 1 (.int .i64 (d + net + tax)))).alloc _
     have h3:=H.out.1.turn hT0 (fun k hk => .inl hk) hB3
     have HNX:=hid (inv_next (c:=c) (d:=d) (net:=net) (tax:=tax) HFA.out.1 HSS.out HOK.out.2.1 HOK.out.2.2)
     have hbo:(invB a0 net tax).o=o:=HFA.out.2.1
     have K:=hid (rapply_any h3 H.out.2.1 (invB a0 net tax) hl (Nat.le_trans H.out.2.2 hT0.size) ⟨⟨by simp only [invB]; omega,by simp only [invB]; omega⟩,⟨by simp only [invB]; omega,by simp only [invB]; omega⟩,HFA.out.1.small.p,HFA.out.1.small.w⟩ HNX.out.2.1.fit.small ⟨by have:=HFA.out.1.d0; simp only [invB]; omega,by have:=HFA.out.1.d1; simp only [invB]; omega⟩ ⟨by have z:=HFA.out.1.zero HSS.out; simp only [openC,invB, ↓reduceIte]; omega,by have z:=HFA.out.1.zero HSS.out; simp only [openC,invB, ↓reduceIte]; omega⟩ ⟨by have:=HG.out.d0; omega,by have:=HG.out.d1; omega⟩)
     rw [hbo] at K
     have HT0:=hid hT0
     clear hB3 h3 hT0 hbo hb1 h1 w0 w00 c1 lR fR
     generalize (w1.setCell ⟨R,1,none⟩ (.int .i64 (d + net + tax))).alloc (.cells #[.int .i64 a0.o,.int .i64 a0.c,.int .i64 1,.int .i64 a0.lv,.int .i64 net,.int .i64 tax,.int .i64 a0.ap,.int .i64 a0.wr,.int .i64 a0.dep] 164)=w3 at K HT0 ⊢
     simp only [celC] at K
     refine K.out.mono ?_
     rintro e w5 ⟨rfl,hP⟩
     have HP:=hid (PostR.after HT0.out hP)
     clear K hP
     go_wp2_with fail
     go_ret2
     have hp:=HP.out
     rw [show d + net + tax=d + (net + tax) from by omega] at hp
     exact ⟨rfl,hp⟩
   ·rw [if_pos (fun e=>hs e)]
    have ts:(a0.st != 0)=true:=by simpa using hs
    clear hs hc
    simp only [celC] at O
    go_enter Tryz.func141,Tryz.ntmps141
    go_wp2_with fail
    refine O.out.mono ?_
    rintro e w1 ⟨rfl,hb1⟩
    obtain ⟨hr2,hb2⟩:=W.out w1 hb1
    have hG2:=Blk.new w1 164 #[.int .i64 a0.o,.int .i64 a0.c,.int .i64 a0.st,.int .i64 a0.lv,.int .i64 a0.net,.int .i64 a0.tax,.int .i64 a0.ap,.int .i64 a0.wr,.int .i64 a0.dep]
    obtain ⟨w2,hw2⟩:∃ w2,w2=w1.alloc (.cells #[.int .i64 a0.o,.int .i64 a0.c,.int .i64 a0.st,.int .i64 a0.lv,.int .i64 a0.net,.int .i64 a0.tax,.int .i64 a0.ap,.int .i64 a0.wr,.int .i64 a0.dep] 164):=⟨_,rfl⟩
    obtain ⟨G1,hG1⟩:∃ G1,G1=w1.heap.size:=⟨_,rfl⟩
    have hGR:G1 ≠ R:=by have:=(H.out.1.next hb1).blk.lt; omega
    have hGw:w.heap.size≤G1:=by rw [hG1]; exact hb1.size
    have c1:w1.cell? ⟨R,1,none⟩=some (.int .i64 d):=(H.out.1.next hb1).blk.cell 1
    have lR:R < w1.heap.size:=(H.out.1.next hb1).blk.lt
    have fR:=(H.out.1.next hb1).blk.free 1
    rw [← hw2] at hr2 hb2 hG2
    rw [← hG1] at hG2
    have HW2:=hid hw2
    have HG1:=hid hG1
    have HB1:=hid hb1
    have H2:=hid (And.intro hr2 (And.intro hb2 hG2))
    clear hr2 hb2 hG2 hw2 hG1 hb1 W O
    go_wp2_with fail
    go_ret2
    rw [← HW2.out]
    exact ⟨rfl,PostR.same H.out.1 H.out.2.1 o H2.out.2.1⟩
  ·rw [if_pos (fun e=>hc e)]
   have tc:(a0.c != c)=true:=by simpa using hc
   clear hc
   simp only [celC] at O
   go_enter Tryz.func141,Tryz.ntmps141
   go_wp2_with fail
   refine O.out.mono ?_
   rintro e w1 ⟨rfl,hb1⟩
   obtain ⟨hr2,hb2⟩:=W.out w1 hb1
   have hG2:=Blk.new w1 164 #[.int .i64 a0.o,.int .i64 a0.c,.int .i64 a0.st,.int .i64 a0.lv,.int .i64 a0.net,.int .i64 a0.tax,.int .i64 a0.ap,.int .i64 a0.wr,.int .i64 a0.dep]
   obtain ⟨w2,hw2⟩:∃ w2,w2=w1.alloc (.cells #[.int .i64 a0.o,.int .i64 a0.c,.int .i64 a0.st,.int .i64 a0.lv,.int .i64 a0.net,.int .i64 a0.tax,.int .i64 a0.ap,.int .i64 a0.wr,.int .i64 a0.dep] 164):=⟨_,rfl⟩
   obtain ⟨G1,hG1⟩:∃ G1,G1=w1.heap.size:=⟨_,rfl⟩
   have hGR:G1 ≠ R:=by have:=(H.out.1.next hb1).blk.lt; omega
   have hGw:w.heap.size≤G1:=by rw [hG1]; exact hb1.size
   have c1:w1.cell? ⟨R,1,none⟩=some (.int .i64 d):=(H.out.1.next hb1).blk.cell 1
   have lR:R < w1.heap.size:=(H.out.1.next hb1).blk.lt
   have fR:=(H.out.1.next hb1).blk.free 1
   rw [← hw2] at hr2 hb2 hG2
   rw [← hG1] at hG2
   have HW2:=hid hw2
   have HG1:=hid hG1
   have HB1:=hid hb1
   have H2:=hid (And.intro hr2 (And.intro hb2 hG2))
   clear hr2 hb2 hG2 hw2 hG1 hb1 W O
   go_wp2_with fail
   go_ret2
   rw [← HW2.out]
   exact ⟨rfl,PostR.same H.out.1 H.out.2.1 o H2.out.2.1⟩
 ·have e:invR F d o c net tax=noC 2 d:=by unfold invR; rw [if_neg hok]
  rw [e]
  have HH:=hid (PostR.same h hF o (Below.refl _ _))
  unfold okInv at hok
  clear h hF hg hl hbw e
  rcases (show (o < 1)∨((1≤o)∧c < 1)∨((1≤o)∧(1≤c)∧64 < c)∨((1≤o)∧(1≤c)∧(c≤64)∧net < 0)∨((1≤o)∧(1≤c)∧(c≤64)∧(0≤net)∧281474976710656 < net)∨((1≤o)∧(1≤c)∧(c≤64)∧(0≤net)∧(net≤281474976710656)∧tax < 0)∨((1≤o)∧(1≤c)∧(c≤64)∧(0≤net)∧(net≤281474976710656)∧(0≤tax)∧281474976710656 < tax) from by omega) with j0 | ⟨j0,j1⟩ | ⟨j0,j1,j2⟩ | ⟨j0,j1,j2,j3⟩ | ⟨j0,j1,j2,j3,j4⟩ | ⟨j0,j1,j2,j3,j4,j5⟩ | ⟨j0,j1,j2,j3,j4,j5,j6⟩
  ·have t0:decide (o < 1)=true:=decide_eq_true (by omega)
   clear hok
   go_enter Tryz.func141,Tryz.ntmps141
   go_wp2_with fail
   go_ret2
   exact ⟨rfl,HH.out⟩
  ·have t0:decide (o < 1)=false:=decide_eq_false (by omega)
   have t1:decide (c < 1)=true:=decide_eq_true (by omega)
   clear hok
   go_enter Tryz.func141,Tryz.ntmps141
   go_wp2_with fail
   go_ret2
   exact ⟨rfl,HH.out⟩
  ·have t0:decide (o < 1)=false:=decide_eq_false (by omega)
   have t1:decide (c < 1)=false:=decide_eq_false (by omega)
   have t2:decide (64 < c)=true:=decide_eq_true (by omega)
   clear hok
   go_enter Tryz.func141,Tryz.ntmps141
   go_wp2_with fail
   go_ret2
   exact ⟨rfl,HH.out⟩
  ·have t0:decide (o < 1)=false:=decide_eq_false (by omega)
   have t1:decide (c < 1)=false:=decide_eq_false (by omega)
   have t2:decide (64 < c)=false:=decide_eq_false (by omega)
   have t3:decide (net < 0)=true:=decide_eq_true (by omega)
   clear hok
   go_enter Tryz.func141,Tryz.ntmps141
   go_wp2_with fail
   go_ret2
   exact ⟨rfl,HH.out⟩
  ·have t0:decide (o < 1)=false:=decide_eq_false (by omega)
   have t1:decide (c < 1)=false:=decide_eq_false (by omega)
   have t2:decide (64 < c)=false:=decide_eq_false (by omega)
   have t3:decide (net < 0)=false:=decide_eq_false (by omega)
   have t4:decide (281474976710656 < net)=true:=decide_eq_true (by omega)
   clear hok
   go_enter Tryz.func141,Tryz.ntmps141
   go_wp2_with fail
   go_ret2
   exact ⟨rfl,HH.out⟩
  ·have t0:decide (o < 1)=false:=decide_eq_false (by omega)
   have t1:decide (c < 1)=false:=decide_eq_false (by omega)
   have t2:decide (64 < c)=false:=decide_eq_false (by omega)
   have t3:decide (net < 0)=false:=decide_eq_false (by omega)
   have t4:decide (281474976710656 < net)=false:=decide_eq_false (by omega)
   have t5:decide (tax < 0)=true:=decide_eq_true (by omega)
   clear hok
   go_enter Tryz.func141,Tryz.ntmps141
   go_wp2_with fail
   go_ret2
   exact ⟨rfl,HH.out⟩
  ·have t0:decide (o < 1)=false:=decide_eq_false (by omega)
   have t1:decide (c < 1)=false:=decide_eq_false (by omega)
   have t2:decide (64 < c)=false:=decide_eq_false (by omega)
   have t3:decide (net < 0)=false:=decide_eq_false (by omega)
   have t4:decide (281474976710656 < net)=false:=decide_eq_false (by omega)
   have t5:decide (tax < 0)=false:=decide_eq_false (by omega)
   have t6:decide (281474976710656 < tax)=true:=decide_eq_true (by omega)
   clear hok
   go_enter Tryz.func141,Tryz.ntmps141
   go_wp2_with fail
   go_ret2
   exact ⟨rfl,HH.out⟩
set_option maxRecDepth 100000 in
set_option maxHeartbeats 16000000 in
theorem rrcv_any (h:IsRf base w R A cap L d) (hF:RelC F L) (hg:GoodF F d) (hl:L.length * 72 + 72≤140737488355328) (hbw:base≤w.heap.size) (o c n:Int) :
  Calls Tryz.prog 34 #[.pointer (some ⟨R,0,none⟩),.int .i64 o,.int .i64 c,.int .i64 n] w fun e w'=>e = .returned (.tuple #[.bool (rcvR F d o c n).paid,.int .i64 (rcvR F d o c n).code])∧PostR base R A L F o (rcvR F d o c n).acc (rcvR F d o c n).d w w':=by
 by_cases hok:okRcv o c n
 ·unfold rcvR
  rw [if_pos hok]
  have O:=hid (rof_any h hF o c (by omega))
  have hfa:=hg.fit o c hok.1.1 hok.1.2
  obtain ⟨a0,ha0⟩:∃ a0,a0=acOf F o c:=⟨_,rfl⟩
  rw [← ha0] at hfa O ⊢
  have H:=hid (And.intro h (And.intro hF hbw))
  have HG:=hid hg
  have HOK:=hid hok
  have HFA:=hid hfa
  obtain ⟨k1,k2⟩:=hok
  obtain ⟨k10,k11,k12⟩:=k1
  obtain ⟨k3,k4⟩:=k2
  have t0:decide (o < 1)=false:=decide_eq_false (by omega)
  have t1:decide (c < 1)=false:=decide_eq_false (by omega)
  have t2:decide (64 < c)=false:=decide_eq_false (by omega)
  have t3:decide (n < 1)=false:=decide_eq_false (by omega)
  have t4:decide (281474976710656 < n)=false:=decide_eq_false (by omega)
  clear h hF hg hfa hbw ha0
  have W:Hid (∀ w1:World,Below w.heap.size w w1→IsRf base (w1.alloc (.cells #[.int .i64 a0.o,.int .i64 a0.c,.int .i64 a0.st,.int .i64 a0.lv,.int .i64 a0.net,.int .i64 a0.tax,.int .i64 a0.ap,.int .i64 a0.wr,.int .i64 a0.dep] 164)) R A cap L d∧Below w.heap.size w (w1.alloc (.cells #[.int .i64 a0.o,.int .i64 a0.c,.int .i64 a0.st,.int .i64 a0.lv,.int .i64 a0.net,.int .i64 a0.tax,.int .i64 a0.ap,.int .i64 a0.wr,.int .i64 a0.dep] 164))):=hid (fun w1 hb=>⟨(H.out.1.next hb).alloc _,hb.alloc hb.size _⟩)
  by_cases hc:a0.c=c
  ·rw [if_neg (fun e=>e hc)]
   have tc:(a0.c != c)=false:=by simp [hc]
   have HC:=hid hc
   clear hc
   have w0:IntKind.i64.wrap (d + n)=d + n:=IntWalk.i64_in _ ⟨by have:=HG.out.d0; omega,by have:=HG.out.d1; omega⟩
   by_cases hr:576460752303423488 - (n) < d
   ·rw [if_pos hr]
    have tr:decide (576460752303423488 < d + n)=true:=decide_eq_true (by omega)
    clear hr
    simp only [celC] at O
    go_enter Tryz.func34,Tryz.ntmps34
    go_wp2_with fail
    refine O.out.mono ?_
    rintro e w1 ⟨rfl,hb1⟩
    obtain ⟨hr2,hb2⟩:=W.out w1 hb1
    have hG2:=Blk.new w1 164 #[.int .i64 a0.o,.int .i64 a0.c,.int .i64 a0.st,.int .i64 a0.lv,.int .i64 a0.net,.int .i64 a0.tax,.int .i64 a0.ap,.int .i64 a0.wr,.int .i64 a0.dep]
    obtain ⟨w2,hw2⟩:∃ w2,w2=w1.alloc (.cells #[.int .i64 a0.o,.int .i64 a0.c,.int .i64 a0.st,.int .i64 a0.lv,.int .i64 a0.net,.int .i64 a0.tax,.int .i64 a0.ap,.int .i64 a0.wr,.int .i64 a0.dep] 164):=⟨_,rfl⟩
    obtain ⟨G1,hG1⟩:∃ G1,G1=w1.heap.size:=⟨_,rfl⟩
    have hGR:G1 ≠ R:=by have:=(H.out.1.next hb1).blk.lt; omega
    have hGw:w.heap.size≤G1:=by rw [hG1]; exact hb1.size
    have c1:w1.cell? ⟨R,1,none⟩=some (.int .i64 d):=(H.out.1.next hb1).blk.cell 1
    have lR:R < w1.heap.size:=(H.out.1.next hb1).blk.lt
    have fR:=(H.out.1.next hb1).blk.free 1
    rw [← hw2] at hr2 hb2 hG2
    rw [← hG1] at hG2
    have HW2:=hid hw2
    have HG1:=hid hG1
    have HB1:=hid hb1
    have H2:=hid (And.intro hr2 (And.intro hb2 hG2))
    clear hr2 hb2 hG2 hw2 hG1 hb1 W O
    go_wp2_with fail
    go_ret2
    rw [← HW2.out]
    exact ⟨rfl,PostR.same H.out.1 H.out.2.1 o H2.out.2.1⟩
   ·rw [if_neg hr]
    have tr:decide (576460752303423488 < d + n)=false:=decide_eq_false (by omega)
    have HR:=hid hr
    clear hr
    simp only [celC] at O
    go_enter Tryz.func34,Tryz.ntmps34
    go_wp2_with fail
    refine O.out.mono ?_
    rintro e w1 ⟨rfl,hb1⟩
    obtain ⟨hr2,hb2⟩:=W.out w1 hb1
    have hG2:=Blk.new w1 164 #[.int .i64 a0.o,.int .i64 a0.c,.int .i64 a0.st,.int .i64 a0.lv,.int .i64 a0.net,.int .i64 a0.tax,.int .i64 a0.ap,.int .i64 a0.wr,.int .i64 a0.dep]
    obtain ⟨w2,hw2⟩:∃ w2,w2=w1.alloc (.cells #[.int .i64 a0.o,.int .i64 a0.c,.int .i64 a0.st,.int .i64 a0.lv,.int .i64 a0.net,.int .i64 a0.tax,.int .i64 a0.ap,.int .i64 a0.wr,.int .i64 a0.dep] 164):=⟨_,rfl⟩
    obtain ⟨G1,hG1⟩:∃ G1,G1=w1.heap.size:=⟨_,rfl⟩
    have hGR:G1 ≠ R:=by have:=(H.out.1.next hb1).blk.lt; omega
    have hGw:w.heap.size≤G1:=by rw [hG1]; exact hb1.size
    have c1:w1.cell? ⟨R,1,none⟩=some (.int .i64 d):=(H.out.1.next hb1).blk.cell 1
    have lR:R < w1.heap.size:=(H.out.1.next hb1).blk.lt
    have fR:=(H.out.1.next hb1).blk.free 1
    rw [← hw2] at hr2 hb2 hG2
    rw [← hG1] at hG2
    have HW2:=hid hw2
    have HG1:=hid hG1
    have HB1:=hid hb1
    have H2:=hid (And.intro hr2 (And.intro hb2 hG2))
    clear hr2 hb2 hG2 hw2 hG1 hb1 W O
    have e0:w2.cell? ⟨G1,0,none⟩=some (.int .i64 a0.o):=H2.out.2.2.cell 0
    have e1:w2.cell? ⟨G1,1,none⟩=some (.int .i64 a0.c):=H2.out.2.2.cell 1
    have e2:w2.cell? ⟨G1,2,none⟩=some (.int .i64 a0.st):=H2.out.2.2.cell 2
    have e3:w2.cell? ⟨G1,3,none⟩=some (.int .i64 a0.lv):=H2.out.2.2.cell 3
    have e4:w2.cell? ⟨G1,4,none⟩=some (.int .i64 a0.net):=H2.out.2.2.cell 4
    have e5:w2.cell? ⟨G1,5,none⟩=some (.int .i64 a0.tax):=H2.out.2.2.cell 5
    have e6:w2.cell? ⟨G1,6,none⟩=some (.int .i64 a0.ap):=H2.out.2.2.cell 6
    have e7:w2.cell? ⟨G1,7,none⟩=some (.int .i64 a0.wr):=H2.out.2.2.cell 7
    have e8:w2.cell? ⟨G1,8,none⟩=some (.int .i64 a0.dep):=H2.out.2.2.cell 8
    have lG1:G1 < w2.heap.size:=H2.out.2.2.lt
    have c2:w2.cell? ⟨R,1,none⟩=some (.int .i64 d):=H2.out.1.blk.cell 1
    have fR2:=H2.out.1.blk.free 1
    have lR2:R < w2.heap.size:=H2.out.1.blk.lt
    have f8:=H2.out.2.2.free 8
    have wd:IntKind.i64.wrap (a0.dep + n)=a0.dep + n:=IntWalk.i64_in _ ⟨by have:=HFA.out.1.d0; omega,by have:=HFA.out.1.d1; omega⟩
    go_wp2_with fail
    clear e0 e1 e2 e3 e4 e5 e6 e7 e8 lG1 c2 fR2 lR2 f8 wd
    have hb1:=HB1.out
    have h1:=H.out.1.next hb1
    have hB3:=(h1.blk.set_ 1 (.int .i64 (d + n))).alloc (.cells #[.int .i64 a0.o,.int .i64 a0.c,.int .i64 a0.st,.int .i64 a0.lv,.int .i64 a0.net,.int .i64 a0.tax,.int .i64 a0.ap,.int .i64 a0.wr,.int .i64 (a0.dep + n)] 164)
    have hT0:Touch (· = R) w ((w1.setCell ⟨R,1,none⟩ (.int .i64 (d + n))).alloc (.cells #[.int .i64 a0.o,.int .i64 a0.c,.int .i64 a0.st,.int .i64 a0.lv,.int .i64 a0.net,.int .i64 a0.tax,.int .i64 a0.ap,.int .i64 a0.wr,.int .i64 (a0.dep + n)] 164)):=((Touch.of_below hb1).then (Touch.setCell w1 R 1 (.int .i64 (d + n)))).alloc _
    have h3:=H.out.1.turn hT0 (fun k hk => .inl hk) hB3
    have HNX:=hid (rcv_next (c:=c) (d:=d) (n:=n) HFA.out.1 (by omega) (by have:=HFA.out.2.2; have:=HFA.out.1.wt0; have:=HR.out; omega))
    have hbo:(rcvB a0 n).o=o:=HFA.out.2.1
    have K:=hid (rapply_any h3 H.out.2.1 (rcvB a0 n) hl (Nat.le_trans H.out.2.2 hT0.size) ⟨HFA.out.1.small.n,HFA.out.1.small.t,HFA.out.1.small.p,HFA.out.1.small.w⟩ HNX.out.2.1.fit.small ⟨by have:=HFA.out.1.d0; simp only [rcvB]; omega,by have:=HFA.out.1.d1; simp only [rcvB]; omega⟩ ⟨by have:=HFA.out.1.open0; simp only [openC,rcvB] at *; omega,by have:=HFA.out.1.open0; simp only [openC,rcvB] at *; omega⟩ ⟨by have:=HG.out.d0; omega,by have:=HG.out.d1; omega⟩)
    rw [hbo] at K
    have HT0:=hid hT0
    clear hB3 h3 hT0 hbo hb1 h1 w0  c1 lR fR
    generalize (w1.setCell ⟨R,1,none⟩ (.int .i64 (d + n))).alloc (.cells #[.int .i64 a0.o,.int .i64 a0.c,.int .i64 a0.st,.int .i64 a0.lv,.int .i64 a0.net,.int .i64 a0.tax,.int .i64 a0.ap,.int .i64 a0.wr,.int .i64 (a0.dep + n)] 164)=w3 at K HT0 ⊢
    simp only [celC] at K
    refine K.out.mono ?_
    rintro e w5 ⟨rfl,hP⟩
    have HP:=hid (PostR.after HT0.out hP)
    clear K hP
    go_wp2_with fail
    go_ret2
    have hp:=HP.out
    rw [show d + n=d + n from rfl] at hp
    exact ⟨rfl,hp⟩
  ·rw [if_pos (fun e=>hc e)]
   have tc:(a0.c != c)=true:=by simpa using hc
   clear hc
   simp only [celC] at O
   go_enter Tryz.func34,Tryz.ntmps34
   go_wp2_with fail
   refine O.out.mono ?_
   rintro e w1 ⟨rfl,hb1⟩
   obtain ⟨hr2,hb2⟩:=W.out w1 hb1
   have hG2:=Blk.new w1 164 #[.int .i64 a0.o,.int .i64 a0.c,.int .i64 a0.st,.int .i64 a0.lv,.int .i64 a0.net,.int .i64 a0.tax,.int .i64 a0.ap,.int .i64 a0.wr,.int .i64 a0.dep]
   obtain ⟨w2,hw2⟩:∃ w2,w2=w1.alloc (.cells #[.int .i64 a0.o,.int .i64 a0.c,.int .i64 a0.st,.int .i64 a0.lv,.int .i64 a0.net,.int .i64 a0.tax,.int .i64 a0.ap,.int .i64 a0.wr,.int .i64 a0.dep] 164):=⟨_,rfl⟩
   obtain ⟨G1,hG1⟩:∃ G1,G1=w1.heap.size:=⟨_,rfl⟩
   have hGR:G1 ≠ R:=by have:=(H.out.1.next hb1).blk.lt; omega
   have hGw:w.heap.size≤G1:=by rw [hG1]; exact hb1.size
   have c1:w1.cell? ⟨R,1,none⟩=some (.int .i64 d):=(H.out.1.next hb1).blk.cell 1
   have lR:R < w1.heap.size:=(H.out.1.next hb1).blk.lt
   have fR:=(H.out.1.next hb1).blk.free 1
   rw [← hw2] at hr2 hb2 hG2
   rw [← hG1] at hG2
   have HW2:=hid hw2
   have HG1:=hid hG1
   have HB1:=hid hb1
   have H2:=hid (And.intro hr2 (And.intro hb2 hG2))
   clear hr2 hb2 hG2 hw2 hG1 hb1 W O
   go_wp2_with fail
   go_ret2
   rw [← HW2.out]
   exact ⟨rfl,PostR.same H.out.1 H.out.2.1 o H2.out.2.1⟩
 ·have e:rcvR F d o c n=noC 2 d:=by unfold rcvR; rw [if_neg hok]
  rw [e]
  have HH:=hid (PostR.same h hF o (Below.refl _ _))
  unfold okRcv at hok
  clear h hF hg hl hbw e
  rcases (show (o < 1)∨((1≤o)∧c < 1)∨((1≤o)∧(1≤c)∧64 < c)∨((1≤o)∧(1≤c)∧(c≤64)∧n < 1)∨((1≤o)∧(1≤c)∧(c≤64)∧(1≤n)∧281474976710656 < n) from by omega) with j0 | ⟨j0,j1⟩ | ⟨j0,j1,j2⟩ | ⟨j0,j1,j2,j3⟩ | ⟨j0,j1,j2,j3,j4⟩
  ·have t0:decide (o < 1)=true:=decide_eq_true (by omega)
   clear hok
   go_enter Tryz.func34,Tryz.ntmps34
   go_wp2_with fail
   go_ret2
   exact ⟨rfl,HH.out⟩
  ·have t0:decide (o < 1)=false:=decide_eq_false (by omega)
   have t1:decide (c < 1)=true:=decide_eq_true (by omega)
   clear hok
   go_enter Tryz.func34,Tryz.ntmps34
   go_wp2_with fail
   go_ret2
   exact ⟨rfl,HH.out⟩
  ·have t0:decide (o < 1)=false:=decide_eq_false (by omega)
   have t1:decide (c < 1)=false:=decide_eq_false (by omega)
   have t2:decide (64 < c)=true:=decide_eq_true (by omega)
   clear hok
   go_enter Tryz.func34,Tryz.ntmps34
   go_wp2_with fail
   go_ret2
   exact ⟨rfl,HH.out⟩
  ·have t0:decide (o < 1)=false:=decide_eq_false (by omega)
   have t1:decide (c < 1)=false:=decide_eq_false (by omega)
   have t2:decide (64 < c)=false:=decide_eq_false (by omega)
   have t3:decide (n < 1)=true:=decide_eq_true (by omega)
   clear hok
   go_enter Tryz.func34,Tryz.ntmps34
   go_wp2_with fail
   go_ret2
   exact ⟨rfl,HH.out⟩
  ·have t0:decide (o < 1)=false:=decide_eq_false (by omega)
   have t1:decide (c < 1)=false:=decide_eq_false (by omega)
   have t2:decide (64 < c)=false:=decide_eq_false (by omega)
   have t3:decide (n < 1)=false:=decide_eq_false (by omega)
   have t4:decide (281474976710656 < n)=true:=decide_eq_true (by omega)
   clear hok
   go_enter Tryz.func34,Tryz.ntmps34
   go_wp2_with fail
   go_ret2
   exact ⟨rfl,HH.out⟩
end
end Go.Proofs.YtakaalldbnklcaaGreat.Mo
namespace Go.Proofs.YtakaalldbnklcaaGreat.Mo
open Go.RowKit Go.WideShapes Go.ChangeShapes Go.ChangeAt Go.Deep
set_option linter.unusedVariables false
section
variable {base R cap:Nat} {A:Option Addr} {L:List Ca} {d d':Int} {w w' w4 wr:World} {F:Int→Option Ca}
structure GoodG (F:Int→Option Ca) (d:Int):Prop where
 fit:∀ o a,F o=some a→FitC a∧wt a≤d
 d0:0≤d
 d1:d≤1152921504606846976
theorem GoodC.goodG {ac:List (Int × CP)} {d:Int} (h:GoodC ac d):GoodG (cfind ac) d:=⟨fun o a ha=>by have:=h.of o 0 ha; exact ⟨this.1,Int.le_trans this.2.2 h.tot⟩,h.d0,h.d1⟩
theorem PostR.setK {o:Int} {k:Nat} {a b:Ca} (hF:RelC F L) (hk:L[k]?=some a) (hb:b.o=a.o) (ho:a.o=o) (hR:R < base) (hB:Blk w' R 88 #[.slice A L.length cap,.int .i64 d']) (hO:w'.ownsRow base 164 9 (.slice A (L.set k b).length cap) (L.set k b).length ((L.set k b).flatMap enC9)) (hT:Touch (RT w.heap.size R A) w w'):PostR base R A L F o (some b) d' w w':=by
 have hin:b.o ∈ L.map Ca.o:=by rw [hb]; exact List.mem_map_of_mem (List.mem_of_getElem? hk)
 have hu:=updK_set linI hF.sorted hk (e:=b) hb.symm
 refine ⟨A,cap,L.set k b,⟨by rw [List.length_set]; exact hB,hO,hR⟩, ?_,by rw [List.length_set]; omega,hT⟩
 have:=hF.put (a:=b) (L':=L.set k b) (fun _=>hu.symm) (fun hh=>absurd hin hh)
 rwa [hb,ho] at this
set_option maxRecDepth 100000 in
set_option maxHeartbeats 16000000 in
theorem rref_any (h:IsRf base w R A cap L d) (hF:RelC F L) (hg:GoodG F d) (hl:L.length≤140737488355328) (hbw:base≤w.heap.size) (o:Int) :
  Calls Tryz.prog 143 #[.pointer (some ⟨R,0,none⟩),.int .i64 o] w fun e w'=>e = .returned (.tuple #[.int .i64 (refR F d o).1,.int .i64 (refR F d o).2.code])∧PostR base R A L F o (refR F d o).2.acc (refR F d o).2.d w w':=by
 have K:=rfind_any h o hl
 rcases hF.at_ o with ⟨k,a,hkl,hk,hf,hao,hp⟩ | ⟨hf,hp⟩
 ·obtain ⟨hfit,hwt⟩:=hg.fit o a hf
  obtain ⟨g,hA,hbg,hpr⟩:=h.elem hk
  subst hA
  rw [hp] at K
  have e:refR F d o=if 576460752303423488 - a.dep < d then (0,noC 72 d) else (a.dep,⟨false,0,some (refB a),d + a.dep⟩):=by unfold refR; rw [hf]
  rw [e]
  replace K:=hid K
  have t0:decide ((k:Int) < 0)=false:=decide_eq_false (by omega)
  have c0:w.cell? ⟨R,0,none⟩=some (.slice (some ⟨g,0,none⟩) L.length cap):=h.blk.cell 0
  have c1:w.cell? ⟨R,1,none⟩=some (.int .i64 d):=h.blk.cell 1
  have p8:w.cell? ⟨g,k * 9 + 8,none⟩=some (.int .i64 a.dep):=hpr.2 8 _ rfl
  have f8:=own_free h.own (k * 9 + 8)
  have fR:=h.blk.free 1
  have lR:=h.blk.lt
  have lg:=hpr.1
  have hRg:g ≠ R:=by have:=h.lt; omega
  have wn:IntKind.i64.wrap (d + a.dep)=d + a.dep:=IntWalk.i64_in _ ⟨by have:=hg.d0; have:=hfit.d0; omega,by have:=hg.d1; have:=hfit.d1; omega⟩
  have HX:=hid (And.intro h (And.intro hF (And.intro hk (And.intro hao hbg))))
  clear hF hg hk hf hao hp hfit hwt hpr e
  by_cases hr:576460752303423488 - a.dep < d
  ·rw [if_pos hr]
   have tr:decide (576460752303423488 < d + a.dep)=true:=decide_eq_true (by omega)
   clear hr h
   go_enter Tryz.func143,Tryz.ntmps143
   go_wp2_with fail
   refine K.out.mono ?_
   rintro e w1 ⟨rfl,rfl⟩
   go_wp2_with fail
   go_ret2
   exact ⟨rfl,PostR.same HX.out.1 HX.out.2.1 o (Below.refl _ _)⟩
  ·rw [if_neg hr]
   have tr:decide (576460752303423488 < d + a.dep)=false:=decide_eq_false (by omega)
   have hB:=(h.blk.set_ 1 (.int .i64 (d + a.dep)))
   have hO1:=own_touch h.own (Touch.setCell w R 1 (.int .i64 (d + a.dep))) (fun g' hg' e=>by have:=(h.own.lt g' hg').1; have:=h.lt; omega)
   have hO:=own_field enC9_len hO1 (k:=k) (j:=8) (x:=a) (x':=refB a) (v:=.int .i64 0) HX.out.2.2.1 (by omega) rfl
   have HO:=hid (And.intro hO.1 (And.intro (hB.far (p:=⟨g,k * 9 + 8,none⟩) hRg.symm (.int .i64 0)) (((Touch.setCell w R 1 (.int .i64 (d + a.dep))).mono (fun k' hk'=>(.inl hk':RT w.heap.size R (some ⟨g,0,none⟩) k'))).then ((Touch.of_grown hO.2).mono (fun k' hk' => .inr (.inl (by rw [hk']; rfl)))))))
   clear hr h hB hO1 hO
   go_enter Tryz.func143,Tryz.ntmps143
   go_wp2_with fail
   refine K.out.mono ?_
   rintro e w1 ⟨rfl,rfl⟩
   go_wp2_with fail
   go_ret2
   exact ⟨rfl,PostR.setK HX.out.2.1 HX.out.2.2.1 rfl HX.out.2.2.2.1 HX.out.1.lt HO.out.2.1 HO.out.1 HO.out.2.2⟩
 ·have e:refR F d o=(0,noC 70 d):=by unfold refR; rw [hf]
  rw [e]
  rw [hp] at K
  replace K:=hid K
  have H:=hid (And.intro h hF)
  clear h hF hg hf hp e
  go_enter Tryz.func143,Tryz.ntmps143
  go_wp2_with fail
  refine K.out.mono ?_
  rintro e w1 ⟨rfl,rfl⟩
  go_wp2_with fail
  go_ret2
  exact ⟨rfl,PostR.same H.out.1 H.out.2 o (Below.refl _ _)⟩
end
end Go.Proofs.YtakaalldbnklcaaGreat.Mo
namespace Go.Proofs.YtakaalldbnklcaaGreat.Mo
open Go.RowKit Go.WideShapes Go.ChangeShapes Go.ChangeAt Go.Deep
set_option linter.unusedVariables false
section
variable {base R cap:Nat} {A:Option Addr} {L:List Ca} {d d':Int} {w w' w4 wr:World} {F:Int→Option Ca}
set_option maxRecDepth 100000 in
set_option maxHeartbeats 16000000 in
theorem rmem_any (h:IsRf base w R A cap L d) (hF:RelC F L) (hg:GoodG F d) (hl:L.length≤140737488355328) (hbw:base≤w.heap.size) (o:Int) :
  Calls Tryz.prog 142 #[.pointer (some ⟨R,0,none⟩),.int .i64 o] w fun e w'=>e = .returned (.int .i64 (memR F d o).code)∧PostR base R A L F o (memR F d o).acc (memR F d o).d w w':=by
 have K:=rfind_any h o hl
 rcases hF.at_ o with ⟨k,a,hkl,hk,hf,hao,hp⟩ | ⟨hf,hp⟩
 ·obtain ⟨hfit,hwt⟩:=hg.fit o a hf
  obtain ⟨g,hA,hbg,hpr⟩:=h.elem hk
  subst hA
  rw [hp] at K
  have e:memR F d o=if a.st ≠ 1 then noC 130 d else if 576460752303423488 - (a.net + a.tax) < d then noC 72 d else ⟨false,0,some (memB a),d + (a.net + a.tax)⟩:=by unfold memR; rw [hf]
  rw [e]
  replace K:=hid K
  have t0:decide ((k:Int) < 0)=false:=decide_eq_false (by omega)
  have c0:w.cell? ⟨R,0,none⟩=some (.slice (some ⟨g,0,none⟩) L.length cap):=h.blk.cell 0
  have p0:w.cell? ⟨g,k * 9,none⟩=some (.int .i64 a.o):=hpr.2 0 _ rfl
  have p1:w.cell? ⟨g,k * 9 + 1,none⟩=some (.int .i64 a.c):=hpr.2 1 _ rfl
  have p2:w.cell? ⟨g,k * 9 + 2,none⟩=some (.int .i64 a.st):=hpr.2 2 _ rfl
  have p3:w.cell? ⟨g,k * 9 + 3,none⟩=some (.int .i64 a.lv):=hpr.2 3 _ rfl
  have p4:w.cell? ⟨g,k * 9 + 4,none⟩=some (.int .i64 a.net):=hpr.2 4 _ rfl
  have p5:w.cell? ⟨g,k * 9 + 5,none⟩=some (.int .i64 a.tax):=hpr.2 5 _ rfl
  have p6:w.cell? ⟨g,k * 9 + 6,none⟩=some (.int .i64 a.ap):=hpr.2 6 _ rfl
  have p7:w.cell? ⟨g,k * 9 + 7,none⟩=some (.int .i64 a.wr):=hpr.2 7 _ rfl
  have p8:w.cell? ⟨g,k * 9 + 8,none⟩=some (.int .i64 a.dep):=hpr.2 8 _ rfl
  have lR:R < w.heap.size:=h.blk.lt
  have lg:g < w.heap.size:=hpr.1
  have HX:=hid (And.intro h (And.intro hF (And.intro hk (And.intro hao (And.intro hfit hpr)))))
  have HG:=hid (And.intro hg.d0 hg.d1)
  clear h hF hg hk hf hao hp hfit hwt hpr e
  by_cases hs:a.st=1
  ·rw [if_neg (fun e=>e hs)]
   have ts:(a.st != 1)=false:=by simp [hs]
   have w0:IntKind.i64.wrap (d + a.net)=d + a.net:=IntWalk.i64_in _ ⟨by have:=HG.out; have:=HX.out.2.2.2.2.1.n0; omega,by have:=HG.out; have:=HX.out.2.2.2.2.1.n1; omega⟩
   have w00:IntKind.i64.wrap (d + a.net + a.tax)=d + a.net + a.tax:=IntWalk.i64_in _ ⟨by have:=HG.out; have:=HX.out.2.2.2.2.1.n0; have:=HX.out.2.2.2.2.1.t0; omega,by have:=HG.out; have:=HX.out.2.2.2.2.1.n1; have:=HX.out.2.2.2.2.1.t1; omega⟩
   have wda:IntKind.i64.wrap (a.dep + a.ap)=a.dep + a.ap:=IntWalk.i64_in _ ⟨by have:=HX.out.2.2.2.2.1.d0; have:=HX.out.2.2.2.2.1.p0; omega,by have:=HX.out.2.2.2.2.1.d1; have:=HX.out.2.2.2.2.1.small.p; omega⟩
   have HSS:=hid hs
   obtain ⟨W1,hW1⟩:∃ W1,W1=(w.alloc (.cells #[.int .i64 a.o,.int .i64 a.c,.int .i64 a.st,.int .i64 a.lv,.int .i64 a.net,.int .i64 a.tax,.int .i64 a.ap,.int .i64 a.wr,.int .i64 a.dep] 164)):=⟨_,rfl⟩
   obtain ⟨G1,hG1⟩:∃ G1,G1=w.heap.size:=⟨_,rfl⟩
   have hB1:Blk W1 G1 164 (celC a):=by rw [hW1,hG1]; exact Blk.new _ _ _
   have hb1:Below w.heap.size w W1:=by rw [hW1]; exact (Below.refl _ _).alloc (Nat.le_refl _) _
   have hGR:G1 ≠ R:=by omega
   have HW1:=hid hW1
   have HG1:=hid hG1
   have hbd:Below w.heap.size w W1.drew:=hb1.trans ((below_drewN (Below.refl _ _) 1:Below W1.heap.size W1 W1.drew).mono hb1.size)
   have hB2:Blk W1.drew G1 164 (celC a):=hB1.next (below_drewN (Below.refl _ _) 1)
   obtain ⟨W2,hW2⟩:∃ W2,W2=W1.drew:=⟨_,rfl⟩
   rw [← hW2] at hbd hB2
   have h2:=HX.out.1.next hbd
   obtain ⟨C,hCd⟩:∃ C:World→Prop,∀ w',C w' ↔ w'=W2:=⟨_,fun _=>Iff.rfl⟩
   have hC:C W1.drew:=(hCd _).2 hW2.symm
   have q1:∀ p:In C,p.w.cell? ⟨R,1,none⟩=some (.int .i64 d):=fun p=>by rw [(hCd _).1 p.h]; exact h2.blk.cell 1
   have q4:∀ p:In C,p.w.cell? ⟨G1,4,none⟩=some (.int .i64 a.net):=fun p=>by rw [(hCd _).1 p.h]; exact hB2.cell 4
   have q5:∀ p:In C,p.w.cell? ⟨G1,5,none⟩=some (.int .i64 a.tax):=fun p=>by rw [(hCd _).1 p.h]; exact hB2.cell 5
   have HC:=hid hCd
   have H2:=hid (And.intro h2 (And.intro hbd hB2))
   clear hs hW1 hG1 hB1 hb1 hbd hB2 hW2 h2 hCd
   by_cases hr:576460752303423488 - (a.net + a.tax) < d
   ·rw [if_pos hr]
    have tr:decide (576460752303423488 < d + a.net + a.tax)=true:=decide_eq_true (by omega)
    clear hr
    go_enter Tryz.func142,Tryz.ntmps142
    go_wp2_with fail
    refine K.out.mono ?_
    rintro e w1 ⟨rfl,rfl⟩
    go_wp2_with fail
    rw [← HW1.out, ← HG1.out]
    refine wp_region_in C (by kernel_rfl) (by kernel_rfl) hC ?_
    intro hne
    clear hC c0 p0 p1 p2 p3 p4 p5 p6 p7 p8
    repeat (first | go_big_quiet_step (fail) | quiet_step (fail))
    refine wpQuiet_nil ?_
    intro wq hq
    obtain rfl:=(HC.out _).1 hq
    clear q1 q4 q5 hne hq HC
    go_wp2_with fail
    go_ret
    exact ⟨rfl,PostR.same HX.out.1 HX.out.2.1 o H2.out.2.1⟩
   ·rw [if_neg hr]
    have tr:decide (576460752303423488 < d + a.net + a.tax)=false:=decide_eq_false (by omega)
    have HR:=hid hr
    clear hr
    go_enter Tryz.func142,Tryz.ntmps142
    go_wp2_with fail
    refine K.out.mono ?_
    rintro e w1 ⟨rfl,rfl⟩
    go_wp2_with fail
    rw [← HW1.out, ← HG1.out]
    refine wp_region_in C (by kernel_rfl) (by kernel_rfl) hC ?_
    intro hne
    clear hC c0 p0 p1 p2 p3 p4 p5 p6 p7 p8
    repeat (first | go_big_quiet_step (fail) | quiet_step (fail))
    refine wpQuiet_nil ?_
    intro wq hq
    obtain rfl:=(HC.out _).1 hq
    clear q1 q4 q5 hne hq HC
    have c1:wq.cell? ⟨R,1,none⟩=some (.int .i64 d):=H2.out.1.blk.cell 1
    have fR:=H2.out.1.blk.free 1
    have lR2:=H2.out.1.blk.lt
    have e4:wq.cell? ⟨G1,4,none⟩=some (.int .i64 a.net):=H2.out.2.2.cell 4
    have e5:wq.cell? ⟨G1,5,none⟩=some (.int .i64 a.tax):=H2.out.2.2.cell 5
    have lG:=H2.out.2.2.lt
    go_wp2_with fail
    refine wp_tail 13 (by kernel_rfl) (by kernel_rfl) ?_
    simp only [List.take_succ_cons,List.take_zero,List.drop_succ_cons,List.drop_zero]
    repeat still_step
    refine wpStill_nil ?_
    have hbq:Below wq.heap.size wq wq.drew:=below_drewN (Below.refl _ _) 1
    have hG3:Blk (wq.drew.setCell ⟨R,1,none⟩ (.int .i64 (d + a.net + a.tax))) G1 164 (celC a):=(H2.out.2.2.next hbq).far hGR _
    have hT3:Touch (· = R) w (wq.drew.setCell ⟨R,1,none⟩ (.int .i64 (d + a.net + a.tax))):=((Touch.of_below H2.out.2.1).then (.of_below hbq)).then (Touch.setCell _ R 1 _)
    have hR3:Blk (wq.drew.setCell ⟨R,1,none⟩ (.int .i64 (d + a.net + a.tax))) R 88 #[.slice (some ⟨g,0,none⟩) L.length cap,.int .i64 (d + a.net + a.tax)]:=((H2.out.1.next hbq).blk.set_ 1 (.int .i64 (d + a.net + a.tax)))
    have H3:=hid (And.intro hG3 (And.intro hT3 hR3))
    clear hbq hG3 hT3 hR3
    have e8:wq.cell? ⟨G1,8,none⟩=some (.int .i64 a.dep):=H2.out.2.2.cell 8
    have e6:wq.cell? ⟨G1,6,none⟩=some (.int .i64 a.ap):=H2.out.2.2.cell 6
    have e7:wq.cell? ⟨G1,7,none⟩=some (.int .i64 a.wr):=H2.out.2.2.cell 7
    have e2:wq.cell? ⟨G1,2,none⟩=some (.int .i64 a.st):=H2.out.2.2.cell 2
    have f8:=H2.out.2.2.free 8
    have f6:=H2.out.2.2.free 6
    have f7:=H2.out.2.2.free 7
    have f2:=H2.out.2.2.free 2
    go_wp2_with fail
    have hG4:Blk ((((((wq.setCell ⟨R,1,none⟩ (.int .i64 (d + a.net + a.tax))).setCell ⟨G1,8,none⟩ (.int .i64 (a.dep + a.ap))).setCell ⟨G1,6,none⟩ (.int .i64 0)).setCell ⟨G1,7,none⟩ (.int .i64 0)).setCell ⟨G1,2,none⟩ (.int .i64 2)).drew) G1 164 (celC (memB a)):=(((H3.out.1.set_ 8 (.int .i64 (a.dep + a.ap))).set_ 6 (.int .i64 0)).set_ 7 (.int .i64 0)).set_ 2 (.int .i64 2)
    have hT4:Touch (· = R) w ((((((wq.setCell ⟨R,1,none⟩ (.int .i64 (d + a.net + a.tax))).setCell ⟨G1,8,none⟩ (.int .i64 (a.dep + a.ap))).setCell ⟨G1,6,none⟩ (.int .i64 0)).setCell ⟨G1,7,none⟩ (.int .i64 0)).setCell ⟨G1,2,none⟩ (.int .i64 2)).drew):=H3.out.2.1.trans ((((Touch.setCell _ G1 8 (.int .i64 (a.dep + a.ap))).then (Touch.setCell _ G1 6 (.int .i64 0))).then (Touch.setCell _ G1 7 (.int .i64 0))).then (Touch.setCell _ G1 2 (.int .i64 2))) (fun k' hk' => .inr (by rw [hk',HG1.out]; exact Nat.le_refl _))
    have hR4:Blk ((((((wq.setCell ⟨R,1,none⟩ (.int .i64 (d + a.net + a.tax))).setCell ⟨G1,8,none⟩ (.int .i64 (a.dep + a.ap))).setCell ⟨G1,6,none⟩ (.int .i64 0)).setCell ⟨G1,7,none⟩ (.int .i64 0)).setCell ⟨G1,2,none⟩ (.int .i64 2)).drew) R 88 #[.slice (some ⟨g,0,none⟩) L.length cap,.int .i64 (d + a.net + a.tax)]:=(((H3.out.2.2.far (p:=⟨G1,8,none⟩) hGR.symm _).far (p:=⟨G1,6,none⟩) hGR.symm _).far (p:=⟨G1,7,none⟩) hGR.symm _).far (p:=⟨G1,2,none⟩) hGR.symm _
    have h4:=HX.out.1.turn hT4 (fun k' hk' => .inl hk') hR4
    clear e2 e4 e5 e6 e7 e8 f2 f6 f7 f8 c1 fR lR2 lG lR lg w0 w00 wda H3 hR4
    generalize (((((wq.setCell ⟨R,1,none⟩ (.int .i64 (d + a.net + a.tax))).setCell ⟨G1,8,none⟩ (.int .i64 (a.dep + a.ap))).setCell ⟨G1,6,none⟩ (.int .i64 0)).setCell ⟨G1,7,none⟩ (.int .i64 0)).setCell ⟨G1,2,none⟩ (.int .i64 2)).drew=w4 at hG4 hT4 h4 ⊢
    obtain ⟨b,hb0⟩:∃ b,b=memB a:=⟨_,rfl⟩
    have HBB:=hid hb0
    rw [← hb0] at hG4
    have c0:w4.cell? ⟨R,0,none⟩=some (.slice (some ⟨g,0,none⟩) L.length cap):=h4.blk.cell 0
    have e0:w4.cell? ⟨G1,0,none⟩=some (.int .i64 b.o):=hG4.cell 0
    have e1:w4.cell? ⟨G1,1,none⟩=some (.int .i64 b.c):=hG4.cell 1
    have e2:w4.cell? ⟨G1,2,none⟩=some (.int .i64 b.st):=hG4.cell 2
    have e3:w4.cell? ⟨G1,3,none⟩=some (.int .i64 b.lv):=hG4.cell 3
    have e4:w4.cell? ⟨G1,4,none⟩=some (.int .i64 b.net):=hG4.cell 4
    have e5:w4.cell? ⟨G1,5,none⟩=some (.int .i64 b.tax):=hG4.cell 5
    have e6:w4.cell? ⟨G1,6,none⟩=some (.int .i64 b.ap):=hG4.cell 6
    have e7:w4.cell? ⟨G1,7,none⟩=some (.int .i64 b.wr):=hG4.cell 7
    have e8:w4.cell? ⟨G1,8,none⟩=some (.int .i64 b.dep):=hG4.cell 8
    have lG:=hG4.lt
    have lR:=h4.blk.lt
    have hbd:Below w4.heap.size w4 w4.drew:=below_drewN (Below.refl _ _) 1
    obtain ⟨g',hA',_,hpr4⟩:=h4.elem HX.out.2.2.1
    obtain rfl:g'=g:=by injection hA' with e; injection e with e; exact e.symm
    have HTH:=hid (show (w4.drew).there g' (k * 9) 9 from fun j hj=>⟨by
     obtain ⟨u,hu⟩:∃ u,(enC9 a)[j]?=some u:=⟨_,List.getElem?_eq_getElem (by rw [enC9_len]; exact hj)⟩
     have:=hpr4.2 j u hu
     show (w4.cell? ⟨g',k * 9 + j,none⟩).isSome=true
     rw [this]; rfl,own_free h4.own (k * 9 + j)⟩)
    have hJ:=own_set enC9_len (h4.next hbd).own (k:=k) hkl b
    have lg:=hpr4.1
    have HJ:=hid (And.intro hJ (And.intro ((h4.next hbd).blk) ((hT4.mono (fun k' hk'=>(.inl hk':RT w.heap.size R (some ⟨g',0,none⟩) k'))).then (.of_below hbd))))
    have hgR:g' ≠ R:=by have h1:=h4.lt; have h2:=(h4.own.lt g' rfl).1; omega
    clear hb0 hG4 hT4 h4 hbd hpr4 hJ hA'
    refine wp_tail 7 (by kernel_rfl) (by kernel_rfl) ?_
    simp only [List.take_succ_cons,List.take_zero,List.drop_succ_cons,List.drop_zero]
    repeat still_step
    refine wpStill_nil ?_
    refine wpList_store_mid rfl 164 _ _ rfl g' (k * 9) #[.int .i64 b.o,.int .i64 b.c,.int .i64 b.st,.int .i64 b.lv,.int .i64 b.net,.int .i64 b.tax,.int .i64 b.ap,.int .i64 b.wr,.int .i64 b.dep] rfl rfl HTH.out (by kernel_rfl) (by simp [Value.oneCell']) ?_
    rw [setCells_many]
    clear c0 e0 e1 e2 e3 e4 e5 e6 e7 e8 lG lR lg
    go_wp2_with fail
    go_ret
    have hTt:=Touch.of_grown HJ.out.1.2
    have hE:d + a.net + a.tax=d + (a.net + a.tax):=by omega
    have hfin:PostR base R (some ⟨g',0,none⟩) L F o (some b) (d + a.net + a.tax) w (storeMany w4.drew g' (k * 9) (enC9 b)):=PostR.setK HX.out.2.1 HX.out.2.2.1 (by rw [HBB.out]; rfl) HX.out.2.2.2.1 HX.out.1.lt (hTt.blk HJ.out.2.1 (fun e=>hgR e.symm)) HJ.out.1.1 (HJ.out.2.2.then (hTt.mono (fun k' hk' => .inr (.inl (by rw [hk']; rfl)))))
    rw [hE,HBB.out] at hfin
    exact ⟨rfl,by rw [HBB.out]; exact hfin⟩
  ·rw [if_pos hs]
   have ts:(a.st != 1)=true:=by simpa using hs
   clear hs
   go_enter Tryz.func142,Tryz.ntmps142
   go_wp2_with fail
   refine K.out.mono ?_
   rintro e w1 ⟨rfl,rfl⟩
   go_wp2_with fail
   go_ret
   exact ⟨rfl,PostR.same HX.out.1 HX.out.2.1 o ((Below.refl _ _).alloc (Nat.le_refl _) _)⟩
 ·have e:memR F d o=noC 70 d:=by unfold memR; rw [hf]
  rw [e]
  rw [hp] at K
  replace K:=hid K
  have H:=hid (And.intro h hF)
  clear h hF hg hf hp e
  go_enter Tryz.func142,Tryz.ntmps142
  go_wp2_with fail
  refine K.out.mono ?_
  rintro e w1 ⟨rfl,rfl⟩
  go_wp2_with fail
  go_ret
  exact ⟨rfl,PostR.same H.out.1 H.out.2 o (Below.refl _ _)⟩
end
end Go.Proofs.YtakaalldbnklcaaGreat.Mo
namespace Go.Proofs.YtakaalldbnklcaaGreat.Mo
open Go.RowKit Go.WideShapes Go.ChangeShapes Go.ChangeAt Go.Deep
set_option linter.unusedVariables false
section
variable {base R cap:Nat} {A:Option Addr} {L:List Ca} {d d':Int} {w w' w4 wr:World} {F:Int→Option Ca}
end
end Go.Proofs.YtakaalldbnklcaaGreat.Mo
namespace Go.Proofs.YtakaalldbnklcaaGreat.Mo
open Go.RowKit Go.WideShapes Go.ChangeShapes Go.ChangeAt Go.Deep
set_option linter.unusedVariables false
section
variable {base R cap:Nat} {A:Option Addr} {L:List Ca} {d d':Int} {w w' w4 wr:World} {F:Int→Option Ca}
end
end Go.Proofs.YtakaalldbnklcaaGreat.Mo
namespace Go.Proofs.YtakaalldbnklcaaGreat
open Go.RowKit Go.WideShapes Go.ChangeShapes Go.ChangeAt Go.Deep
set_option linter.unusedVariables false
structure RdI where
 R:Nat
 RC:Nat
 RS:Nat
 RM:Nat
 RO:Nat
 RI:Nat
structure RdX where
 ps:List Cr.Pa
 hr:List Cr.Hd
 is:List (Int × Int)
 rs:List Sk.Gd
 L:List Mo.Ca
 d:Int
 its:List (Int × Int)
 ro:List Or.Od
 re:List In.Ent
structure RD (n0 base:Nat) (w:World) (J:RdI) (y:RdX):Prop where
 blk:Blk w J.R 99 #[.pointer (some ⟨J.RC,0,none⟩),.pointer (some ⟨J.RS,0,none⟩),.pointer (some ⟨J.RM,0,none⟩),.pointer (some ⟨J.RO,0,none⟩),.pointer (some ⟨J.RI,0,none⟩)]
 cr:∃ A1 c1 A2 c2,Cr.IsRef base w J.RC A1 c1 y.ps A2 c2 y.hr
 sk:∃ A1 c1 A2 c2,Sk.IsRef base w J.RS A1 c1 y.is A2 c2 y.rs
 mo:∃ A c,Mo.IsRf base w J.RM A c y.L y.d
 od:∃ A1 c1 A2 c2,Or.IsRef base w J.RO A1 c1 y.its A2 c2 y.ro
 ib:∃ A c,In.IsRef base w J.RI A c y.re
 lo:(n0≤base∧n0≤J.RC∧n0≤J.RS∧n0≤J.RM∧n0≤J.RO∧n0≤J.RI)∧base≤w.heap.size
def TC:List TypeId:=[79,150,151]
def TS:List TypeId:=[84,203,158]
def TM:List TypeId:=[88,164]
def TO:List TypeId:=[93,202,168]
def TI:List TypeId:=[97,171]
def TD:List TypeId:=TC++TS++TM++TO++TI
structure Rel (x:DkX) (y:RdX):Prop where
 cr:Cr.RelB x.ac x.hs y.ps y.hr
 sk:Sk.RelS x.lv x.gs y.is y.rs
 mo:Mo.RelC (Mo.cfind x.ca) y.L
 md:y.d=x.d
 od:Or.RelO x.pr x.os y.its y.ro
 ib:In.RelM x.m y.re
section
variable {n0 base:Nat} {w w':World} {J:RdI} {y:RdX}
theorem Cr.rk1 {R c1 c2:Nat} {A1 A2:Option Addr} {ps:List Cr.Pa} {hr:List Cr.Hd} (h:Cr.IsRef base w R A1 c1 ps A2 c2 hr) (hT:Touch (RT w.heap.size R A1) w w') (hl:n0≤base∧n0≤R):Touch (KindIn n0 w TC []) w w':=hT.kind (fun k hlt hk=>rt_kind h.blk h.own1 hlt hk (by simp [TC]) (by simp [TC]) hl)
theorem Cr.rk2 {R c1 c2:Nat} {A1 A2:Option Addr} {ps:List Cr.Pa} {hr:List Cr.Hd} (h:Cr.IsRef base w R A1 c1 ps A2 c2 hr) (hT:Touch (RT w.heap.size R A2) w w') (hl:n0≤base∧n0≤R):Touch (KindIn n0 w TC []) w w':=hT.kind (fun k hlt hk=>rt_kind h.blk h.own2 hlt hk (by simp [TC]) (by simp [TC]) hl)
theorem Sk.rk {R c1 c2:Nat} {A1 A2:Option Addr} {is:List (Int × Int)} {rs:List Sk.Gd} (h:Sk.IsRef base w R A1 c1 is A2 c2 rs) (hT:Touch (Sk.RT2 w.heap.size R A1 A2) w w') (hl:n0≤base∧n0≤R):Touch (KindIn n0 w TS []) w w':=hT.kind (fun k hlt hk=>by
 rcases hk with hk | hk
 ·exact rt_kind h.blk h.own1 hlt hk (by simp [TS]) (by simp [TS]) hl
 ·exact rt_kind h.blk h.own2 hlt hk (by simp [TS]) (by simp [TS]) hl)
theorem Mo.rk {R c:Nat} {A:Option Addr} {L:List Mo.Ca} {d:Int} (h:Mo.IsRf base w R A c L d) (hT:Touch (RT w.heap.size R A) w w') (hl:n0≤base∧n0≤R):Touch (KindIn n0 w TM []) w w':=hT.kind (fun k hlt hk=>rt_kind h.blk h.own hlt hk (by simp [TM]) (by simp [TM]) hl)
theorem Or.rk1 {R c1 c2:Nat} {A1 A2:Option Addr} {is:List (Int × Int)} {rs:List Or.Od} (h:Or.IsRef base w R A1 c1 is A2 c2 rs) (hT:Touch (RT w.heap.size R A1) w w') (hl:n0≤base∧n0≤R):Touch (KindIn n0 w TO []) w w':=hT.kind (fun k hlt hk=>rt_kind h.blk h.own1 hlt hk (by simp [TO]) (by simp [TO]) hl)
theorem Or.rk2 {R c1 c2:Nat} {A1 A2:Option Addr} {is:List (Int × Int)} {rs:List Or.Od} (h:Or.IsRef base w R A1 c1 is A2 c2 rs) (hT:Touch (RT w.heap.size R A2) w w') (hl:n0≤base∧n0≤R):Touch (KindIn n0 w TO []) w w':=hT.kind (fun k hlt hk=>rt_kind h.blk h.own2 hlt hk (by simp [TO]) (by simp [TO]) hl)
theorem In.rk {R c:Nat} {A:Option Addr} {r:List In.Ent} (h:In.IsRef base w R A c r) (hT:Touch (RT w.heap.size R A) w w') (hl:n0≤base∧n0≤R):Touch (KindIn n0 w TI []) w w':=hT.kind (fun k hlt hk=>rt_kind h.blk h.own hlt hk (by simp [TI]) (by simp [TI]) hl)
theorem RD.away (h:RD n0 base w J y) {m0:Nat} {T:List TypeId} {M:List Nat} (hT:Touch (KindIn m0 w T M) w w') (hd:∀ t ∈ 99 :: 205 :: TD,t ∉ T):RD n0 base w' J y:=by
 obtain ⟨a1,a2,a3,a4,hc⟩:=h.cr
 obtain ⟨b1,b2,b3,b4,hs⟩:=h.sk
 obtain ⟨m1,m2,hm⟩:=h.mo
 obtain ⟨o1,o2,o3,o4,ho⟩:=h.od
 obtain ⟨i1,i2,hi⟩:=h.ib
 exact ⟨hT.blk h.blk (KindIn.not_blk h.blk (hd _ (by simp))),⟨_,_,_,_,Cr.rstay hc hT (hd _ (by simp [TD,TC])) (hd _ (by simp [TD,TC])) (hd _ (by simp [TD,TC]))⟩,⟨_,_,_,_,Sk.rstay hs hT (hd _ (by simp [TD,TS])) (hd _ (by simp [TD,TS])) (hd _ (by simp [TD,TS])) (hd _ (by simp))⟩,
  ⟨_,_,Mo.rstay hm hT (hd _ (by simp [TD,TM])) (hd _ (by simp [TD,TM]))⟩,⟨_,_,_,_,Or.rstay ho hT (hd _ (by simp [TD,TO])) (hd _ (by simp [TD,TO])) (hd _ (by simp [TD,TO])) (hd _ (by simp))⟩,⟨_,_,In.rstay hi hT (hd _ (by simp [TD,TI])) (hd _ (by simp [TD,TI]))⟩,h.lo.1,Nat.le_trans h.lo.2 hT.size⟩
theorem RD.next (h:RD n0 base w J y) (hb:Below w.heap.size w w'):RD n0 base w' J y:=h.away (m0:=0) (T:=[]) (M:=[]) (.of_below hb) (fun t _=>by simp)
theorem RD.credit (h:RD n0 base w J y) {ps':List Cr.Pa} {hr':List Cr.Hd} (hI:∃ A1 c1 A2 c2,Cr.IsRef base w' J.RC A1 c1 ps' A2 c2 hr') (hT:Touch (KindIn n0 w TC []) w w'):RD n0 base w' J { y with ps:=ps',hr:=hr' }∧Touch (KindIn n0 w TD []) w w':=by
 obtain ⟨b1,b2,b3,b4,hs⟩:=h.sk
 obtain ⟨m1,m2,hm⟩:=h.mo
 obtain ⟨o1,o2,o3,o4,ho⟩:=h.od
 obtain ⟨i1,i2,hi⟩:=h.ib
 exact ⟨⟨hT.blk h.blk (KindIn.not_blk h.blk (by decide)),hI,⟨_,_,_,_,Sk.rstay hs hT (by decide) (by decide) (by decide) (by decide)⟩,⟨_,_,Mo.rstay hm hT (by decide) (by decide)⟩,⟨_,_,_,_,Or.rstay ho hT (by decide) (by decide) (by decide) (by decide)⟩,⟨_,_,In.rstay hi hT (by decide) (by decide)⟩,h.lo.1,Nat.le_trans h.lo.2 hT.size⟩,hT.kind (fun k _ hk=>hk.mono (by decide) (fun m hm=>hm))⟩
theorem RD.stock (h:RD n0 base w J y) {is':List (Int × Int)} {rs':List Sk.Gd} (hI:∃ A1 c1 A2 c2,Sk.IsRef base w' J.RS A1 c1 is' A2 c2 rs') (hT:Touch (KindIn n0 w TS []) w w'):RD n0 base w' J { y with is:=is',rs:=rs' }∧Touch (KindIn n0 w TD []) w w':=by
 obtain ⟨a1,a2,a3,a4,hc⟩:=h.cr
 obtain ⟨m1,m2,hm⟩:=h.mo
 obtain ⟨o1,o2,o3,o4,ho⟩:=h.od
 obtain ⟨i1,i2,hi⟩:=h.ib
 exact ⟨⟨hT.blk h.blk (KindIn.not_blk h.blk (by decide)),⟨_,_,_,_,Cr.rstay hc hT (by decide) (by decide) (by decide)⟩,hI,⟨_,_,Mo.rstay hm hT (by decide) (by decide)⟩,⟨_,_,_,_,Or.rstay ho hT (by decide) (by decide) (by decide) (by decide)⟩,⟨_,_,In.rstay hi hT (by decide) (by decide)⟩,h.lo.1,Nat.le_trans h.lo.2 hT.size⟩,hT.kind (fun k _ hk=>hk.mono (by decide) (fun m hm=>hm))⟩
theorem RD.money (h:RD n0 base w J y) {L':List Mo.Ca} {d':Int} (hI:∃ A c,Mo.IsRf base w' J.RM A c L' d') (hT:Touch (KindIn n0 w TM []) w w'):RD n0 base w' J { y with L:=L',d:=d' }∧Touch (KindIn n0 w TD []) w w':=by
 obtain ⟨a1,a2,a3,a4,hc⟩:=h.cr
 obtain ⟨b1,b2,b3,b4,hs⟩:=h.sk
 obtain ⟨o1,o2,o3,o4,ho⟩:=h.od
 obtain ⟨i1,i2,hi⟩:=h.ib
 exact ⟨⟨hT.blk h.blk (KindIn.not_blk h.blk (by decide)),⟨_,_,_,_,Cr.rstay hc hT (by decide) (by decide) (by decide)⟩,⟨_,_,_,_,Sk.rstay hs hT (by decide) (by decide) (by decide) (by decide)⟩,hI,⟨_,_,_,_,Or.rstay ho hT (by decide) (by decide) (by decide) (by decide)⟩,⟨_,_,In.rstay hi hT (by decide) (by decide)⟩,h.lo.1,Nat.le_trans h.lo.2 hT.size⟩,hT.kind (fun k _ hk=>hk.mono (by decide) (fun m hm=>hm))⟩
theorem RD.orders (h:RD n0 base w J y) {its':List (Int × Int)} {ro':List Or.Od} (hI:∃ A1 c1 A2 c2,Or.IsRef base w' J.RO A1 c1 its' A2 c2 ro') (hT:Touch (KindIn n0 w TO []) w w'):RD n0 base w' J { y with its:=its',ro:=ro' }∧Touch (KindIn n0 w TD []) w w':=by
 obtain ⟨a1,a2,a3,a4,hc⟩:=h.cr
 obtain ⟨b1,b2,b3,b4,hs⟩:=h.sk
 obtain ⟨m1,m2,hm⟩:=h.mo
 obtain ⟨i1,i2,hi⟩:=h.ib
 exact ⟨⟨hT.blk h.blk (KindIn.not_blk h.blk (by decide)),⟨_,_,_,_,Cr.rstay hc hT (by decide) (by decide) (by decide)⟩,⟨_,_,_,_,Sk.rstay hs hT (by decide) (by decide) (by decide) (by decide)⟩,⟨_,_,Mo.rstay hm hT (by decide) (by decide)⟩,hI,⟨_,_,In.rstay hi hT (by decide) (by decide)⟩,h.lo.1,Nat.le_trans h.lo.2 hT.size⟩,hT.kind (fun k _ hk=>hk.mono (by decide) (fun m hm=>hm))⟩
theorem RD.inbox (h:RD n0 base w J y) {re':List In.Ent} (hI:∃ A c,In.IsRef base w' J.RI A c re') (hT:Touch (KindIn n0 w TI []) w w'):RD n0 base w' J { y with re:=re' }∧Touch (KindIn n0 w TD []) w w':=by
 obtain ⟨a1,a2,a3,a4,hc⟩:=h.cr
 obtain ⟨b1,b2,b3,b4,hs⟩:=h.sk
 obtain ⟨m1,m2,hm⟩:=h.mo
 obtain ⟨o1,o2,o3,o4,ho⟩:=h.od
 exact ⟨⟨hT.blk h.blk (KindIn.not_blk h.blk (by decide)),⟨_,_,_,_,Cr.rstay hc hT (by decide) (by decide) (by decide)⟩,⟨_,_,_,_,Sk.rstay hs hT (by decide) (by decide) (by decide) (by decide)⟩,⟨_,_,Mo.rstay hm hT (by decide) (by decide)⟩,⟨_,_,_,_,Or.rstay ho hT (by decide) (by decide) (by decide) (by decide)⟩,hI,h.lo.1,Nat.le_trans h.lo.2 hT.size⟩,hT.kind (fun k _ hk=>hk.mono (by decide) (fun m hm=>hm))⟩
end
def y0:RdX:=⟨[],[],[],[],[],0,[],[],[]⟩
theorem rel0:Rel x0 y0:=⟨Cr.RelB.nil,Sk.RelS.nil,Mo.RelC.nil,rfl,Or.RelO.nil,In.RelM.nil⟩
set_option maxRecDepth 100000 in
set_option maxHeartbeats 8000000 in
theorem rdnew20 (w:World):Calls Tryz.prog 9 #[] w fun e w'=>∃ (J:RdI) (base:Nat),e = .returned (.pointer (some ⟨J.R,0,none⟩))∧RD w.heap.size base w' J y0∧Below w.heap.size w w':=by
 obtain ⟨w1,h1⟩:∃ v,v=w.alloc (.cells #[.slice none 0 0,.slice none 0 0] 79):=⟨_,rfl⟩
 have s1:w1.heap.size=w.heap.size + 1:=by rw [h1]; simp
 have b1:Blk w1 (w.heap.size + 0) 79 #[.slice none 0 0,.slice none 0 0]:=by have:=Blk.new w 79 #[.slice none 0 0,.slice none 0 0]; rw [← h1] at this; exact this
 have d1:Below w.heap.size w w1:=by rw [h1]; exact (Below.refl _ _).alloc (Nat.le_refl _) _
 obtain ⟨w2,h2⟩:∃ v,v=w1.alloc (.cells #[.slice none 0 0,.slice none 0 0] 84):=⟨_,rfl⟩
 have s2:w2.heap.size=w.heap.size + 2:=by rw [h2]; simp; omega
 have b2:Blk w2 (w.heap.size + 1) 84 #[.slice none 0 0,.slice none 0 0]:=by have:=Blk.new w1 84 #[.slice none 0 0,.slice none 0 0]; rw [← h2] at this; rw [s1] at this; exact this
 have d2:Below w1.heap.size w1 w2:=by rw [h2]; exact (Below.refl _ _).alloc (Nat.le_refl _) _
 obtain ⟨w3,h3⟩:∃ v,v=w2.alloc (.cells #[.slice none 0 0,.int .i64 0] 88):=⟨_,rfl⟩
 have s3:w3.heap.size=w.heap.size + 3:=by rw [h3]; simp; omega
 have b3:Blk w3 (w.heap.size + 2) 88 #[.slice none 0 0,.int .i64 0]:=by have:=Blk.new w2 88 #[.slice none 0 0,.int .i64 0]; rw [← h3] at this; rw [s2] at this; exact this
 have d3:Below w2.heap.size w2 w3:=by rw [h3]; exact (Below.refl _ _).alloc (Nat.le_refl _) _
 obtain ⟨w4,h4⟩:∃ v,v=w3.alloc (.cells #[.slice none 0 0,.slice none 0 0] 93):=⟨_,rfl⟩
 have s4:w4.heap.size=w.heap.size + 4:=by rw [h4]; simp; omega
 have b4:Blk w4 (w.heap.size + 3) 93 #[.slice none 0 0,.slice none 0 0]:=by have:=Blk.new w3 93 #[.slice none 0 0,.slice none 0 0]; rw [← h4] at this; rw [s3] at this; exact this
 have d4:Below w3.heap.size w3 w4:=by rw [h4]; exact (Below.refl _ _).alloc (Nat.le_refl _) _
 obtain ⟨w5,h5⟩:∃ v,v=w4.alloc (.cells #[.slice none 0 0] 97):=⟨_,rfl⟩
 have s5:w5.heap.size=w.heap.size + 5:=by rw [h5]; simp; omega
 have b5:Blk w5 (w.heap.size + 4) 97 #[.slice none 0 0]:=by have:=Blk.new w4 97 #[.slice none 0 0]; rw [← h5] at this; rw [s4] at this; exact this
 have d5:Below w4.heap.size w4 w5:=by rw [h5]; exact (Below.refl _ _).alloc (Nat.le_refl _) _
 obtain ⟨w6,h6⟩:∃ v,v=w5.alloc (.cells #[.pointer (some ⟨w.heap.size,0,none⟩),.pointer (some ⟨w.heap.size + 1,0,none⟩),.pointer (some ⟨w.heap.size + 2,0,none⟩),.pointer (some ⟨w.heap.size + 3,0,none⟩),.pointer (some ⟨w.heap.size + 4,0,none⟩)] 99):=⟨_,rfl⟩
 have s6:w6.heap.size=w.heap.size + 6:=by rw [h6]; simp; omega
 have b6:Blk w6 (w.heap.size + 5) 99 #[.pointer (some ⟨w.heap.size,0,none⟩),.pointer (some ⟨w.heap.size + 1,0,none⟩),.pointer (some ⟨w.heap.size + 2,0,none⟩),.pointer (some ⟨w.heap.size + 3,0,none⟩),.pointer (some ⟨w.heap.size + 4,0,none⟩)]:=by have:=Blk.new w5 99 #[.pointer (some ⟨w.heap.size,0,none⟩),.pointer (some ⟨w.heap.size + 1,0,none⟩),.pointer (some ⟨w.heap.size + 2,0,none⟩),.pointer (some ⟨w.heap.size + 3,0,none⟩),.pointer (some ⟨w.heap.size + 4,0,none⟩)]; rw [← h6] at this; rw [s5] at this; exact this
 have d6:Below w5.heap.size w5 w6:=by rw [h6]; exact (Below.refl _ _).alloc (Nat.le_refl _) _
 have hN:∀ (e:TypeId) (n:Nat),w6.ownsRow (w.heap.size + 6) e n (.slice none 0 0) 0 []:=fun e n=>World.ownsRow_nil _ _ _ _
 have HF:=hid (show RD w.heap.size (w.heap.size + 6) w6 ⟨w.heap.size + 5,w.heap.size + 0,w.heap.size + 1,w.heap.size + 2,w.heap.size + 3,w.heap.size + 4⟩ y0∧Below w.heap.size w w6 from ⟨⟨b6,⟨none,0,none,0,b1.next (bthen (bthen (bthen (bthen d2 d3) d4) d5) d6),hN _ _,hN _ _,by show w.heap.size + 0 < w.heap.size + 6; omega⟩,⟨none,0,none,0,b2.next (bthen (bthen (bthen d3 d4) d5) d6),hN _ _,hN _ _,(fun o ho=>by cases ho),by show w.heap.size + 1 < w.heap.size + 6; omega⟩,⟨none,0,b3.next (bthen (bthen d4 d5) d6),hN _ _,by show w.heap.size + 2 < w.heap.size + 6; omega⟩,⟨none,0,none,0,b4.next (bthen d5 d6),hN _ _,hN _ _,(fun o ho=>by cases ho),by show w.heap.size + 3 < w.heap.size + 6; omega⟩,⟨none,0,b5.next d6,hN _ _,by show w.heap.size + 4 < w.heap.size + 6; omega⟩,(show w.heap.size≤w.heap.size + 6∧w.heap.size≤w.heap.size + 0∧w.heap.size≤w.heap.size + 1∧w.heap.size≤w.heap.size + 2∧w.heap.size≤w.heap.size + 3∧w.heap.size≤w.heap.size + 4 from by omega),by omega⟩,bthen (bthen (bthen (bthen (bthen d1 d2) d3) d4) d5) d6⟩)
 subst h6
 subst h5
 subst h4
 subst h3
 subst h2
 subst h1
 clear s1 s2 s3 s4 s5 s6 b1 b2 b3 b4 b5 b6 d1 d2 d3 d4 d5 d6 hN
 go_enter Tryz.func9,Tryz.ntmps9
 go_wp2_with fail
 go_ret
 exact ⟨⟨w.heap.size + 5,w.heap.size + 0,w.heap.size + 1,w.heap.size + 2,w.heap.size + 3,w.heap.size + 4⟩,w.heap.size + 6,rfl,HF.out.1,HF.out.2⟩
end Go.Proofs.YtakaalldbnklcaaGreat
namespace Go.Proofs.YtakaalldbnklcaaGreat
open Go.RowKit Go.WideShapes Go.ChangeShapes Go.ChangeAt Go.Deep
set_option linter.unusedVariables false
structure XOk (K:Nat) (x:DkX) (y:RdX):Prop where
 rel:Rel x y
 gd:Sk.GoodB x.lv x.gs
 mo:Mo.GoodC x.ca x.d
 gl:x.gs.length≤K
 hl:x.hs.length≤K
 ml:x.m.length≤K
 ll:y.L.length≤K
 k:K≤1900000000000
def REff (n0 base:Nat) (J:RdI) (y:RdX) (S:DkX→Bool→Int→Prop) (w w':World) (p:Bool) (c:Int):Prop:=∃ y',RD n0 base w' J y'∧(∀ x' p' c',S x' p' c'→p'=p∧c'=c∧Rel x' y')∧Touch (KindIn n0 w TD []) w w'∧y'.re=y.re∧y'.L.length≤y.L.length + 1
section
variable {n0 base K:Nat} {w w':World} {J:RdI} {x:DkX} {y:RdX}
theorem hold_room20 {ac:List (Int × Cr.Acc)} {hs:List (Int × Cr.Hd)} {ps:List Cr.Pa} {hr:List Cr.Hd} (hM:Cr.RelB ac hs ps hr) {c n:Int} {a:Cr.Acc} (ha:mget ac c=some a) (hle:n≤wrap64 (a.l - a.e)):a.e + n≤1125899906842624:=by
 have hb:=hM.bd ha
 have hlim:=(hM.lim c a ha).2.2
 rw [Cr.wr_lim _ ⟨by omega,by omega⟩] at hle
 omega
theorem SvcR.inv1 {o:Or.Od} {x x':DkX} {p:Bool} {c:Int} (h:SvcR 1 o x x' p c):p=false∧c=Cr.holdR x.ac x.hs o.i o.c (o.n + o.t)∧∃ ac' hs',HoldRel x.ac x.hs o.i o.c (o.n + o.t) ac' hs'∧x'={ x with ac:=ac',hs:=hs' }:=by
 rcases h with ⟨e,h⟩ | ⟨e,h⟩ | ⟨e,h⟩ | ⟨e,h⟩ | ⟨e,h⟩ | ⟨e,h⟩ | ⟨e,h⟩ | ⟨e,h⟩ | ⟨e,h⟩ <;> first | exact h | omega
theorem SvcR.inv2 {o:Or.Od} {x x':DkX} {p:Bool} {c:Int} (h:SvcR 2 o x x' p c):p=false∧c=relZ x.hs o.i∧∃ ac' hs',RelRel x.ac x.hs o.i ac' hs'∧x'={ x with ac:=ac',hs:=hs' }:=by
 rcases h with ⟨e,h⟩ | ⟨e,h⟩ | ⟨e,h⟩ | ⟨e,h⟩ | ⟨e,h⟩ | ⟨e,h⟩ | ⟨e,h⟩ | ⟨e,h⟩ | ⟨e,h⟩ <;> first | exact h | omega
theorem SvcR.inv3 {o:Or.Od} {x x':DkX} {p:Bool} {c:Int} (h:SvcR 3 o x x' p c):p=false∧c=Sk.allocZ x.lv x.gs o.i (o.ls.map toSk)∧∃ lv' gs',Sk.AllocR x.lv x.gs o.i (o.ls.map toSk) lv' gs'∧x'={ x with lv:=lv',gs:=gs' }:=by
 rcases h with ⟨e,h⟩ | ⟨e,h⟩ | ⟨e,h⟩ | ⟨e,h⟩ | ⟨e,h⟩ | ⟨e,h⟩ | ⟨e,h⟩ | ⟨e,h⟩ | ⟨e,h⟩ <;> first | exact h | omega
theorem SvcR.inv4 {o:Or.Od} {x x':DkX} {p:Bool} {c:Int} (h:SvcR 4 o x x' p c):p=false∧c=Sk.freeZ x.gs o.i∧∃ lv' gs',Sk.FreeR x.lv x.gs o.i lv' gs'∧x'={ x with lv:=lv',gs:=gs' }:=by
 rcases h with ⟨e,h⟩ | ⟨e,h⟩ | ⟨e,h⟩ | ⟨e,h⟩ | ⟨e,h⟩ | ⟨e,h⟩ | ⟨e,h⟩ | ⟨e,h⟩ | ⟨e,h⟩ <;> first | exact h | omega
theorem SvcR.inv5 {o:Or.Od} {x x':DkX} {p:Bool} {c:Int} (h:SvcR 5 o x x' p c):p=false∧c=Sk.goZ x.gs o.i 1∧∃ lv' gs',Sk.ShipR x.lv x.gs o.i lv' gs'∧x'={ x with lv:=lv',gs:=gs' }:=by
 rcases h with ⟨e,h⟩ | ⟨e,h⟩ | ⟨e,h⟩ | ⟨e,h⟩ | ⟨e,h⟩ | ⟨e,h⟩ | ⟨e,h⟩ | ⟨e,h⟩ | ⟨e,h⟩ <;> first | exact h | omega
theorem SvcR.inv6 {o:Or.Od} {x x':DkX} {p:Bool} {c:Int} (h:SvcR 6 o x x' p c):p=false∧c=Sk.goZ x.gs o.i 2∧∃ lv' gs',Sk.RestockR x.lv x.gs o.i lv' gs'∧x'={ x with lv:=lv',gs:=gs' }:=by
 rcases h with ⟨e,h⟩ | ⟨e,h⟩ | ⟨e,h⟩ | ⟨e,h⟩ | ⟨e,h⟩ | ⟨e,h⟩ | ⟨e,h⟩ | ⟨e,h⟩ | ⟨e,h⟩ <;> first | exact h | omega
theorem SvcR.inv7 {o:Or.Od} {x x':DkX} {p:Bool} {c:Int} (h:SvcR 7 o x x' p c):p=(Mo.invR (Mo.cfind x.ca) x.d o.i o.c o.n o.t).paid∧c=(Mo.invR (Mo.cfind x.ca) x.d o.i o.c o.n o.t).code∧MonR x x' o.i (Mo.invR (Mo.cfind x.ca) x.d o.i o.c o.n o.t):=by
 rcases h with ⟨e,h⟩ | ⟨e,h⟩ | ⟨e,h⟩ | ⟨e,h⟩ | ⟨e,h⟩ | ⟨e,h⟩ | ⟨e,h⟩ | ⟨e,h⟩ | ⟨e,h⟩ <;> first | exact h | omega
theorem SvcR.inv8 {o:Or.Od} {x x':DkX} {p:Bool} {c:Int} (h:SvcR 8 o x x' p c):p=false∧c=(Mo.memR (Mo.cfind x.ca) x.d o.i).code∧MonR x x' o.i (Mo.memR (Mo.cfind x.ca) x.d o.i):=by
 rcases h with ⟨e,h⟩ | ⟨e,h⟩ | ⟨e,h⟩ | ⟨e,h⟩ | ⟨e,h⟩ | ⟨e,h⟩ | ⟨e,h⟩ | ⟨e,h⟩ | ⟨e,h⟩ <;> first | exact h | omega
theorem SvcR.inv9 {o:Or.Od} {x x':DkX} {p:Bool} {c:Int} (h:SvcR 9 o x x' p c):p=false∧c=(Mo.refR (Mo.cfind x.ca) x.d o.i).2.code∧MonR x x' o.i (Mo.refR (Mo.cfind x.ca) x.d o.i).2:=by
 rcases h with ⟨e,h⟩ | ⟨e,h⟩ | ⟨e,h⟩ | ⟨e,h⟩ | ⟨e,h⟩ | ⟨e,h⟩ | ⟨e,h⟩ | ⟨e,h⟩ | ⟨e,h⟩ <;> first | exact h | omega
set_option maxHeartbeats 4000000 in
theorem rhold20 (h:RD n0 base w J y) (hx:XOk K x y) (o:Or.Od):Calls Tryz.prog 136 #[.pointer (some ⟨J.RC,0,none⟩),.int .i64 o.i,.int .i64 o.c,.int .i64 (o.n + o.t)] w fun e w'=>∃ c,e = .returned (.int .i64 c)∧REff n0 base J y (fun x' p' c'=>SvcR 1 o x x' p' c') w w' false c:=by
 obtain ⟨A1,c1,A2,c2,hc⟩:=h.cr
 have hB:=hx.rel.cr
 have hk:=hx.k
 have hhl:=hx.hl
 have hrl:y.hr.length=x.hs.length:=hB.hd.len
 have hpl:y.ps.length=x.ac.length:=hB.pa.len
 have hfew:=hB.few
 by_cases hok:1≤o.i∧0≤o.n + o.t∧o.n + o.t≤1125899906842624
 ·by_cases hz:Cr.holdR x.ac x.hs o.i o.c (o.n + o.t)=0
  ·have hr:=hz
   unfold Cr.holdR at hr
   rw [if_pos hok] at hr
   cases ha:mget x.ac o.c with
   | none=>rw [ha] at hr; simp at hr
   | some a =>
    rw [ha] at hr
    simp only at hr
    cases hm:mget x.hs o.i with
    | some d=>rw [hm] at hr; simp at hr
    | none =>
     rw [hm] at hr
     simp only [Option.isSome_none,Bool.false_eq_true,if_false] at hr
     have hle:o.n + o.t≤wrap64 (a.l - a.e):=by
      by_cases hlt:wrap64 (a.l - a.e) < o.n + o.t
      ·rw [if_pos hlt] at hr; cases hr
      ·omega
     refine (Cr.rhold_yes hc hB o.i o.c (o.n + o.t) hok a ha hm hle (by omega) (by omega) h.lo.2).mono ?_
     rintro e w' ⟨A2',c2',rfl,hI,hT⟩
     obtain ⟨hR,hT2⟩:=h.credit ⟨_,_,_,_,hI⟩ (Cr.rk2 hc hT ⟨h.lo.1.1,h.lo.1.2.1⟩)
     refine ⟨0,rfl,_,hR,fun x' p' c' hS => ?_,hT2,rfl,Nat.le_succ _⟩
     obtain ⟨rfl,rfl,ac',hs',hrel,rfl⟩:=hS.inv1
     refine ⟨rfl,hz, ?_⟩
     rcases hrel with ⟨h1,_⟩ | ⟨_,a2,ha2,_,rfl,rfl⟩
     ·exact absurd hz h1
     ·rw [ha] at ha2
      injection ha2 with ha2
      subst ha2
      exact { hx.rel with cr:=hB.put ha hm hok.2.1 hok.2.2 (hold_room20 hB ha hle) }
  ·refine (Cr.rhold_no hc hB o.i o.c (o.n + o.t) hok hz (by omega) (by omega)).mono ?_
   rintro e w' ⟨rfl,rfl⟩
   refine ⟨_,rfl,y,h,fun x' p' c' hS => ?_,.refl _ _,rfl,Nat.le_succ _⟩
   obtain ⟨rfl,rfl,ac',hs',hrel,rfl⟩:=hS.inv1
   rcases hrel with ⟨_,rfl,rfl⟩ | ⟨h1,_⟩
   ·exact ⟨rfl,rfl,{ hx.rel with }⟩
   ·exact absurd h1 hz
 ·have hz:Cr.holdR x.ac x.hs o.i o.c (o.n + o.t)=2:=by unfold Cr.holdR; rw [if_neg hok]
  refine (Cr.rhold_arg (w:=w) o.i o.c (o.n + o.t) (.pointer (some ⟨J.RC,0,none⟩)) hok).mono ?_
  rintro e w' ⟨rfl,rfl⟩
  refine ⟨2,rfl,y,h,fun x' p' c' hS => ?_,.refl _ _,rfl,Nat.le_succ _⟩
  obtain ⟨rfl,rfl,ac',hs',hrel,rfl⟩:=hS.inv1
  rcases hrel with ⟨_,rfl,rfl⟩ | ⟨h1,_⟩
  ·exact ⟨rfl,hz,{ hx.rel with }⟩
  ·omega
set_option maxHeartbeats 4000000 in
theorem rrel20 (h:RD n0 base w J y) (hx:XOk K x y) (o:Or.Od):Calls Tryz.prog 137 #[.pointer (some ⟨J.RC,0,none⟩),.int .i64 o.i] w fun e w'=>∃ c,e = .returned (.int .i64 c)∧REff n0 base J y (fun x' p' c'=>SvcR 2 o x x' p' c') w w' false c:=by
 obtain ⟨A1,c1,A2,c2,hc⟩:=h.cr
 have hB:=hx.rel.cr
 have hk:=hx.k
 have hhl:=hx.hl
 have hrl:y.hr.length=x.hs.length:=hB.hd.len
 rcases hB.heldFor o.i with ⟨k,d,hd,hdo,hkl,hy,he⟩ | ⟨hn,he⟩
 ·refine (Cr.rrel_yes hc o.i k he hkl (by omega) h.lo.2).mono ?_
  rintro e w' ⟨A2',c2',rfl,hI,hT⟩
  obtain ⟨hR,hT2⟩:=h.credit ⟨_,_,_,_,hI⟩ (Cr.rk2 hc hT ⟨h.lo.1.1,h.lo.1.2.1⟩)
  refine ⟨0,rfl,_,hR,fun x' p' c' hS => ?_,hT2,rfl,Nat.le_succ _⟩
  obtain ⟨rfl,rfl,ac',hs',hrel,rfl⟩:=hS.inv2
  refine ⟨rfl,by rw [relZ,hd], ?_⟩
  rcases hrel with ⟨h1,_⟩ | ⟨d2,a,hd2,ha,rfl,rfl⟩
  ·rw [hd] at h1; cases h1
  ·rw [hd] at hd2
   injection hd2 with hd2
   subst hd2
   exact { hx.rel with cr:=hB.rel ha hd hy }
 ·refine (Cr.rrel_no hc o.i he (by omega)).mono ?_
  rintro e w' ⟨rfl,rfl⟩
  refine ⟨70,rfl,y,h,fun x' p' c' hS => ?_,.refl _ _,rfl,Nat.le_succ _⟩
  obtain ⟨rfl,rfl,ac',hs',hrel,rfl⟩:=hS.inv2
  rcases hrel with ⟨_,rfl,rfl⟩ | ⟨d2,a,hd2,_⟩
  ·exact ⟨rfl,by rw [relZ,hn],{ hx.rel with }⟩
  ·rw [hn] at hd2; cases hd2
theorem ralloc20 (h:RD n0 base w J y) (hx:XOk K x y) (o:Or.Od) (A:Option Addr) (cap:Nat) (hL:Rd w A (o.ls.flatMap Or.enL)) (hl4:o.ls.length≤1000):Calls Tryz.prog 138 #[.pointer (some ⟨J.RS,0,none⟩),.int .i64 o.i,.slice A o.ls.length cap] w fun e w'=>∃ c,e = .returned (.int .i64 c)∧REff n0 base J y (fun x' p' c'=>SvcR 3 o x x' p' c') w w' false c:=by
 obtain ⟨A1,c1,A2,c2,hs⟩:=h.sk
 have hk:=hx.k
 have hgl:=hx.gl
 have hrl:y.rs.length=x.gs.length:=by have:=hx.rel.sk.gds.len; simpa using this
 have K0:=Sk.ralloc_step hs hx.rel.sk hx.gd (by omega) h.lo.2 o.i A cap (o.ls.map toSk) (by rw [toSk_flat]; exact hL) (by rw [List.length_map]; omega)
 rw [List.length_map] at K0
 refine K0.mono ?_
 rintro e w' ⟨A1',c1',is',A2',c2',rs',rfl,hI,hX,hT⟩
 obtain ⟨hR,hT2⟩:=h.stock ⟨_,_,_,_,hI⟩ (Sk.rk hs hT ⟨h.lo.1.1,h.lo.1.2.2.1⟩)
 refine ⟨_,rfl,_,hR,fun x' p' c' hS => ?_,hT2,rfl,Nat.le_succ _⟩
 obtain ⟨rfl,rfl,lv',gs',hrel,rfl⟩:=hS.inv3
 exact ⟨rfl,rfl,{ hx.rel with sk:=hX _ _ hrel }⟩
theorem rfree20 (h:RD n0 base w J y) (hx:XOk K x y) (o:Or.Od):Calls Tryz.prog 139 #[.pointer (some ⟨J.RS,0,none⟩),.int .i64 o.i] w fun e w'=>∃ c,e = .returned (.int .i64 c)∧REff n0 base J y (fun x' p' c'=>SvcR 4 o x x' p' c') w w' false c:=by
 obtain ⟨A1,c1,A2,c2,hs⟩:=h.sk
 have hk:=hx.k
 have hgl:=hx.gl
 have hrl:y.rs.length=x.gs.length:=by have:=hx.rel.sk.gds.len; simpa using this
 refine (Sk.rfree_step hs hx.rel.sk hx.gd (by omega) h.lo.2 o.i).mono ?_
 rintro e w' ⟨A1',c1',is',A2',c2',rs',rfl,hI,hX,hT⟩
 obtain ⟨hR,hT2⟩:=h.stock ⟨_,_,_,_,hI⟩ (Sk.rk hs hT ⟨h.lo.1.1,h.lo.1.2.2.1⟩)
 refine ⟨_,rfl,_,hR,fun x' p' c' hS => ?_,hT2,rfl,Nat.le_succ _⟩
 obtain ⟨rfl,rfl,lv',gs',hrel,rfl⟩:=hS.inv4
 exact ⟨rfl,rfl,{ hx.rel with sk:=hX _ _ hrel }⟩
theorem rship20 (h:RD n0 base w J y) (hx:XOk K x y) (o:Or.Od):Calls Tryz.prog 140 #[.pointer (some ⟨J.RS,0,none⟩),.int .i64 o.i,.int .i64 1] w fun e w'=>∃ c,e = .returned (.int .i64 c)∧REff n0 base J y (fun x' p' c'=>SvcR 5 o x x' p' c') w w' false c:=by
 obtain ⟨A1,c1,A2,c2,hs⟩:=h.sk
 have hk:=hx.k
 have hgl:=hx.gl
 have hrl:y.rs.length=x.gs.length:=by have:=hx.rel.sk.gds.len; simpa using this
 refine (Sk.rship_step hs hx.rel.sk hx.gd (by omega) o.i).mono ?_
 rintro e w' ⟨A1',c1',is',A2',c2',rs',rfl,hI,hX,hT⟩
 obtain ⟨hR,hT2⟩:=h.stock ⟨_,_,_,_,hI⟩ (Sk.rk hs hT ⟨h.lo.1.1,h.lo.1.2.2.1⟩)
 refine ⟨_,rfl,_,hR,fun x' p' c' hS => ?_,hT2,rfl,Nat.le_succ _⟩
 obtain ⟨rfl,rfl,lv',gs',hrel,rfl⟩:=hS.inv5
 exact ⟨rfl,rfl,{ hx.rel with sk:=hX _ _ hrel }⟩
theorem rrestock20 (h:RD n0 base w J y) (hx:XOk K x y) (o:Or.Od):Calls Tryz.prog 140 #[.pointer (some ⟨J.RS,0,none⟩),.int .i64 o.i,.int .i64 2] w fun e w'=>∃ c,e = .returned (.int .i64 c)∧REff n0 base J y (fun x' p' c'=>SvcR 6 o x x' p' c') w w' false c:=by
 obtain ⟨A1,c1,A2,c2,hs⟩:=h.sk
 have hk:=hx.k
 have hgl:=hx.gl
 have hrl:y.rs.length=x.gs.length:=by have:=hx.rel.sk.gds.len; simpa using this
 refine (Sk.rrestock_step hs hx.rel.sk hx.gd (by omega) o.i).mono ?_
 rintro e w' ⟨A1',c1',is',A2',c2',rs',rfl,hI,hX,hT⟩
 obtain ⟨hR,hT2⟩:=h.stock ⟨_,_,_,_,hI⟩ (Sk.rk hs hT ⟨h.lo.1.1,h.lo.1.2.2.1⟩)
 refine ⟨_,rfl,_,hR,fun x' p' c' hS => ?_,hT2,rfl,Nat.le_succ _⟩
 obtain ⟨rfl,rfl,lv',gs',hrel,rfl⟩:=hS.inv6
 exact ⟨rfl,rfl,{ hx.rel with sk:=hX _ _ hrel }⟩
theorem rinv20 (h:RD n0 base w J y) (hx:XOk K x y) (o:Or.Od):Calls Tryz.prog 141 #[.pointer (some ⟨J.RM,0,none⟩),.int .i64 o.i,.int .i64 o.c,.int .i64 o.n,.int .i64 o.t] w fun e w'=>∃ p c,e = .returned (.tuple #[.bool p,.int .i64 c])∧REff n0 base J y (fun x' p' c'=>SvcR 7 o x x' p' c') w w' p c:=by
 obtain ⟨A,cap,hm⟩:=h.mo
 have hk:=hx.k
 have hll:=hx.ll
 have hmd:=hx.rel.md
 rw [hmd] at hm
 refine (Mo.rinv_any hm hx.rel.mo hx.mo.good (by omega) h.lo.2 o.i o.c o.n o.t).mono ?_
 rintro e w' ⟨rfl,A',cap',L',hI,hC,hLn,hT⟩
 obtain ⟨hR,hT2⟩:=h.money ⟨_,_,hI⟩ (Mo.rk hm hT ⟨h.lo.1.1,h.lo.1.2.2.2.1⟩)
 refine ⟨_,_,rfl,_,hR,fun x' p' c' hS => ?_,hT2,rfl,hLn⟩
 obtain ⟨rfl,rfl,ca',hF,rfl⟩:=hS.inv7
 exact ⟨rfl,rfl,{ hx.rel with mo:=by show Mo.RelC (Mo.cfind ca') L'; rw [hF]; exact hC,md:=rfl }⟩
theorem rref20 (h:RD n0 base w J y) (hx:XOk K x y) (o:Or.Od):Calls Tryz.prog 143 #[.pointer (some ⟨J.RM,0,none⟩),.int .i64 o.i] w fun e w'=>∃ q c,e = .returned (.tuple #[.int .i64 q,.int .i64 c])∧REff n0 base J y (fun x' p' c'=>SvcR 9 o x x' p' c') w w' false c:=by
 obtain ⟨A,cap,hm⟩:=h.mo
 have hk:=hx.k
 have hll:=hx.ll
 have hmd:=hx.rel.md
 rw [hmd] at hm
 refine (Mo.rref_any hm hx.rel.mo hx.mo.goodG (by omega) h.lo.2 o.i).mono ?_
 rintro e w' ⟨rfl,A',cap',L',hI,hC,hLn,hT⟩
 obtain ⟨hR,hT2⟩:=h.money ⟨_,_,hI⟩ (Mo.rk hm hT ⟨h.lo.1.1,h.lo.1.2.2.2.1⟩)
 refine ⟨_,_,rfl,_,hR,fun x' p' c' hS => ?_,hT2,rfl,hLn⟩
 obtain ⟨rfl,rfl,ca',hF,rfl⟩:=hS.inv9
 exact ⟨rfl,rfl,{ hx.rel with mo:=by show Mo.RelC (Mo.cfind ca') L'; rw [hF]; exact hC,md:=rfl }⟩
theorem rmem20 (h:RD n0 base w J y) (hx:XOk K x y) (o:Or.Od):Calls Tryz.prog 142 #[.pointer (some ⟨J.RM,0,none⟩),.int .i64 o.i] w fun e w'=>∃ c,e = .returned (.int .i64 c)∧REff n0 base J y (fun x' p' c'=>SvcR 8 o x x' p' c') w w' false c:=by
 obtain ⟨A,cap,hm⟩:=h.mo
 have hk:=hx.k
 have hll:=hx.ll
 have hmd:=hx.rel.md
 rw [hmd] at hm
 refine (Mo.rmem_any hm hx.rel.mo hx.mo.goodG (by omega) h.lo.2 o.i).mono ?_
 rintro e w' ⟨rfl,A',cap',L',hI,hC,hLn,hT⟩
 obtain ⟨hR,hT2⟩:=h.money ⟨_,_,hI⟩ (Mo.rk hm hT ⟨h.lo.1.1,h.lo.1.2.2.2.1⟩)
 refine ⟨_,rfl,_,hR,fun x' p' c' hS => ?_,hT2,rfl,hLn⟩
 obtain ⟨rfl,rfl,ca',hF,rfl⟩:=hS.inv8
 exact ⟨rfl,rfl,{ hx.rel with mo:=by show Mo.RelC (Mo.cfind ca') L'; rw [hF]; exact hC,md:=rfl }⟩
end
end Go.Proofs.YtakaalldbnklcaaGreat
