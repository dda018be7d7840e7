/-
  Layer 20: the walk of DeskBars.
  The desk: a request that is known or stale turns nothing that was there.
-/
import Derived.Test.YtakaalldbnklcaaGreatQd17
import Derived.Test.YtakaalldbnklcaaGreatQd23
namespace Go.Proofs.YtakaalldbnklcaaGreat
open Go.RowKit Go.WideShapes Go.ChangeShapes Go.ChangeAt Go.Deep
set_option linter.unusedVariables false
theorem NoEnt.script {x x':DkX} {k s:Int} {o:DOp} {a:Bool × Int × Bool × Bool} (h:NoEnt x.m k s) (hs:StepR o x x' a) (hne:¬ (o.kd=1∧o.ky=k∧o.st=s)):NoEnt x'.m k s:=by
 rcases hs with ⟨h1,hd⟩ | ⟨_,hm,_⟩
 ·refine h.step hd (fun e=>hne ?_)
  injection e with e1 e2
  exact ⟨h1,e1.symm,e2.symm⟩
 ·rw [hm]; exact h
set_option maxRecDepth 100000 in
set_option maxHeartbeats 8000000 in
theorem deskBars_walk (l:List DOp) (A:Option Addr) (cp:Nat) (q:DOp) (w:World) (hR:Rd w A (l.flatMap enDo)) (hok:∀ x ∈ l,OkDo w x) (hl:l.length * 80≤140737488351232) (hq:OkDo w q) :
  Calls Tryz.prog 6 #[.slice A l.length cp,.agg #[.int .i64 q.kd,.int .i64 q.ky,.int .i64 q.st,.int .i64 q.tr,.string q.vb,.bool q.un,.slice q.A q.ls.length q.cap]] w (Law w):=by
 obtain ⟨qd,qk,qs,qt,qv,qu,qA,qc,ql⟩:=q
 have hqk:=hq.i64.2.1
 have hba:Below w.heap.size w (w.alloc (.cells #[.int .i64 qd,.int .i64 qk,.int .i64 qs,.int .i64 qt,.string qv,.bool qu,.slice qA ql.length qc] 31)):=(Below.refl _ _).alloc (Nat.le_refl _) _
 have hB3:=Blk.new w 31 #[.int .i64 qd,.int .i64 qk,.int .i64 qs,.int .i64 qt,.string qv,.bool qu,.slice qA ql.length qc]
 have H0:=hid (And.intro hB3 (And.intro hba (And.intro (hR.below hba) (fun x hx=>(hok x hx).next hba))))
 go_enter Tryz.func6,Tryz.ntmps6
 clear hR hok hq hba hB3
 obtain ⟨G,hG⟩:∃ G,G=w.heap.size:=⟨_,rfl⟩
 obtain ⟨w0,hw0⟩:∃ w0,w0=w.alloc (.cells #[.int .i64 qd,.int .i64 qk,.int .i64 qs,.int .i64 qt,.string qv,.bool qu,.slice qA ql.length qc] 31):=⟨_,rfl⟩
 rw [← hw0] at H0
 go_upto_region 1 with fail
 rw [← hw0, ← hG]
 have H0':=hid (show Blk w0 G 31 _ from by rw [hG]; exact H0.out.1)
 have H1:=hid H0.out.2
 clear hw0 hG H0
 go_wp2_with fail
 refine (wakes_any _).mono ?_
 rintro e wn ⟨rfl,hbn⟩
 have H2:=hid (And.intro (H0'.out.next hbn) (And.intro (bthen H1.out.1 hbn) (And.intro (H1.out.2.1.below hbn) (fun x hx=>(H1.out.2.2 x hx).next hbn))))
 clear H0' H1 hbn
 go_wp2_with fail
 refine (dnew20 _).mono ?_
 rintro e w1 ⟨I,rfl,hP,hb1⟩
 have HP:=hid (And.intro hP hb1)
 clear hP hb1
 go_wp2_with fail
 refine (rdnew20 _).mono ?_
 rintro e w2 ⟨J,base,rfl,hRD,hb2⟩
 have HD:=hid (And.intro (dk_new HP.out.1 HP.out.2 hRD hb2) (And.intro (bthen HP.out.2 hb2) (show NoEnt x0.m qk qs from rfl)))
 have HG:=hid H2.out.1
 have HL:=hid H2.out.2.1
 have HR:=hid H2.out.2.2.1
 have HO:=hid H2.out.2.2.2
 clear HP hRD hb2 H2
 go_wp2_with fail
 go_loopw [17] (fun i wr=>∃ (k:Nat) (x:DkX) (y:RdX),k≤l.length∧i = .int .i64 k∧Hid (DK wn.heap.size base k wr I x J y∧Below wn.heap.size wn wr∧NoEnt x.m qk qs)) (fun i _=>l.length - nOf i)
 case atStart=>exact ⟨0,x0,y0,Nat.zero_le _,rfl,HD⟩
 case round =>
  clear HD
  obtain ⟨k,x,y,hk,rfl,H⟩:=hrel
  by_cases hlt:k < l.length
  ·obtain ⟨o,ho⟩:∃ o,l[k]?=some o:=⟨l[k],List.getElem?_eq_getElem hlt⟩
   obtain ⟨⟨b,off,hAA,hbs,hcc⟩,_,HN⟩:=script_at HR.out HO.out H.out.2.1 ho
   replace HN:=hid HN
   obtain ⟨kd,ky,st,tr,vb,un,OA,ocp,ls⟩:=o
   have q0:wr.cell? ⟨b,off + k * 7,none⟩=some (.int .i64 kd):=hcc 0 _ rfl
   have q1:wr.cell? ⟨b,off + k * 7 + 1,none⟩=some (.int .i64 ky):=hcc 1 _ rfl
   have q2:wr.cell? ⟨b,off + k * 7 + 2,none⟩=some (.int .i64 st):=hcc 2 _ rfl
   have q3:wr.cell? ⟨b,off + k * 7 + 3,none⟩=some (.int .i64 tr):=hcc 3 _ rfl
   have q4:wr.cell? ⟨b,off + k * 7 + 4,none⟩=some (.string vb):=hcc 4 _ rfl
   have q5:wr.cell? ⟨b,off + k * 7 + 5,none⟩=some (.bool un):=hcc 5 _ rfl
   have q6:wr.cell? ⟨b,off + k * 7 + 6,none⟩=some (.slice OA ls.length ocp):=hcc 6 _ rfl
   have hba:Below wr.heap.size wr (wr.alloc (.cells #[.int .i64 kd,.int .i64 ky,.int .i64 st,.int .i64 tr,.string vb,.bool un,.slice OA ls.length ocp] 31)):=(Below.refl _ _).alloc (Nat.le_refl _) _
   have hB6:=Blk.new wr 31 #[.int .i64 kd,.int .i64 ky,.int .i64 st,.int .i64 tr,.string vb,.bool un,.slice OA ls.length ocp]
   have HW:=hid (And.intro hB6 (And.intro (H.out.1.next hba) (And.intro (bthen H.out.2.1 hba) H.out.2.2)))
   subst hAA
   clear hcc hba hB6 ho H
   go_upto_region 7 with fail
   clear q0 q1 q2 q3 q4 q5 q6
   obtain ⟨wz,hwz⟩:∃ wz,wz=wr.alloc (.cells #[.int .i64 kd,.int .i64 ky,.int .i64 st,.int .i64 tr,.string vb,.bool un,.slice OA ls.length ocp] 31):=⟨_,rfl⟩
   obtain ⟨G8,hG8⟩:∃ G8,G8=wr.heap.size:=⟨_,rfl⟩
   obtain ⟨hB6,hDK,hbz,hne⟩:=HW.out
   rw [← hwz] at hB6 hDK hbz ⊢
   rw [← hG8] at hB6 ⊢
   have HZ:=hid (And.intro hB6 (And.intro hDK (And.intro hbz hne)))
   have hBG:=HG.out.next hbz
   clear hB6 hDK hbz hne HW hwz hG8 hbs
   go_cut [37] from 21 to 36 (fun v wx=>v = .bool (!decide (kd=1∧ky=qk∧st=qs))∧wx=wz)
   case first =>
    have hB6:=HZ.out.1
    have g0:wz.cell? ⟨G8,0,none⟩=some (.int .i64 kd):=hB6.cell 0
    have g1:wz.cell? ⟨G8,1,none⟩=some (.int .i64 ky):=hB6.cell 1
    have g2:wz.cell? ⟨G8,2,none⟩=some (.int .i64 st):=hB6.cell 2
    have p1:wz.cell? ⟨G,1,none⟩=some (.int .i64 qk):=hBG.cell 1
    have p2:wz.cell? ⟨G,2,none⟩=some (.int .i64 qs):=hBG.cell 2
    have l1:=hB6.lt
    have l2:=hBG.lt
    clear hB6 hBG HZ HN HG HL HR HO
    by_cases e1:kd=1
    ·have b1:(kd != 1)=false:=by simp [e1]
     by_cases e2:ky=qk
     ·have b2:(ky != qk)=false:=by simp [e2]
      by_cases e3:st=qs
      ·have b3:(st != qs)=false:=by simp [e3]
       have hd:decide (kd=1∧ky=qk∧st=qs)=true:=decide_eq_true ⟨e1,e2,e3⟩
       clear e1 e2 e3
       go_wp2_with fail
       go_meet
       exact ⟨by rw [hd]; rfl,rfl⟩
      ·have b3:(st != qs)=true:=by simp [e3]
       have hd:decide (kd=1∧ky=qk∧st=qs)=false:=decide_eq_false (fun h=>e3 h.2.2)
       clear e1 e2 e3
       go_wp2_with fail
       go_meet
       exact ⟨by rw [hd]; rfl,rfl⟩
     ·have b2:(ky != qk)=true:=by simp [e2]
      have hd:decide (kd=1∧ky=qk∧st=qs)=false:=decide_eq_false (fun h=>e2 h.2.1)
      clear e1 e2
      go_wp2_with fail
      go_meet
      exact ⟨by rw [hd]; rfl,rfl⟩
    ·have b1:(kd != 1)=true:=by simp [e1]
     have hd:decide (kd=1∧ky=qk∧st=qs)=false:=decide_eq_false (fun h=>e1 h.1)
     clear e1
     go_wp2_with fail
     go_meet
     exact ⟨by rw [hd]; rfl,rfl⟩
   case rest =>
    obtain ⟨rfl,hwc⟩:=hcut
    subst hwc
    clear hBG
    by_cases hs:kd=1∧ky=qk∧st=qs
    ·have hd:decide (kd=1∧ky=qk∧st=qs)=true:=decide_eq_true hs
     have H6:=hid (And.intro (HZ.out.2.1.up (Nat.le_succ k) (by omega)) HZ.out.2.2)
     rw [hd]
     clear hs hd HZ HN
     go_wp2_with fail
     go_roundw
     case rel=>exact ⟨k + 1,x,y,by omega,by go_num,H6⟩
     case measure=>simp [nOf]; omega
    ·have hd:decide (kd=1∧ky=qk∧st=qs)=false:=decide_eq_false hs
     rw [hd]
     obtain ⟨hB6,hDK,hbz,hne⟩:=HZ.out
     have ST:=hid (step_any hDK (by omega) ⟨kd,ky,st,tr,vb,un,OA,ocp,ls⟩ (HN.out _ hbz).1 (HN.out _ hbz).2)
     have g0:wc.cell? ⟨G8,0,none⟩=some (.int .i64 kd):=hB6.cell 0
     have g1:wc.cell? ⟨G8,1,none⟩=some (.int .i64 ky):=hB6.cell 1
     have g2:wc.cell? ⟨G8,2,none⟩=some (.int .i64 st):=hB6.cell 2
     have g3:wc.cell? ⟨G8,3,none⟩=some (.int .i64 tr):=hB6.cell 3
     have g4:wc.cell? ⟨G8,4,none⟩=some (.string vb):=hB6.cell 4
     have g5:wc.cell? ⟨G8,5,none⟩=some (.bool un):=hB6.cell 5
     have g6:wc.cell? ⟨G8,6,none⟩=some (.slice OA ls.length ocp):=hB6.cell 6
     have HS:=hid hs
     clear hB6 hDK hbz hne HN hs hd
     go_wp2_with fail
     refine ST.out.mono ?_
     rintro e w5 ⟨a,x',y',rfl,hD5,hSR,hT5⟩
     clear g0 g1 g2 g3 g4 g5 g6 ST
     have H6:=hid (And.intro hD5 (And.intro (HZ.out.2.2.1.trans (hT5.low HZ.out.2.2.1.size)) (HZ.out.2.2.2.script hSR HS.out)))
     clear hD5 hSR hT5 HZ HS
     go_wp2_with fail
     go_roundw
     case rel=>exact ⟨k + 1,x',y',by omega,by go_num,H6⟩
     case measure=>simp [nOf]; omega
  ·have hle:k + 1≤1900000000000:=by omega
   have K1:=hid (dk_do H.out.1 hle qk qs 0 hqk ⟨#[]⟩ true)
   have hBG:=HG.out.next H.out.2.1
   have p1:wr.cell? ⟨G,1,none⟩=some (.int .i64 qk):=hBG.cell 1
   have p2:wr.cell? ⟨G,2,none⟩=some (.int .i64 qs):=hBG.cell 2
   have lG:=hBG.lt
   have HBG:=hid hBG
   clear hk hBG
   go_wp2_with fail
   refine K1.out.mono ?_
   rintro e w3 ⟨a,x1,rfl,hP,hRD,hD,hT,hN⟩
   obtain ⟨rfl,hbar⟩:=H.out.2.2.bar hD
   clear K1 p1 p2 lG
   have hba:Below w3.heap.size w3 (w3.alloc (.cells #[.bool true,.int .i64 0,.bool false,.bool false] 33)):=(Below.refl _ _).alloc (Nat.le_refl _) _
   have K2:=hid (hN _ hba)
   have hBG:=(hT.blk HBG.out (KindIn.not_blk HBG.out (by decide))).next hba
   have hB9:=Blk.new w3 33 #[.bool true,.int .i64 0,.bool false,.bool false]
   have HB:=hid (bthen (H.out.2.1.trans (hT.low H.out.1.p.lo.2.2)) hba)
   have HBR:=hid hbar
   clear hP hRD hD hT hN hba HBG hbar
   simp only [vAns]
   obtain ⟨G9,hG9⟩:∃ G9,G9=w3.heap.size:=⟨_,rfl⟩
   obtain ⟨w4,hw4⟩:∃ w4,w4=w3.alloc (.cells #[.bool true,.int .i64 0,.bool false,.bool false] 33):=⟨_,rfl⟩
   rw [← hw4] at K2 hBG hB9 HB
   rw [← hG9] at hB9
   go_upto_region 11 with fail
   rw [← hw4, ← hG9]
   clear hw4 hG9
   have p1:w4.cell? ⟨G,1,none⟩=some (.int .i64 qk):=hBG.cell 1
   have p2:w4.cell? ⟨G,2,none⟩=some (.int .i64 qs):=hBG.cell 2
   have a0:w4.cell? ⟨G9,0,none⟩=some (.bool true):=hB9.cell 0
   have a1:w4.cell? ⟨G9,1,none⟩=some (.int .i64 0):=hB9.cell 1
   have a2:w4.cell? ⟨G9,2,none⟩=some (.bool false):=hB9.cell 2
   have a3:w4.cell? ⟨G9,3,none⟩=some (.bool false):=hB9.cell 3
   have lG:=hBG.lt
   have l9:=hB9.lt
   have HBG:=hid hBG
   clear hBG hB9
   go_wp2_with fail
   refine K2.out.mono ?_
   rintro e w5 ⟨rfl,y',hDK,hT5⟩
   clear K2 p1 p2 a0 a1 a2 a3 lG l9
   have hBG:=hT5.blk HBG.out (KindIn.not_blk HBG.out (by decide))
   have hq1:=barred_ask HBR.out qt false
   have K3:=hid (dk_again hDK qk qs qt qv false (by rw [hq1.1]; decide))
   have HQ:=hid hq1
   have HB5:=hid (And.intro (HB.out.trans (hT5.low HB.out.size)) hBG)
   have p1:w5.cell? ⟨G,1,none⟩=some (.int .i64 qk):=hBG.cell 1
   have p2:w5.cell? ⟨G,2,none⟩=some (.int .i64 qs):=hBG.cell 2
   have p3:w5.cell? ⟨G,3,none⟩=some (.int .i64 qt):=hBG.cell 3
   have p4:w5.cell? ⟨G,4,none⟩=some (.string qv):=hBG.cell 4
   have lG:=hBG.lt
   clear hDK hT5 HB HBG HBR hBG hq1
   go_wp2_with fail
   refine K3.out.mono ?_
   rintro e w6 ⟨bb,cc,rfl,hDK,hT6,hbb,hcc⟩
   rw [HQ.out.1] at hbb
   have hb1:bb=true:=hbb
   subst hb1
   have hc1:cc=151:=by rw [hcc rfl,HQ.out.2]; rfl
   subst hc1
   clear K3 p1 p2 p3 p4 lG hbb hcc HQ
   have hba:Below w6.heap.size w6 (w6.alloc (.cells #[.bool true,.int .i64 151,.bool false,.bool false] 33)):=(Below.refl _ _).alloc (Nat.le_refl _) _
   have hB10:=Blk.new w6 33 #[.bool true,.int .i64 151,.bool false,.bool false]
   have B:=hid (books_any (hDK.next hba))
   have HB6:=hid (bthen (HB5.out.1.trans (hT6.low HB5.out.1.size)) hba)
   clear hDK hT6 hba HB5
   simp only [vAns]
   obtain ⟨G10,hG10⟩:∃ G10,G10=w6.heap.size:=⟨_,rfl⟩
   obtain ⟨w7,hw7⟩:∃ w7,w7=w6.alloc (.cells #[.bool true,.int .i64 151,.bool false,.bool false] 33):=⟨_,rfl⟩
   rw [← hw7] at B hB10 HB6
   rw [← hG10] at hB10
   go_upto_region 15 with fail
   rw [← hw7, ← hG10]
   clear hw7 hG10
   have H10:=hid hB10
   clear hB10
   go_wp2_with fail
   refine B.out.mono ?_
   rintro e w8 ⟨rfl,hb8⟩
   have hB10:=H10.out.next hb8
   have a0:w8.cell? ⟨G10,0,none⟩=some (.bool true):=hB10.cell 0
   have a1:w8.cell? ⟨G10,1,none⟩=some (.int .i64 151):=hB10.cell 1
   have a2:w8.cell? ⟨G10,2,none⟩=some (.bool false):=hB10.cell 2
   have a3:w8.cell? ⟨G10,3,none⟩=some (.bool false):=hB10.cell 3
   have l10:=hB10.lt
   have HF:=hid (HL.out.trans ((bthen HB6.out hb8).mono HL.out.size))
   clear B hb8 H10 hB10 HB6
   go_wp2_with fail
   go_ret
   exact ⟨rfl,HF.out⟩
end Go.Proofs.YtakaalldbnklcaaGreat
namespace Go.Proofs.YtakaalldbnklcaaGreat
open Go.RowKit Go.WideShapes Go.ChangeShapes Go.ChangeAt Go.Deep
set_option linter.unusedVariables false
section
variable {n0 K:Nat} {w w':World} {I:DkI} {x:DkX}
def agV (e:In.Ent) (t:Int) (u:Bool):Value:=vAns (decide ((In.askF e t u).1=1)) (if (In.askF e t u).1=1 then (In.askF e t u).2 else 0) false false
set_option maxRecDepth 100000 in
set_option maxHeartbeats 16000000 in
theorem again_any (h:PD n0 K w I x) (key s t:Int) (vb:ByteArray) (u:Bool) (hne:(In.askF (In.entAt x.m (key,s)) t u).1 ≠ 0) :
  Calls Tryz.prog 13 #[.pointer (some ⟨I.D,0,none⟩),.int .i64 key,.int .i64 s,.int .i64 t,.string vb,.bool u] w fun e w'=>e = .returned (agV (In.entAt x.m (key,s)) t u)∧Below w.heap.size w w':=by
 obtain ⟨V,hV⟩:∃ V,V=agV (In.entAt x.m (key,s)) t u:=⟨_,rfl⟩
 rw [← hV]
 have HV:=hid hV
 clear hV
 have hwb:Below w.heap.size w (w.alloc (.cells #[.bool false,.int .i64 0,.bool false,.bool false] 33)):=(Below.refl _ _).alloc (Nat.le_refl _) _
 have hGB:=Blk.new w 33 #[.bool false,.int .i64 0,.bool false,.bool false]
 have hz:=h.next hwb
 obtain ⟨wz,hwz⟩:∃ wz,wz=w.alloc (.cells #[.bool false,.int .i64 0,.bool false,.bool false] 33):=⟨_,rfl⟩
 obtain ⟨G,hGe⟩:∃ G,G=w.heap.size:=⟨_,rfl⟩
 have HW:=hid hwz
 have HGe:=hid hGe
 rw [← hwz] at hGB hz hwb
 rw [← hGe] at hGB
 obtain ⟨qv,hqv⟩:∃ qv,qv=(In.askF (In.entAt x.m (key,s)) t u).1:=⟨_,rfl⟩
 obtain ⟨qc,hqc⟩:∃ qc,qc=(In.askF (In.entAt x.m (key,s)) t u).2:=⟨_,rfl⟩
 have KA:=In.ask_any I.XI I.BI x.m key s t u wz hz.ib
 rw [← hqv] at hne
 have HNE:=hid hne
 rw [← hqv, ← hqc] at KA
 replace KA:=hid KA
 have HQ:=hid (And.intro hqv hqc)
 have hor:=askF_or (In.entAt x.m (key,s)) t u
 rw [← hqv] at hor
 have HOR:=hid hor
 have c4:w.cell? ⟨I.D,4,none⟩=some (.pointer (some ⟨I.XI,0,none⟩)):=h.blk.cell 4
 have lD:I.D < w.heap.size:=h.blk.lt
 have HZ:=hid (And.intro hz (And.intro hGB hwb))
 have HLO:=hid (show w.heap.size≤G from by rw [hGe]; exact Nat.le_refl _)
 clear h hne hwb hGB hz hwz hGe hqv hqc hor
 go_enter Tryz.func13,Tryz.ntmps13
 go_upto_region 4 with ((go_at_call 41; rw [← HW.out, ← HGe.out]; refine KA.out.mono ?_; rintro e w1 ⟨rfl,hb1⟩))
 have hP1:=HZ.out.1.next hb1
 have hG1:=HZ.out.2.1.next hb1
 have HB1:=hid (bthen HZ.out.2.2 hb1)
 clear KA HZ HW HGe c4 lD hb1
 rcases HOR.out with hv | hv | hv
 ·exact absurd hv HNE.out
 ·subst hv
  have g0:w1.cell? ⟨G,0,none⟩=some (.bool false):=hG1.cell 0
  have g1:w1.cell? ⟨G,1,none⟩=some (.int .i64 0):=hG1.cell 1
  have g2:w1.cell? ⟨G,2,none⟩=some (.bool false):=hG1.cell 2
  have g3:w1.cell? ⟨G,3,none⟩=some (.bool false):=hG1.cell 3
  have f0:=hG1.free 0
  have f1:=hG1.free 1
  have f2:=hG1.free 2
  have f3:=hG1.free 3
  have lG:=hG1.lt
  have HX:=hid hG1
  clear hP1 hG1
  go_wp2_with fail
  have hBb:=(((HB1.out.setCell (p:=⟨G,0,none⟩) HLO.out (.bool true)).setCell (p:=⟨G,1,none⟩) HLO.out (.int .i64 qc)).setCell (p:=⟨G,2,none⟩) HLO.out (.bool false)).setCell (p:=⟨G,3,none⟩) HLO.out (.bool false)
  have hB:=(((HX.out.set_ 0 (.bool true)).set_ 1 (.int .i64 qc)).set_ 2 (.bool false)).set_ 3 (.bool false)
  generalize (((w1.setCell ⟨G,0,none⟩ (.bool true)).setCell ⟨G,1,none⟩ (.int .i64 qc)).setCell ⟨G,2,none⟩ (.bool false)).setCell ⟨G,3,none⟩ (.bool false)=wf at *
  have e0:wf.cell? ⟨G,0,none⟩=some (.bool true):=hB.cell 0
  have e1:wf.cell? ⟨G,1,none⟩=some (.int .i64 qc):=hB.cell 1
  have e2:wf.cell? ⟨G,2,none⟩=some (.bool false):=hB.cell 2
  have e3:wf.cell? ⟨G,3,none⟩=some (.bool false):=hB.cell 3
  refine bodyPost_ret (v:=vAns true qc false false) (by simp [results,Tryz.results13,go_sem,e0,e1,e2,e3]; rfl) rfl ⟨by rw [HV.out]; unfold agV; rw [← HQ.out.1, ← HQ.out.2]; rfl,hBb⟩
 ·subst hv
  have g0:w1.cell? ⟨G,0,none⟩=some (.bool false):=hG1.cell 0
  have g1:w1.cell? ⟨G,1,none⟩=some (.int .i64 0):=hG1.cell 1
  have g2:w1.cell? ⟨G,2,none⟩=some (.bool false):=hG1.cell 2
  have g3:w1.cell? ⟨G,3,none⟩=some (.bool false):=hG1.cell 3
  have f0:=hG1.free 0
  have f1:=hG1.free 1
  have f2:=hG1.free 2
  have f3:=hG1.free 3
  have lG:=hG1.lt
  have HX:=hid hG1
  clear hP1 hG1
  go_wp2_with fail
  have hBb:=(((HB1.out.setCell (p:=⟨G,0,none⟩) HLO.out (.bool false)).setCell (p:=⟨G,1,none⟩) HLO.out (.int .i64 0)).setCell (p:=⟨G,2,none⟩) HLO.out (.bool false)).setCell (p:=⟨G,3,none⟩) HLO.out (.bool false)
  have hB:=(((HX.out.set_ 0 (.bool false)).set_ 1 (.int .i64 0)).set_ 2 (.bool false)).set_ 3 (.bool false)
  generalize (((w1.setCell ⟨G,0,none⟩ (.bool false)).setCell ⟨G,1,none⟩ (.int .i64 0)).setCell ⟨G,2,none⟩ (.bool false)).setCell ⟨G,3,none⟩ (.bool false)=wf at *
  have e0:wf.cell? ⟨G,0,none⟩=some (.bool false):=hB.cell 0
  have e1:wf.cell? ⟨G,1,none⟩=some (.int .i64 0):=hB.cell 1
  have e2:wf.cell? ⟨G,2,none⟩=some (.bool false):=hB.cell 2
  have e3:wf.cell? ⟨G,3,none⟩=some (.bool false):=hB.cell 3
  refine bodyPost_ret (v:=vAns false 0 false false) (by simp [results,Tryz.results13,go_sem,e0,e1,e2,e3]; rfl) rfl ⟨by rw [HV.out]; unfold agV; rw [← HQ.out.1, ← HQ.out.2]; rfl,hBb⟩
end
end Go.Proofs.YtakaalldbnklcaaGreat
