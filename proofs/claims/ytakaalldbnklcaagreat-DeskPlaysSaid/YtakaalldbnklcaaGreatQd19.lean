/-
  The document's stock book: Receive, Fit, Onward.
  The document's stock book: Fit, Onward, Free.
  The document's stock book: Onward, Free.
  The document's stock book: Allocate.
  The document's book of money: Put of an order that is there, Of.
  The document's book of money: apply.
-/
import Derived.Test.YtakaalldbnklcaaGreatQd16
import Derived.Test.YtakaalldbnklcaaGreatQd18
import Derived.StillTailTactics
import Derived.Deep.MidRow
namespace Go.Proofs.YtakaalldbnklcaaGreat.Sk
open Go.RowKit Go.WideShapes Go.ChangeShapes Go.ChangeAt Go.Deep
set_option linter.unusedVariables false
def RT2 (n R:Nat) (A1 A2:Option Addr) (k:Nat):Prop:=RT n R A1 k∨RT n R A2 k
def RefPost (base R:Nat) (A1 A2:Option Addr) (z:Int) (X:MapRel) (w:World) (e:Ending) (w':World):Prop :=
 ∃ A1' c1' is' A2' c2' rs',e = .returned (.int .i64 z)∧IsRef base w' R A1' c1' is' A2' c2' rs'∧(∀ lv' gs',X lv' gs'→RelS lv' gs' is' rs')∧Touch (RT2 w.heap.size R A1 A2) w w'
section
variable {base R c1 c2:Nat} {A1 A2:Option Addr} {is:List (Int × Int)} {rs:List Gd} {lv:List (Int × Lv)} {gs:List (Int × Gd)} {w w':World}
theorem RefPost.same {z:Int} {X:MapRel} {e:Ending} (h:IsRef base w R A1 c1 is A2 c2 rs) (hX:∀ lv' gs',X lv' gs'→RelS lv' gs' is rs) (he:e = .returned (.int .i64 z)) (hb:Below w.heap.size w w'):RefPost base R A1 A2 z X w e w' :=
 ⟨_,_,_,_,_,_,he,h.next hb,hX,.of_below hb⟩
theorem ritem_step (h:IsRef base w R A1 c1 is A2 c2 rs) (hM:RelS lv gs is rs) (hG:GoodB lv gs) (hbw:base≤w.heap.size) (id:Int) :
  Calls Tryz.prog 28 #[.pointer (some ⟨R,0,none⟩),.int .i64 id] w (RefPost base R A1 A2 (itemZ id) (ItemR lv gs id) w):=by
 have hlen:is.length≤64:=by rw [hM.lenI]; exact hG.few
 by_cases hok:1≤id∧id≤64
 ·have hz:itemZ id=0:=if_pos hok
  rw [hz]
  rcases hM.item id with ⟨k,a,hk,hy,hm,he⟩ | ⟨hm,hn,he⟩
  ·refine (ritem_old h id hok (by omega) he).mono ?_
   rintro e w' ⟨h1,rfl⟩
   refine .same h (fun lv' gs' hx => ?_) h1 (Below.refl _ _)
   rcases hx with ⟨rfl,⟨_,rfl⟩ | ⟨_,_,rfl⟩ | ⟨_,h3,_⟩⟩
   ·exact hM
   ·exact hM
   ·rw [hm] at h3; cases h3
  ·refine (ritem_new h hM.sortI id hok hn (by omega) hbw).mono ?_
   rintro e w' ⟨A',c',h1,h2,h3⟩
   refine ⟨_,_,_,_,_,_,h1,h2,fun lv' gs' hx => ?_,h3.mono (fun k hk => .inl hk)⟩
   rcases hx with ⟨rfl,⟨h4,_⟩ | ⟨_,⟨a,h4⟩,_⟩ | ⟨_,_,g,rfl⟩⟩
   ·exact absurd hok h4
   ·rw [hm] at h4; cases h4
   ·exact hM.itemR hm g
 ·have hz:itemZ id=2:=if_neg hok
  rw [hz]
  refine (ritem_no (w:=w) id hok (.pointer (some ⟨R,0,none⟩))).mono ?_
  rintro e w' ⟨h1,rfl⟩
  refine .same h (fun lv' gs' hx => ?_) h1 (Below.refl _ _)
  rcases hx with ⟨rfl,⟨_,rfl⟩ | ⟨h4,_⟩ | ⟨h4,_⟩⟩
  ·exact hM
  ·exact absurd h4 hok
  ·exact absurd h4 hok
set_option maxRecDepth 100000 in
set_option maxHeartbeats 4000000 in
theorem rrecv_arg (id q:Int) (hno:¬ (1≤q∧q≤1000000)) (v:Value) :
  Calls Tryz.prog 30 #[v,.int .i64 id,.int .i64 q] w fun e w'=>e = .returned (.int .i64 2)∧w=w':=by
 rcases (show q < 1∨(1≤q∧1000000 < q) from by omega) with h1 | ⟨h1,h2⟩
 all_goals
  clear hno
  go_enter Tryz.func30,Tryz.ntmps30
  go_wp2_with fail
  go_ret
  exact ⟨rfl,rfl⟩
set_option maxRecDepth 100000 in
set_option maxHeartbeats 8000000 in
theorem rrecv_step (h:IsRef base w R A1 c1 is A2 c2 rs) (hM:RelS lv gs is rs) (hG:GoodB lv gs) (id q:Int) :
  Calls Tryz.prog 30 #[.pointer (some ⟨R,0,none⟩),.int .i64 id,.int .i64 q] w (RefPost base R A1 A2 (recvZ lv id q) (RecvR lv gs id q) w):=by
 have hlen:is.length≤64:=by rw [hM.lenI]; exact hG.few
 by_cases hok:1≤q∧q≤1000000
 ·have F:=rfind_any h id (by omega)
  rcases hM.item id with ⟨k,a,hk,hy,hm,he⟩ | ⟨hm,hn,he⟩
  ·rw [he] at F
   have hr:=(hG.lk id a hm).2.2
   obtain ⟨g,rfl,hbg,hpr⟩:=h.elem1 hy
   have c0:=h.cell0
   have q1:w.cell? ⟨g,k * 2 + 1,none⟩=some (.int .i64 a.r):=hpr.2 1 _ rfl
   by_cases hb:1125899906842624 - q < a.r
   ·have hz:recvZ lv id q=72:=by unfold recvZ; rw [if_pos hok,hm]; simp only; rw [if_pos hb]
    have HX:Hid (∀ lv' gs',RecvR lv gs id q lv' gs'→RelS lv' gs' is rs):=hid (fun lv' gs' hx=>by
     rcases hx with ⟨rfl,⟨_,rfl⟩ | ⟨h4,_⟩⟩
     ·exact hM
     ·rw [hz] at h4; cases h4)
    rw [hz]
    obtain ⟨o1,o2⟩:=hok
    obtain ⟨r1,r2⟩:=hr
    have w1:IntKind.i64.wrap (a.r + q)=a.r + q:=IntWalk.i64_in _ ⟨by omega,by omega⟩
    have b1:decide (1125899906842624 < a.r + q)=true:=decide_eq_true (by omega)
    have b2:decide (q < 1)=false:=decide_eq_false (by omega)
    have b3:decide (1000000 < q)=false:=decide_eq_false (by omega)
    have HF:=hid F
    have H:=hid h
    have lR:R < w.heap.size:=h.blk.lt
    generalize a.r=ar at q1 w1 b1
    clear F he hy hpr h hz hb hM hm hG r1 r2
    go_enter Tryz.func30,Tryz.ntmps30
    go_wp2_with fail
    refine HF.out.mono ?_
    rintro e w1 ⟨rfl,rfl⟩
    go_wp2_with fail
    go_ret
    exact .same H.out HX.out rfl (Below.refl _ _)
   ·have hz:recvZ lv id q=0:=by unfold recvZ; rw [if_pos hok,hm]; simp only; rw [if_neg hb]
    have HX:Hid (∀ lv' gs',RecvR lv gs id q lv' gs'→RelS lv' gs' (is.set k (id,a.r + q)) rs):=hid (fun lv' gs' hx=>by
     rcases hx with ⟨rfl,⟨h4,_⟩ | ⟨_,_,b,h4,_,rfl⟩⟩
     ·exact absurd hz h4
     ·rw [hm] at h4; injection h4 with h4; subst h4; exact hM.recvR hm hy)
    rw [hz]
    obtain ⟨o1,o2⟩:=hok
    obtain ⟨r1,r2⟩:=hr
    have w1:IntKind.i64.wrap (a.r + q)=a.r + q:=IntWalk.i64_in _ ⟨by omega,by omega⟩
    have b1:decide (1125899906842624 < a.r + q)=false:=decide_eq_false (by omega)
    have b2:decide (q < 1)=false:=decide_eq_false (by omega)
    have b3:decide (1000000 < q)=false:=decide_eq_false (by omega)
    have f1:w.frozen? ⟨g,k * 2 + 1,none⟩=false:=own_free h.own1 _
    have hI:InsRow en2 2 203 base g c1 w is w:=⟨h.own1,Touch.refl _ _⟩
    have hJ:=hI.field (k:=k) (j:=1) (x':=(id,a.r + q)) (v:=.int .i64 (a.r + q)) en2_len hy (by omega) rfl
    have hB:Blk w R 84 #[.slice (some ⟨g,0,none⟩) (is.set k (id,a.r + q)).length c1,.slice A2 rs.length c2]:=by rw [List.length_set]; exact h.blk
    have hX:=hid (h.ins1 hJ hB (Touch.refl _ _) (.inr (.inl rfl)) (by have:=h.lt; omega) trivial)
    have HF:=hid F
    have lR:R < w.heap.size:=h.blk.lt
    have lg:g < w.heap.size:=hpr.1
    generalize a.r=ar at q1 w1 b1 hX HX
    clear F he hy hpr h hz hb hM hm hG r1 r2 hI hJ hB
    go_enter Tryz.func30,Tryz.ntmps30
    go_wp2_with fail
    refine HF.out.mono ?_
    rintro e w1 ⟨rfl,rfl⟩
    go_wp2_with fail
    refine wp_tail 17 (by kernel_rfl) (by kernel_rfl) ?_
    simp only [List.take_succ_cons,List.take_zero,List.drop_succ_cons,List.drop_zero]
    repeat still_step
    refine wpStill_nil ?_
    go_wp2_with fail
    go_ret
    exact ⟨_,_,_,_,_,_,rfl,hX.out.1.next (below_drewN (Below.refl _ _) 1),HX.out,(hX.out.2.mono (fun k hk => .inl hk)).drewN 1⟩
  ·rw [he] at F
   have hz:recvZ lv id q=70:=by unfold recvZ; rw [if_pos hok,hm]
   have HX:Hid (∀ lv' gs',RecvR lv gs id q lv' gs'→RelS lv' gs' is rs):=hid (fun lv' gs' hx=>by
    rcases hx with ⟨rfl,⟨_,rfl⟩ | ⟨h4,_⟩⟩
    ·exact hM
    ·rw [hz] at h4; cases h4)
   rw [hz]
   obtain ⟨o1,o2⟩:=hok
   have b2:decide (q < 1)=false:=decide_eq_false (by omega)
   have b3:decide (1000000 < q)=false:=decide_eq_false (by omega)
   have HF:=hid F
   have H:=hid h
   clear F he hn h hz hM hm hG
   go_enter Tryz.func30,Tryz.ntmps30
   go_wp2_with fail
   refine HF.out.mono ?_
   rintro e w1 ⟨rfl,rfl⟩
   go_wp2_with fail
   go_ret
   exact .same H.out HX.out rfl (Below.refl _ _)
 ·have hz:recvZ lv id q=2:=if_neg hok
  rw [hz]
  refine (rrecv_arg (w:=w) id q hok (.pointer (some ⟨R,0,none⟩))).mono ?_
  rintro e w' ⟨h1,rfl⟩
  refine .same h (fun lv' gs' hx => ?_) h1 (Below.refl _ _)
  rcases hx with ⟨rfl,⟨_,rfl⟩ | ⟨h4,_⟩⟩
  ·exact hM
  ·rw [hz] at h4; cases h4
end
end Go.Proofs.YtakaalldbnklcaaGreat.Sk
namespace Go.Proofs.YtakaalldbnklcaaGreat.Sk
open Go.RowKit Go.WideShapes Go.ChangeShapes Go.ChangeAt Go.Deep
set_option linter.unusedVariables false
section
variable {base R c1 c2:Nat} {A1 A2:Option Addr} {is:List (Int × Int)} {rs:List Gd} {lv:List (Int × Lv)} {gs:List (Int × Gd)} {w w':World}
set_option maxRecDepth 100000 in
set_option maxHeartbeats 4000000 in
theorem rfit_head (o:Int) (A:Option Addr) (cap:Nat) (ls:List Ln) (v:Value) (hno:¬ headF o ls.length) :
  Calls Tryz.prog 206 #[v,.int .i64 o,.slice A ls.length cap] w fun e w'=>e = .returned (.int .i64 2)∧Below w.heap.size w w':=by
 unfold headF at hno
 rcases (show o < 1∨(1≤o∧ls.length=0)∨(1≤o∧4 < ls.length) from by omega) with h1 | ⟨h1,h2⟩ | ⟨h1,h2⟩
 ·clear hno
  go_enter Tryz.func206,Tryz.ntmps206
  go_wp2_with fail
  go_ret
  exact ⟨rfl,Below.refl _ _⟩
 ·have b1:decide (o < 1)=false:=decide_eq_false (by omega)
  rw [h2]
  clear hno h1 h2
  go_enter Tryz.func206,Tryz.ntmps206
  go_wp2_with fail
  go_ret
  exact ⟨rfl,Below.refl _ _⟩
 ·have b1:decide (o < 1)=false:=decide_eq_false (by omega)
  have b2:decide ((ls.length:Int) < 1)=false:=decide_eq_false (by omega)
  have b3:decide ((4:Int) < (ls.length:Int))=true:=decide_eq_true (by omega)
  clear hno h1 h2
  go_enter Tryz.func206,Tryz.ntmps206
  go_wp2_with fail
  go_ret
  exact ⟨rfl,Below.refl _ _⟩
theorem hasI_false {ls:List Ln} {k:Nat} {id:Int} (h:∀ j y,j < k→ls[j]?=some y→(y.i == id)=false):hasI (ls.take k) id=false:=by
 unfold hasI
 rw [List.any_eq_false]
 intro y hy
 obtain ⟨j,hj⟩:=List.mem_iff_getElem?.1 hy
 have hjk:j < k:=by have:=(List.getElem?_eq_some_iff.1 hj).1; simp at this; omega
 rw [List.getElem?_take_of_lt hjk] at hj
 simpa using h j y hjk hj
theorem hasI_true {ls:List Ln} {k j:Nat} {id:Int} {y:Ln} (hjk:j < k) (hj:ls[j]?=some y) (hy:y.i=id):hasI (ls.take k) id=true:=by
 unfold hasI
 rw [List.any_eq_true]
 exact ⟨y,List.mem_of_getElem? (i:=j) (by rw [List.getElem?_take_of_lt hjk]; exact hj),by simpa using hy⟩
set_option maxRecDepth 100000 in
set_option maxHeartbeats 16000000 in
theorem rfit_bodyW (h:IsRef base w R A1 c1 is A2 c2 rs) (hM:RelS lv gs is rs) (hlen:is.length≤64) (hrl:rs.length≤140737488355328) (o:Int) (A:Option Addr) (cap:Nat) (ls:List Ln) (hok:headF o ls.length) (hR:Rd w A (ls.flatMap enL)) :
  Calls Tryz.prog 206 #[.pointer (some ⟨R,0,none⟩),.int .i64 o,.slice A ls.length cap] w fun e w'=>e = .returned (.int .i64 (errF lv gs o ls))∧Below w.heap.size w w':=by
 have HK:=hid hok
 obtain ⟨h1,h2,h3⟩:=hok
 have b1:decide (o < 1)=false:=decide_eq_false (by omega)
 have b2:decide ((ls.length:Int) < 1)=false:=decide_eq_false (by omega)
 have b3:decide ((4:Int) < (ls.length:Int))=false:=decide_eq_false (by omega)
 have H0:=hid (And.intro h hM)
 clear h hM h1
 go_enter Tryz.func206,Tryz.ntmps206
 go_wp2_with fail
 clear b1 b2 b3
 go_loopw [7] (fun i wr=>∃ k:Nat,k≤ls.length∧i = .int .i64 k∧Hid (∀ j,j < k→LnOk ls j)∧Below w.heap.size w wr) (fun i _=>ls.length - nOf i)
 case atStart=>exact ⟨0,Nat.zero_le _,rfl,hid (fun j hj=>by omega),Below.refl _ _⟩
 case round =>
  obtain ⟨k,hk,rfl,hLk,hb⟩:=hrel
  by_cases hlt:k < ls.length
  ·obtain ⟨x,hx⟩:∃ x,ls[k]?=some x:=⟨ls[k],List.getElem?_eq_getElem hlt⟩
   obtain ⟨b,off,hAA,hbs,hcc⟩:=(hR.below hb).at_ 2 enL_len (by omega) hx
   have HX:=hid hx
   obtain ⟨xi,xq⟩:=x
   have q0:wr.cell? ⟨b,off + k * 2,none⟩=some (.int .i64 xi):=hcc 0 _ rfl
   have q1:wr.cell? ⟨b,off + k * 2 + 1,none⟩=some (.int .i64 xq):=hcc 1 _ rfl
   subst hAA
   clear hcc hx hbs
   by_cases hq1:1≤xq
   ·by_cases hq2:xq≤1000000
    ·have d1:decide (xq < 1)=false:=decide_eq_false (by omega)
     have d2:decide (1000000 < xq)=false:=decide_eq_false (by omega)
     have HQ:=hid (And.intro hq1 hq2)
     have HB:=hid hb
     clear hq1 hq2 hb
     go_wp2_with fail
     clear q0 q1 d1 d2
     go_loopw [8] (fun j wr=>∃ m:Nat,m≤k∧j = .int .i64 m∧Hid (∀ j y,j < m→ls[j]?=some y→(y.i == xi)=false)∧Below w.heap.size w wr) (fun j _=>k - nOf j)
     case atStart=>exact ⟨0,Nat.zero_le _,rfl,hid (fun j y hj=>by omega),HB.out⟩
     case round =>
      clear HB
      obtain ⟨m,hm,rfl,hN,hb⟩:=hrel
      by_cases hmk:m < k
      ·obtain ⟨y,hy⟩:∃ y,ls[m]?=some y:=⟨ls[m],List.getElem?_eq_getElem (by omega)⟩
       obtain ⟨b',off',e,hbs,hcc⟩:=(hR.below hb).at_ 2 enL_len (by omega) hy
       simp only [Option.some.injEq,Addr.mk.injEq,and_true] at e
       obtain ⟨rfl,rfl⟩:=e
       obtain ⟨b',off',e,_,hcx⟩:=(hR.below hb).at_ 2 enL_len (by omega) HX.out
       simp only [Option.some.injEq,Addr.mk.injEq,and_true] at e
       obtain ⟨rfl,rfl⟩:=e
       obtain ⟨yi,yq⟩:=y
       have q0:wr.cell? ⟨b,off + k * 2,none⟩=some (.int .i64 xi):=hcx 0 _ rfl
       have q1:wr.cell? ⟨b,off + m * 2,none⟩=some (.int .i64 yi):=hcc 0 _ rfl
       have HY:=hid hy
       have HB:=hid hb
       clear hcc hcx hy hb hbs
       by_cases e:yi=xi
       ·have e1:(yi == xi)=true:=by simpa using e
        have HE:=hid (errF_bad (lv:=lv) (gs:=gs) (show ¬ FitOk o ls from fun hb=>by
         have:=(hb.2 k _ HX.out).2.2
         rw [hasI_true hmk HY.out e] at this
         cases this))
        clear e
        go_wp2_with fail
        go_quiet (fail)
        go_wp2_with fail
        go_ret
        rw [HE.out]
        exact ⟨rfl,below_drewN HB.out nq⟩
       ·have e1:(yi == xi)=false:=by simpa using e
        have HE:=hid e1
        clear e
        go_wp2_with fail
        go_quiet (fail)
        go_wp2_with fail
        go_roundw
        case rel=>exact ⟨m + 1,by omega,by go_num,hid (fun j z hj hz=>by
         by_cases e:j=m
         ·subst e; rw [HY.out] at hz; injection hz with hz; subst hz; exact HE.out
         ·exact hN.out j z (by omega) hz),below_drewN HB.out nq⟩
        case measure=>simp [nOf]; omega
      ·have hmm:m=k:=by omega
       subst hmm
       have HG:=hid (show LnOk ls m from fun y hy=>by
        rw [HX.out] at hy; injection hy with hy; subst hy
        exact ⟨HQ.out.1,HQ.out.2,hasI_false hN.out⟩)
       clear hN hm hmk
       go_wp2_with fail
       go_roundw
       case rel=>exact ⟨m + 1,by omega,by go_num,hid (fun j hj=>(Nat.lt_succ_iff_lt_or_eq.1 hj).elim (fun h=>hLk.out j h) (fun e=>by subst e; exact HG.out)),hb⟩
       case measure=>simp [nOf]; omega
    ·have d1:decide (xq < 1)=false:=decide_eq_false (by omega)
     have d2:decide (1000000 < xq)=true:=decide_eq_true (by omega)
     have HE:=hid (errF_bad (lv:=lv) (gs:=gs) (show ¬ FitOk o ls from fun hb=>hq2 (hb.2 k _ HX.out).2.1))
     clear hq2 hq1
     go_wp2_with fail
     go_ret
     rw [HE.out]
     exact ⟨rfl,hb⟩
   ·have d1:decide (xq < 1)=true:=decide_eq_true (by omega)
    have HE:=hid (errF_bad (lv:=lv) (gs:=gs) (show ¬ FitOk o ls from fun hb=>hq1 (hb.2 k _ HX.out).1))
    clear hq1
    go_wp2_with fail
    go_ret
    rw [HE.out]
    exact ⟨rfl,hb⟩
  ·have hk':k=ls.length:=by omega
   subst hk'
   have hOK:FitOk o ls:=⟨HK.out,fun j=>by
    by_cases hj:j < ls.length
    ·exact hLk.out j hj
    ·intro p hp
     rw [List.getElem?_eq_none (by omega)] at hp
     cases hp⟩
   have HOKK:=hid hOK
   have HB:=hid hb
   clear hLk hk hlt hb hOK
   go_wp2_with fail
   go_loopw [9] (fun i wr=>∃ k:Nat,k≤ls.length∧i = .int .i64 k∧Hid (∀ x ∈ ls.take k,∃ a,mget lv x.i=some a)∧Below w.heap.size w wr) (fun i _=>ls.length - nOf i)
   case atStart=>exact ⟨0,Nat.zero_le _,rfl,hid (fun x hx=>by simp at hx),HB.out⟩
   case round =>
    clear HB
    obtain ⟨k,hk,rfl,hN,hb⟩:=hrel
    by_cases hlt:k < ls.length
    ·obtain ⟨x,hx⟩:∃ x,ls[k]?=some x:=⟨ls[k],List.getElem?_eq_getElem hlt⟩
     obtain ⟨b,off,hAA,hbs,hcc⟩:=(hR.below hb).at_ 2 enL_len (by omega) hx
     have F:=rfind_any (H0.out.1.next hb) x.i (by omega)
     have HXM:=hid (List.mem_of_getElem? hx)
     have HT:=hid (show ls.take (k + 1)=ls.take k++[x] from by rw [List.take_add_one,hx]; rfl)
     rcases H0.out.2.item x.i with ⟨j,a,hj,hy,hm,he⟩ | ⟨hm,hn,he⟩
     ·rw [he] at F
      have HM2:=hid hm
      obtain ⟨xi,xq⟩:=x
      simp only at F
      have q0:wr.cell? ⟨b,off + k * 2,none⟩=some (.int .i64 xi):=hcc 0 _ rfl
      replace F:=hid F
      subst hAA
      clear hcc hx hbs hy hm he hj
      go_wp2_with fail
      refine F.out.mono ?_
      rintro e w5 ⟨rfl,rfl⟩
      clear q0
      go_wp2_with fail
      go_roundw
      case rel=>exact ⟨k + 1,by omega,by go_num,hid (fun y hy=>by
       rw [HT.out] at hy
       rcases List.mem_append.1 hy with hy | hy
       ·exact hN.out y hy
       ·simp only [List.mem_singleton] at hy; subst hy; exact ⟨_,HM2.out⟩),hb⟩
      case measure=>simp [nOf]; omega
     ·rw [he] at F
      have HE:=hid (errF_none (gs:=gs) HOKK.out (show knowF lv ls=false from by
       cases hk:knowF lv ls with
       | false=>rfl
       | true=>obtain ⟨a,ha⟩:=knowF_iff.1 hk x HXM.out; rw [hm] at ha; cases ha))
      obtain ⟨xi,xq⟩:=x
      simp only at F
      have q0:wr.cell? ⟨b,off + k * 2,none⟩=some (.int .i64 xi):=hcc 0 _ rfl
      replace F:=hid F
      subst hAA
      clear hcc hx hbs hn hm he
      go_wp2_with fail
      refine F.out.mono ?_
      rintro e w5 ⟨rfl,rfl⟩
      clear q0
      go_wp2_with fail
      go_ret
      rw [HE.out]
      exact ⟨rfl,hb⟩
    ·have hk':k=ls.length:=by omega
     subst hk'
     rw [List.take_length] at hN
     have hkn:knowF lv ls=true:=knowF_iff.2 hN.out
     have G:=rgoodsOf_any (H0.out.1.next hb) o (by omega)
     rcases H0.out.2.goodsW o with ⟨j,d',d,hj,hy,hm,_,_,_,he⟩ | ⟨hm,hn,he⟩
     ·rw [he] at G
      have HE:=hid (errF_there HOKK.out hkn (show (mget gs o).isSome=true from by rw [hm]; rfl))
      replace G:=hid G
      clear hN hk hlt hkn hj hy hm he
      go_wp2_with fail
      refine G.out.mono ?_
      rintro e w5 ⟨rfl,rfl⟩
      go_wp2_with fail
      go_ret
      rw [HE.out]
      exact ⟨rfl,hb⟩
     ·rw [he] at G
      have HE:=hid (errF_ok HOKK.out hkn (show (mget gs o).isSome=false from by rw [hm]; rfl))
      replace G:=hid G
      clear hN hk hlt hkn hm he hn
      go_wp2_with fail
      refine G.out.mono ?_
      rintro e w5 ⟨rfl,rfl⟩
      go_wp2_with fail
      go_ret
      rw [HE.out]
      exact ⟨rfl,hb⟩
theorem rfit_anyW (h:IsRef base w R A1 c1 is A2 c2 rs) (hM:RelS lv gs is rs) (hlen:is.length≤64) (hrl:rs.length≤140737488355328) (o:Int) (A:Option Addr) (cap:Nat) (ls:List Ln) (hR:Rd w A (ls.flatMap enL)) :
  Calls Tryz.prog 206 #[.pointer (some ⟨R,0,none⟩),.int .i64 o,.slice A ls.length cap] w fun e w'=>e = .returned (.int .i64 (errF lv gs o ls))∧Below w.heap.size w w':=by
 by_cases hok:headF o ls.length
 ·exact rfit_bodyW h hM hlen hrl o A cap ls hok hR
 ·rw [errF_bad (lv:=lv) (gs:=gs) (fun h=>hok h.1)]
  exact rfit_head o A cap ls _ hok
theorem rfit_any (h:IsRef base w R A1 c1 is A2 c2 rs) (hM:RelS lv gs is rs) (hG:GoodB lv gs) (hrl:rs.length≤140737488355328) (o:Int) (A:Option Addr) (cap:Nat) (ls:List Ln) (hR:Rd w A (ls.flatMap enL)) :
  Calls Tryz.prog 206 #[.pointer (some ⟨R,0,none⟩),.int .i64 o,.slice A ls.length cap] w fun e w'=>e = .returned (.int .i64 (errF lv gs o ls))∧Below w.heap.size w w' :=
 rfit_anyW h hM (by rw [hM.lenI]; exact hG.few) hrl o A cap ls hR
end
end Go.Proofs.YtakaalldbnklcaaGreat.Sk
namespace Go.Proofs.YtakaalldbnklcaaGreat.Sk
open Go.RowKit Go.WideShapes Go.ChangeShapes Go.ChangeAt Go.Deep
set_option linter.unusedVariables false
theorem eraseG_step {l:List Gd} {k j:Nat} {x:Gd} (hk:l[k]?=some x):(l.take (k + 1)).eraseIdx j=if k=j then (l.take k).eraseIdx j else (l.take k).eraseIdx j++[x]:=by
 have hl:=(List.getElem?_eq_some_iff.1 hk).1
 have hln:(l.take k).length=k:=by simp; omega
 rw [List.take_add_one,hk]
 show (l.take k++[x]).eraseIdx j=_
 split
 ·rename_i e
  subst e
  rw [List.eraseIdx_append_of_length_le (by omega),hln,Nat.sub_self,List.eraseIdx_of_length_le (l:=l.take k) (by omega)]
  simp
 ·rename_i e
  rcases Nat.lt_or_ge j k with h | h
  ·rw [List.eraseIdx_append_of_lt_length (by omega)]
  ·rw [List.eraseIdx_append_of_length_le (by omega),hln,List.eraseIdx_of_length_le (l:=l.take k) (by omega)]
   rw [List.eraseIdx_of_length_le (l:=[x]) (by simp only [List.length_cons,List.length_nil]; omega)]
theorem eraseG_len {l:List Gd} {k j:Nat}:((l.take k).eraseIdx j).length≤k:=by
 have h1:=List.length_eraseIdx_le (l.take k) j
 have h2:=List.length_take_le k l
 omega
section
variable {base R c1 c2:Nat} {A1 A2:Option Addr} {is:List (Int × Int)} {rs:List Gd} {lv:List (Int × Lv)} {gs:List (Int × Gd)} {w w':World}
set_option maxRecDepth 100000 in
set_option maxHeartbeats 8000000 in
theorem rgo_step (h:IsRef base w R A1 c1 is A2 c2 rs) (hM:RelS lv gs is rs) (hG:GoodB lv gs) (hrl:rs.length≤140737488355328) (o st:Int) (hst:1≤st∧st≤2) (X:MapRel)
  (hX0:∀ lv' gs',goZ gs o st ≠ 0→X lv' gs'→lv'=lv∧gs'=gs) (hX1:∀ lv' gs' d,goZ gs o st=0→mget gs o=some d→X lv' gs'→∃ f:Lv→Int→Lv,(∀ a q,(f a q).r=a.r)∧lv'=mvL f lv d.ls∧gs'=mset gs o (nextG d)) :
  Calls Tryz.prog 140 #[.pointer (some ⟨R,0,none⟩),.int .i64 o,.int .i64 st] w (RefPost base R A1 A2 (goZ gs o st) X w):=by
 have F:=rgoodsOf_any h o (by omega)
 rcases hM.goods hG o with ⟨k,d',d,hk,hy,hm,ho,hs,hls,he⟩ | ⟨hm,hn,he⟩
 ·rw [he] at F
  obtain ⟨g,hA,hbg,hpr⟩:=h.elem2 hy
  have c0:=h.cell1
  have lR:R < w.heap.size:=h.blk.lt
  by_cases hb:d.st=st
  ·have hz:goZ gs o st=0:=by unfold goZ; rw [hm]; simp only; rw [if_pos hb]
   have HX:Hid (∀ lv' gs',X lv' gs'→RelS lv' gs' is (rs.set k ⟨d'.g,d'.o,st + 1,d'.b,d'.cap,d'.ls⟩)):=hid (fun lv' gs' hx=>by
    obtain ⟨f,hf,rfl,rfl⟩:=hX1 lv' gs' d hz hm hx
    exact hM.goR hf hy ho hm hs hls d.ls (by omega))
   rw [hz]
   rw [hA] at h c0
   have hI:InsRow enG3 3 158 base g c2 w rs w:=⟨h.own2,Touch.refl _ _⟩
   have hJ:=hI.field (k:=k) (j:=1) (x':=⟨d'.g,d'.o,st + 1,d'.b,d'.cap,d'.ls⟩) (v:=.int .i64 (st + 1)) enG3_len hy (by omega) rfl
   have hB:Blk w R 84 #[.slice A1 is.length c1,.slice (some ⟨g,0,none⟩) (rs.set k ⟨d'.g,d'.o,st + 1,d'.b,d'.cap,d'.ls⟩).length c2]:=by rw [List.length_set]; exact h.blk
   have hX:=hid (h.ins2 hJ hB (Touch.refl _ _) (.inr (.inl rfl)) (by have:=h.lt; omega) (fun x hx=>by
    rcases List.mem_or_eq_of_mem_set hx with hx | rfl
    ·exact h.lns x hx
    ·exact h.lns d' (List.mem_of_getElem? hy)))
   have q1:w.cell? ⟨g,k * 3 + 1,none⟩=some (.int .i64 st):=by have:=hpr.2 1 _ rfl; rw [hs,hb] at this; exact this
   have f1:w.frozen? ⟨g,k * 3 + 1,none⟩=false:=own_free h.own2 _
   have lg:g < w.heap.size:=hpr.1
   have t1:(st != st)=false:=by simp
   obtain ⟨s1,s2⟩:=hst
   have w1:IntKind.i64.wrap (st + 1)=st + 1:=IntWalk.i64_in _ ⟨by omega,by omega⟩
   have HF:=hid F
   subst hA
   clear F he hy hpr h hz hb hM hm hG hI hJ hB hX0 hX1 ho hs hls
   go_enter Tryz.func140,Tryz.ntmps140
   go_wp2_with fail
   refine HF.out.mono ?_
   rintro e w1 ⟨rfl,rfl⟩
   go_wp2_with fail
   go_ret
   exact ⟨_,_,_,_,_,_,rfl,hX.out.1,HX.out,hX.out.2.mono (fun k hk => .inr hk)⟩
  ·have hz:goZ gs o st=130:=by unfold goZ; rw [hm]; simp only; rw [if_neg hb]
   have HX:Hid (∀ lv' gs',X lv' gs'→RelS lv' gs' is rs):=hid (fun lv' gs' hx=>by
    obtain ⟨rfl,rfl⟩:=hX0 lv' gs' (by rw [hz]; decide) hx
    exact hM)
   rw [hz]
   have q1:w.cell? ⟨g,k * 3 + 1,none⟩=some (.int .i64 d.st):=by have:=hpr.2 1 _ rfl; rw [hs] at this; exact this
   have t1:(d.st != st)=true:=by simpa using hb
   have HF:=hid F
   have H:=hid h
   rw [hA] at c0
   clear F he hy hpr h hz hb hM hm hG hX0 hX1 ho hs hls hA
   go_enter Tryz.func140,Tryz.ntmps140
   go_wp2_with fail
   refine HF.out.mono ?_
   rintro e w1 ⟨rfl,rfl⟩
   go_wp2_with fail
   go_ret
   exact .same H.out HX.out rfl (Below.refl _ _)
 ·rw [he] at F
  have hz:goZ gs o st=70:=by unfold goZ; rw [hm]
  have HX:Hid (∀ lv' gs',X lv' gs'→RelS lv' gs' is rs):=hid (fun lv' gs' hx=>by
   obtain ⟨rfl,rfl⟩:=hX0 lv' gs' (by rw [hz]; decide) hx
   exact hM)
  rw [hz]
  have HF:=hid F
  have H:=hid h
  clear F he hn h hz hM hm hG hX0 hX1
  go_enter Tryz.func140,Tryz.ntmps140
  go_wp2_with fail
  refine HF.out.mono ?_
  rintro e w1 ⟨rfl,rfl⟩
  go_wp2_with fail
  go_ret
  exact .same H.out HX.out rfl (Below.refl _ _)
theorem rship_step (h:IsRef base w R A1 c1 is A2 c2 rs) (hM:RelS lv gs is rs) (hG:GoodB lv gs) (hrl:rs.length≤140737488355328) (o:Int) :
  Calls Tryz.prog 140 #[.pointer (some ⟨R,0,none⟩),.int .i64 o,.int .i64 1] w (RefPost base R A1 A2 (goZ gs o 1) (ShipR lv gs o) w) :=
 rgo_step h hM hG hrl o 1 (by omega) _ (fun lv' gs' hz hx=>by
  rcases hx with ⟨_,h1,h2⟩ | ⟨h1,_⟩
  ·exact ⟨h1,h2⟩
  ·exact absurd h1 hz) (fun lv' gs' d hz hm hx=>by
  rcases hx with ⟨h1,_⟩ | ⟨_,d2,h2,_,h3,h4⟩
  ·exact absurd hz h1
  ·rw [hm] at h2; injection h2 with h2; subst h2; exact ⟨shipL,fun _ _=>rfl,h3,h4⟩)
theorem rrestock_step (h:IsRef base w R A1 c1 is A2 c2 rs) (hM:RelS lv gs is rs) (hG:GoodB lv gs) (hrl:rs.length≤140737488355328) (o:Int) :
  Calls Tryz.prog 140 #[.pointer (some ⟨R,0,none⟩),.int .i64 o,.int .i64 2] w (RefPost base R A1 A2 (goZ gs o 2) (RestockR lv gs o) w) :=
 rgo_step h hM hG hrl o 2 (by omega) _ (fun lv' gs' hz hx=>by
  rcases hx with ⟨_,h1,h2⟩ | ⟨h1,_⟩
  ·exact ⟨h1,h2⟩
  ·exact absurd h1 hz) (fun lv' gs' d hz hm hx=>by
  rcases hx with ⟨h1,_⟩ | ⟨_,d2,h2,_,h3,h4⟩
  ·exact absurd hz h1
  ·rw [hm] at h2; injection h2 with h2; subst h2; exact ⟨restockL,fun _ _=>rfl,h3,h4⟩)
set_option maxRecDepth 100000 in
set_option maxHeartbeats 8000000 in
theorem rfree_step (h:IsRef base w R A1 c1 is A2 c2 rs) (hM:RelS lv gs is rs) (hG:GoodB lv gs) (hl:rs.length * 40 + 40≤140737488355328) (hbw:base≤w.heap.size) (o:Int) :
  Calls Tryz.prog 139 #[.pointer (some ⟨R,0,none⟩),.int .i64 o] w (RefPost base R A1 A2 (freeZ gs o) (FreeR lv gs o) w):=by
 have F:=rgoodsOf_any h o (by omega)
 rcases hM.goods hG o with ⟨j,d',d,hj,hy,hm,ho,hs,hls,he⟩ | ⟨hm,hn,he⟩
 ·rw [he] at F
  obtain ⟨g,hA,hbg,hpr⟩:=h.elem2 hy
  have c0:=h.cell1
  have lR:R < w.heap.size:=h.blk.lt
  have hst:=(hG.gk o d hm).2.2
  have q1:w.cell? ⟨g,j * 3 + 1,none⟩=some (.int .i64 d.st):=by have:=hpr.2 1 _ rfl; rw [hs] at this; exact this
  rcases (show d.st=1∨d.st=2∨d.st=3 from by omega) with hb | hb | hb
  ·have hz:freeZ gs o=0:=by unfold freeZ; rw [hm]; simp only; rw [if_neg (by omega)]
   have HX:Hid (∀ lv' gs',FreeR lv gs o lv' gs'→RelS lv' gs' is (rs.eraseIdx j)):=hid (fun lv' gs' hx=>by
    rcases hx with ⟨h1,_⟩ | ⟨_,d2,h2,_,rfl,rfl⟩
    ·exact absurd hb (h1 d hm)
    ·exact hM.freeR hy ho d2.ls)
   rw [hz]
   rw [hb] at q1
   obtain ⟨i0,hi,hz0,hz1,hz2⟩:=info_parts info_rd
   have HF:=hid F
   have H0:=hid h
   rw [hA] at c0
   clear F he hy hpr hz hb hM hm hG ho hs hls hst hA
   go_enter Tryz.func139,Tryz.ntmps139
   go_wp2_with fail
   refine HF.out.mono ?_
   rintro e w1 ⟨rfl,rfl⟩
   go_wp2_with fail
   clear c0 q1 lR
   go_loopw [6,7] (fun v i wr=>∃ k:Nat,k≤rs.length∧i = .int .i64 k∧wr.ownsRow w.heap.size 158 3 v ((rs.take k).eraseIdx j).length (((rs.take k).eraseIdx j).flatMap enG3)∧Below w.heap.size w wr) (fun _ i _=>rs.length - nOf i)
   case atStart=>exact ⟨0,Nat.zero_le _,rfl,World.ownsRow_nil _ _ _ _,Below.refl _ _⟩
   case round =>
    have hRb:=h.lt
    clear h HF
    obtain ⟨k,hk,rfl,hO,hb⟩:=hrel
    have h:=H0.out.next hb
    have c0:=h.cell1
    have lR:R < wr.heap.size:=h.blk.lt
    have hwz:w.heap.size≤wr.heap.size:=hb.size
    by_cases hlt:k < rs.length
    ·obtain ⟨y,hy⟩:∃ y,rs[k]?=some y:=⟨rs[k],List.getElem?_eq_getElem hlt⟩
     have hst:=eraseG_step (j:=j) hy
     by_cases hkj:k=j
     ·subst hkj
      rw [if_pos rfl] at hst
      rw [← hst] at hO
      have HO:=hid (And.intro hO hb)
      clear hO h hb hy hst
      go_wp2_with fail
      go_roundw
      case rel=>exact ⟨k + 1,by omega,by go_num,HO.out.1,HO.out.2⟩
      case measure=>simp [nOf]; omega
     ·rw [if_neg hkj] at hst
      have HST:=hid hst
      have hlen:((rs.take k).eraseIdx j).length≤k:=eraseG_len
      obtain ⟨m,hm⟩:∃ m,m=((rs.take k).eraseIdx j).length:=⟨_,rfl⟩
      rw [← hm] at hO hlen
      have HM:=hid hm
      have b1:((k:Int) == (j:Int))=false:=by simp; omega
      have b2:((k:Int) != (j:Int))=true:=by simp; omega
      obtain ⟨g,hA,_,hpr⟩:=h.elem2 hy
      rw [hA] at c0
      obtain ⟨yg,yo,yst,yb,ycap,yls⟩:=y
      have p0:wr.cell? ⟨g,k * 3,none⟩=some (.int .i64 yo):=hpr.2 0 _ rfl
      have p1:wr.cell? ⟨g,k * 3 + 1,none⟩=some (.int .i64 yst):=hpr.2 1 _ rfl
      have p2:wr.cell? ⟨g,k * 3 + 2,none⟩=some (.slice (some ⟨yb,0,none⟩) yls.length ycap):=hpr.2 2 _ rfl
      have HO:=hid hO
      have hb3:=hid (hb.alloc hb.size (.cells #[.int .i64 yo,.int .i64 yst,.slice (some ⟨yb,0,none⟩) yls.length ycap] 158))
      have hk2:m * 40 + 40≤140737488355328:=by omega
      clear hpr hy h hb hO hst hm hkj hA
      go_wp2_with (first
       | (at_builtin; refine wpList_push _ rfl _ _ 82 rfl w.heap.size 158 i0 _ 3 40 Tryz.underlying82 hi hz0 hz1 hz2 rfl (by decide) _ _ _ (by rfl) HO.out #[.int .i64 yo,.int .i64 yst,.slice (some ⟨yb,0,none⟩) yls.length ycap] wr.heap.size (by simp) (by rfl) (by rfl) (by rfl) (by unfold maxLen; omega) (by omega) hwz ?_; intro v' w3 hO4 hg4))
      have hb4:=hb3.out.grown hg4 (by simp; omega) (fun k hk=>(HO.out.lt k hk).1)
      have hO5:w3.ownsRow w.heap.size 158 3 v' ((rs.take (k + 1)).eraseIdx j).length (((rs.take (k + 1)).eraseIdx j).flatMap enG3):=by
       rw [HST.out,List.flatMap_append,List.length_append, ← HM.out]
       simpa [enG3] using hO4
      clear hO4 hg4 HO hb3
      go_roundw
      case rel=>exact ⟨k + 1,by omega,by go_num,hO5,hb4⟩
      case measure=>simp [nOf]; omega
    ·have hk':k=rs.length:=by omega
     subst hk'
     rw [List.take_length] at hO
     obtain ⟨A',cap',rfl,_⟩:=own_slice hO
     have f0:wr.frozen? ⟨R,1,none⟩=false:=h.blk.free 1
     have HH:=hid (And.intro hO (And.intro h hb))
     clear hO h hb hk hlt
     go_wp2_with fail
     go_ret
     obtain ⟨hO,h,hb⟩:=HH.out
     have hg:wr.grownBy (wr.setCell ⟨R,1,none⟩ (.slice A' (rs.eraseIdx j).length cap')) (some R):=⟨rfl,rfl,rfl,by simp,fun k _ hk=>heap_setCell_other wr ⟨R,1,none⟩ k _ (fun e=>hk (by simp [e]))⟩
     have nR:∀ {v:Value} {n:Nat} {xs:List Value} {b:Nat} {t:TypeId} {s:Nat},R < b→wr.ownsRow b t s v n xs→v.ownBlock=none∨v.ownBlock ≠ some R:=fun hlt hO => .inr (fun e=>by have:=(hO.lt R e).1; omega)
     have hTR:Touch (· = R) wr (wr.setCell ⟨R,1,none⟩ (.slice A' (rs.eraseIdx j).length cap')):=Touch.setCell wr R 1 _
     refine ⟨A1,c1,is,A',cap',rs.eraseIdx j,rfl,⟨?_,h.own1.kept hg (nR hRb h.own1),ownsRow_low (hO.kept hg (nR (by omega) hO)) hbw,fun x hx=>(h.lns x (List.mem_of_mem_eraseIdx hx)).touch hTR (fun e=>by have:=(h.lns x (List.mem_of_mem_eraseIdx hx)).2.1; omega),hRb⟩,HX.out,(Touch.of_below hb).then ((Touch.setCell wr R 1 _).mono (fun k hk => .inl (.inl hk)))⟩
     have:=h.blk.set_ 1 (.slice A' (rs.eraseIdx j).length cap')
     simpa using this
  ·have hz:freeZ gs o=130:=by unfold freeZ; rw [hm]; simp only; rw [if_pos hb]
   have HX:Hid (∀ lv' gs',FreeR lv gs o lv' gs'→RelS lv' gs' is rs):=hid (fun lv' gs' hx=>by
    rcases hx with ⟨_,rfl,rfl⟩ | ⟨h2,_⟩
    ·exact hM
    ·rw [hz] at h2; cases h2)
   rw [hz]
   rw [hb] at q1
   have HF:=hid F
   have H:=hid h
   rw [hA] at c0
   clear F he hy hpr h hz hb hM hm hG ho hs hls hst hA
   go_enter Tryz.func139,Tryz.ntmps139
   go_wp2_with fail
   refine HF.out.mono ?_
   rintro e w1 ⟨rfl,rfl⟩
   go_wp2_with fail
   go_ret
   exact .same H.out HX.out rfl (Below.refl _ _)
  ·have hz:freeZ gs o=0:=by unfold freeZ; rw [hm]; simp only; rw [if_neg (by omega)]
   have HX:Hid (∀ lv' gs',FreeR lv gs o lv' gs'→RelS lv' gs' is rs):=hid (fun lv' gs' hx=>by
    rcases hx with ⟨_,rfl,rfl⟩ | ⟨_,d2,h2,h3,_⟩
    ·exact hM
    ·rw [hm] at h2; injection h2 with h2; subst h2; omega)
   rw [hz]
   rw [hb] at q1
   have HF:=hid F
   have H:=hid h
   rw [hA] at c0
   clear F he hy hpr h hz hb hM hm hG ho hs hls hst hA
   go_enter Tryz.func139,Tryz.ntmps139
   go_wp2_with fail
   refine HF.out.mono ?_
   rintro e w1 ⟨rfl,rfl⟩
   go_wp2_with fail
   go_ret
   exact .same H.out HX.out rfl (Below.refl _ _)
 ·rw [he] at F
  have hz:freeZ gs o=70:=by unfold freeZ; rw [hm]
  have HX:Hid (∀ lv' gs',FreeR lv gs o lv' gs'→RelS lv' gs' is rs):=hid (fun lv' gs' hx=>by
   rcases hx with ⟨_,rfl,rfl⟩ | ⟨h2,_⟩
   ·exact hM
   ·rw [hz] at h2; cases h2)
  rw [hz]
  have HF:=hid F
  have H:=hid h
  clear F he hn h hz hM hm hG
  go_enter Tryz.func139,Tryz.ntmps139
  go_wp2_with fail
  refine HF.out.mono ?_
  rintro e w1 ⟨rfl,rfl⟩
  go_wp2_with fail
  go_ret
  exact .same H.out HX.out rfl (Below.refl _ _)
end
end Go.Proofs.YtakaalldbnklcaaGreat.Sk
namespace Go.Proofs.YtakaalldbnklcaaGreat.Sk
open Go.RowKit Go.WideShapes Go.ChangeShapes Go.ChangeAt Go.Deep
set_option linter.unusedVariables false
section
variable {base R c1 c2:Nat} {A1 A2:Option Addr} {is:List (Int × Int)} {rs:List Gd} {lv:List (Int × Lv)} {gs:List (Int × Gd)} {w w':World}
theorem RT_mono {n n':Nat} {A:Option Addr} {k:Nat} (h:n≤n') (hk:RT n' R A k):RT n R A k:=by
 rcases hk with e | e | e
 ·exact .inl e
 ·exact .inr (.inl e)
 ·exact .inr (.inr (by omega))
set_option maxRecDepth 100000 in
set_option maxHeartbeats 16000000 in
theorem ralloc_step (h:IsRef base w R A1 c1 is A2 c2 rs) (hM:RelS lv gs is rs) (hG:GoodB lv gs) (hl:rs.length≤3000000000000) (hbw:base≤w.heap.size) (o:Int) (A:Option Addr) (cap:Nat) (ls:List Ln) (hR:Rd w A (ls.flatMap enL)) (hln:ls.length≤140737488355328) :
  Calls Tryz.prog 138 #[.pointer (some ⟨R,0,none⟩),.int .i64 o,.slice A ls.length cap] w (RefPost base R A1 A2 (allocZ lv gs o ls) (AllocR lv gs o ls) w):=by
 have hlen:is.length≤64:=by rw [hM.lenI]; exact hG.few
 have F:=rfit_any h hM hG (by omega) o A cap ls hR
 by_cases hz:errF lv gs o ls=0
 ·obtain ⟨hfit,hkn,hnone⟩:=errF_zero hz
  rw [hz] at F
  have hl4:=hfit.1.2.2
  have hl1:=hfit.1.2.1
  obtain ⟨i0,hi,hz0,hz1,hz2⟩:=info_parts info_rl
  have HF:=hid F
  have H0:=hid (And.intro h (And.intro hM hG))
  have HZ:=hid hz
  have HFIT:=hid hfit
  have HKN:=hid hkn
  have HNO:=hid hnone
  clear F h hM hG hz hfit hkn hnone hln
  go_enter Tryz.func138,Tryz.ntmps138
  go_wp2_with fail
  refine HF.out.mono ?_
  rintro e w1 ⟨rfl,hb1⟩
  clear HF
  go_wp2_with fail
  go_loopw [8] (fun i wr=>∃ k:Nat,k≤ls.length∧i = .int .i64 k∧Hid (∀ x ∈ ls.take k,shortL lv x=false)∧Below w.heap.size w wr) (fun i _=>ls.length - nOf i)
  case atStart=>exact ⟨0,Nat.zero_le _,rfl,hid (fun x hx=>by simp at hx),hb1⟩
  case round =>
   clear hb1
   obtain ⟨k,hk,rfl,hN,hb⟩:=hrel
   by_cases hlt:k < ls.length
   ·obtain ⟨x,hx⟩:∃ x,ls[k]?=some x:=⟨ls[k],List.getElem?_eq_getElem hlt⟩
    obtain ⟨b,off,hAA,hbs,hcc⟩:=(hR.below hb).at_ 2 enL_len (by omega) hx
    have F:=rfind_any (H0.out.1.next hb) x.i (by omega)
    have HXM:=hid (List.mem_of_getElem? hx)
    have HT:=hid (show ls.take (k + 1)=ls.take k++[x] from by rw [List.take_add_one,hx]; rfl)
    obtain ⟨a,ha⟩:=knowF_iff.1 HKN.out x HXM.out
    obtain ⟨j,hj,hy,he⟩:∃ j,j < is.length∧is[j]?=some (x.i,a.r)∧plc (isI x.i) is=j:=by
     rcases H0.out.2.1.item x.i with ⟨j,a',hj,hy,hm,he⟩ | ⟨hm,_⟩
     ·rw [ha] at hm; injection hm with hm; subst hm; exact ⟨j,hj,hy,he⟩
     ·rw [ha] at hm; cases hm
    rw [he] at F
    have hlk:=H0.out.2.2.lk x.i a ha
    have L:=rlevelOf_any (H0.out.1.next hb) j x.i a.r hy hlk.2.2 (fun d hd=>⟨(H0.out.2.1.rsOk H0.out.2.2 d hd).1.1.2.2,(H0.out.2.1.rsOk H0.out.2.2 d hd).1.2,(H0.out.2.1.rsOk H0.out.2.2 d hd).2⟩) (by omega) hl
    have hsm:=H0.out.2.2.sm x.i a ha
    rw [H0.out.2.1.sums H0.out.2.2,H0.out.2.1.sums H0.out.2.2,H0.out.2.1.sums H0.out.2.2] at L
    unfold lvC at L
    rw [← hsm.2.2.2.1] at L
    have hsh:shortL lv x=decide (a.h < x.q):=by unfold shortL; rw [ha]
    generalize sq 1 gs x.i=v1 at L
    generalize sq 2 gs x.i + sq 3 gs x.i=v2 at L
    generalize sq 3 gs x.i=v3 at L
    obtain ⟨xi,xq⟩:=x
    simp only at F L hsh
    have q0:wr.cell? ⟨b,off + k * 2,none⟩=some (.int .i64 xi):=hcc 0 _ rfl
    have q1:wr.cell? ⟨b,off + k * 2 + 1,none⟩=some (.int .i64 xq):=hcc 1 _ rfl
    replace F:=hid F
    replace L:=hid L
    generalize a.h=ah at L hsh
    generalize a.r=ar at L
    subst hAA
    have HB:=hid hb
    have HC:=hid (fun w' (hb':Below w.heap.size w w')=>(hR.below hb').at_ 2 enL_len (by omega) hx)
    clear hcc hx hbs hy he hj ha hlk hsm hb
    go_wp2_with fail
    refine F.out.mono ?_
    rintro e w5 ⟨rfl,rfl⟩
    go_wp2_with fail
    refine L.out.mono ?_
    rintro e w6 ⟨rfl,hb6⟩
    have hwb:Below w6.heap.size w6 (w6.alloc (.cells #[.int .i64 xi,.int .i64 ar,.int .i64 ah,.int .i64 v1,.int .i64 v2,.int .i64 v3] 152)):=(Below.refl _ _).alloc (Nat.le_refl _) _
    have hYB:=Blk.new w6 152 #[.int .i64 xi,.int .i64 ar,.int .i64 ah,.int .i64 v1,.int .i64 v2,.int .i64 v3]
    have hbz:=bthen (bthen HB.out hb6) hwb
    have r2:(w6.alloc (.cells #[.int .i64 xi,.int .i64 ar,.int .i64 ah,.int .i64 v1,.int .i64 v2,.int .i64 v3] 152)).cell? ⟨w6.heap.size,2,none⟩=some (.int .i64 ah):=hYB.cell 2
    have r3:(w6.alloc (.cells #[.int .i64 xi,.int .i64 ar,.int .i64 ah,.int .i64 v1,.int .i64 v2,.int .i64 v3] 152)).cell? ⟨b,off + k * 2 + 1,none⟩=some (.int .i64 xq):=by
     obtain ⟨b',off',e,_,hcx⟩:=HC.out _ hbz
     simp only [Option.some.injEq,Addr.mk.injEq,and_true] at e
     obtain ⟨rfl,rfl⟩:=e
     exact hcx 1 _ rfl
    have HBZ:=hid hbz
    clear F L hb6 hwb hYB hbz q0 q1 HB HC
    by_cases hs:ah < xq
    ·have d1:decide (ah < xq)=true:=decide_eq_true hs
     have hzz:allocZ lv gs o ls=150:=by
      unfold allocZ
      rw [if_pos HZ.out,if_pos (List.any_eq_true.2 ⟨_,HXM.out,by rw [hsh]; exact d1⟩)]
     have HX:Hid (∀ lv' gs',AllocR lv gs o ls lv' gs'→RelS lv' gs' is rs):=hid (fun lv' gs' hx=>by
      rcases hx with ⟨_,rfl,rfl⟩ | ⟨h2,_⟩
      ·exact H0.out.2.1
      ·rw [hzz] at h2; cases h2)
     have HZZ:=hid hzz
     clear hzz hsh hs
     go_wp2_with fail
     go_quiet (fail)
     go_wp2_with fail
     go_ret
     rw [HZZ.out]
     exact .same H0.out.1 HX.out rfl (below_drewN HBZ.out nq)
    ·have d1:decide (ah < xq)=false:=decide_eq_false hs
     rw [d1] at hsh
     have HSH:=hid hsh
     clear hsh hs
     go_wp2_with fail
     go_quiet (fail)
     have hbq:=below_drewN HBZ.out nq
     clear r2 r3 d1 HBZ
     go_wp2_with fail
     go_roundw
     case rel=>exact ⟨k + 1,by omega,by go_num,hid (fun y hy=>by
      rw [HT.out] at hy
      rcases List.mem_append.1 hy with hy | hy
      ·exact hN.out y hy
      ·simp only [List.mem_singleton] at hy; subst hy; exact HSH.out),hbq⟩
     case measure=>simp [nOf]; omega
   ·have hk':k=ls.length:=by omega
    subst hk'
    rw [List.take_length] at hN
    have hany:ls.any (shortL lv)=false:=by
     rw [List.any_eq_false]
     intro x hx
     rw [hN.out x hx]
     simp
    have HANY:=hid hany
    have HB:=hid hb
    clear hN hk hlt hany hb
    go_wp2_with fail
    go_loopw [12,11] (fun i v wr=>∃ k:Nat,k≤ls.length∧i = .int .i64 k∧wr.ownsRow w.heap.size 205 2 v k ((ls.take k).flatMap enL)∧Below w.heap.size w wr) (fun i _ _=>ls.length - nOf i)
    case atStart=>exact ⟨0,Nat.zero_le _,rfl,World.ownsRow_nil _ _ _ _,HB.out⟩
    case round =>
     clear HB
     obtain ⟨k,hk,rfl,hO,hb⟩:=hrel
     have hwz:w.heap.size≤wr.heap.size:=hb.size
     by_cases hlt:k < ls.length
     ·obtain ⟨x,hx⟩:∃ x,ls[k]?=some x:=⟨ls[k],List.getElem?_eq_getElem hlt⟩
      obtain ⟨b,off,hAA,hbs,hcc⟩:=(hR.below hb).at_ 2 enL_len (by omega) hx
      have HT:=hid (show ls.take (k + 1)=ls.take k++[x] from by rw [List.take_add_one,hx]; rfl)
      obtain ⟨xi,xq⟩:=x
      have q0:wr.cell? ⟨b,off + k * 2,none⟩=some (.int .i64 xi):=hcc 0 _ rfl
      have q1:wr.cell? ⟨b,off + k * 2 + 1,none⟩=some (.int .i64 xq):=hcc 1 _ rfl
      have HO:=hid hO
      have hb3:=hid (hb.alloc hb.size (.cells #[.int .i64 xi,.int .i64 xq] 205))
      subst hAA
      clear hcc hx hbs hO hb
      go_wp2_with (first
       | (at_builtin; refine wpList_push _ rfl _ _ 106 rfl w.heap.size 205 i0 _ 2 16 Tryz.underlying106 hi hz0 hz1 hz2 rfl (by decide) _ _ _ (by rfl) HO.out #[.int .i64 xi,.int .i64 xq] wr.heap.size (by simp) (by rfl) (by rfl) (by rfl) (by unfold maxLen; omega) (by omega) hwz ?_; intro v' w3 hO4 hg4))
      have hb4:=hb3.out.grown hg4 (by simp; omega) (fun k hk=>(HO.out.lt k hk).1)
      have hO5:w3.ownsRow w.heap.size 205 2 v' (k + 1) ((ls.take (k + 1)).flatMap enL):=by
       rw [HT.out,List.flatMap_append]
       simpa [enL] using hO4
      clear hO4 hg4 HO hb3
      go_roundw
      case rel=>exact ⟨k + 1,by omega,by go_num,hO5,hb4⟩
      case measure=>simp [nOf]; omega
     ·have hk':k=ls.length:=by omega
      subst hk'
      rw [List.take_length] at hO
      obtain ⟨A',cap',rfl,_⟩:=own_slice hO
      obtain ⟨g,cq,e7,hg1,_⟩:=own_form hO (by omega)
      injection e7 with e8 e9 e10
      subst e8 e10
      have hLns:LnsAt base wr ⟨0,o,1,g,cap',ls⟩:=⟨own_rd hO,by show base≤g; omega,rowBlk15 hO rfl⟩
      have hno:o ∉ rs.map Gd.o:=fun hin=>by
       rcases H0.out.2.1.goods H0.out.2.2 o with ⟨_,_,d,_,_,hm,_⟩ | ⟨_,hn,_⟩
       ·rw [HNO.out] at hm; cases hm
       ·obtain ⟨y,hy,e⟩:=List.mem_map.1 hin
        exact hn y hy e
      have K:=hid (rput_any (H0.out.1.next hb) H0.out.2.1.sortG ⟨0,o,1,g,cap',ls⟩ hno hLns (by omega) (by omega))
      have hzz:allocZ lv gs o ls=0:=by unfold allocZ; rw [if_pos HZ.out,HANY.out]; rfl
      have HX:Hid (∀ lv' gs',AllocR lv gs o ls lv' gs'→RelS lv' gs' is (insK Gd.o ltI rs ⟨0,o,1,g,cap',ls⟩)):=hid (fun lv' gs' hx=>by
       rcases hx with ⟨h2,_⟩ | ⟨_,_,_,rfl,d,hd,rfl⟩
       ·exact absurd hzz h2
       ·exact H0.out.2.1.allocR HNO.out hd ⟨rfl,rfl,rfl⟩)
      have HZZ:=hid hzz
      have HB:=hid hb
      clear hO hLns hno hzz hb hk hlt
      go_wp2_with fail
      refine K.out.mono ?_
      rintro e w8 ⟨A8,c8,rfl,hI8,hT8⟩
      have HE:=hid (And.intro hI8 ((Touch.of_below (S:=RT2 w.heap.size R A1 A2) HB.out).trans hT8 (fun k hk => .inl (.inr (RT_mono HB.out.size hk)))))
      clear K hI8 hT8
      go_wp2_with fail
      go_ret
      rw [HZZ.out]
      exact ⟨_,_,_,_,_,_,rfl,HE.out.1,HX.out,HE.out.2⟩
 ·have hzz:allocZ lv gs o ls=errF lv gs o ls:=if_neg hz
  have HX:Hid (∀ lv' gs',AllocR lv gs o ls lv' gs'→RelS lv' gs' is rs):=hid (fun lv' gs' hx=>by
   rcases hx with ⟨_,rfl,rfl⟩ | ⟨h2,_⟩
   ·exact hM
   ·rw [hzz] at h2; exact absurd h2 hz)
  rw [hzz]
  have hzb:(errF lv gs o ls != 0)=true:=by simpa using hz
  generalize errF lv gs o ls=z at F hzb
  have HF:=hid F
  have H:=hid h
  clear F hz h hM hG hzz hR
  go_enter Tryz.func138,Tryz.ntmps138
  go_wp2_with fail
  refine HF.out.mono ?_
  rintro e w1 ⟨rfl,hb1⟩
  go_wp2_with fail
  go_ret
  exact .same H.out HX.out rfl hb1
end
end Go.Proofs.YtakaalldbnklcaaGreat.Sk
namespace Go.Proofs.YtakaalldbnklcaaGreat.Mo
open Go.RowKit Go.WideShapes Go.ChangeShapes Go.ChangeAt Go.Deep
set_option linter.unusedVariables false
structure RelC (F:Int→Option Ca) (L:List Ca):Prop where
 sorted:SortedK Ca.o ltI L
 mem:∀ o a,F o=some a ↔ a ∈ L∧a.o=o
theorem RelC.nil:RelC (cfind []) []:=⟨List.Pairwise.nil,fun o a=>⟨fun h=>(by cases h),fun h=>(by cases h.1)⟩⟩
theorem RelC.none {F:Int→Option Ca} {L:List Ca} (h:RelC F L) {o:Int}:F o=Option.none ↔ o ∉ L.map Ca.o:=by
 constructor
 ·intro hn hin
  obtain ⟨a,ha,e⟩:=List.mem_map.1 hin
  have:=(h.mem o a).2 ⟨ha,e⟩
  rw [hn] at this
  cases this
 ·intro hn
  cases hf:F o with
  | none=>rfl
  | some a =>
   have:=(h.mem o a).1 hf
   exact absurd (List.mem_map.2 ⟨a,this.1,this.2⟩) hn
theorem RelC.put {F:Int→Option Ca} {L L':List Ca} {a:Ca} (h:RelC F L) (h1:a.o ∈ L.map Ca.o→L'=updK Ca.o L a) (h2:a.o ∉ L.map Ca.o→L'=insK Ca.o ltI L a):RelC (updC F a.o (some a)) L':=by
 by_cases hin:a.o ∈ L.map Ca.o
 ·rw [h1 hin]
  refine ⟨updK_sorted h.sorted,fun o b => ?_⟩
  unfold updC updK
  simp only
  rw [List.mem_map]
  constructor
  ·intro hb
   split at hb
   ·rename_i e
    injection hb with hb
    subst hb
    obtain ⟨y,hy,ey⟩:=List.mem_map.1 hin
    exact ⟨⟨y,hy,by rw [if_pos ey]⟩,e.symm⟩
   ·rename_i e
    obtain ⟨g1,g2⟩:=(h.mem o b).1 hb
    exact ⟨⟨b,g1,by rw [if_neg (fun e'=>e (by rw [← g2,e']))]⟩,g2⟩
  ·rintro ⟨⟨y,hy,ey⟩,e⟩
   by_cases hc:y.o=a.o
   ·rw [if_pos hc] at ey
    subst ey
    rw [if_pos e.symm]
   ·rw [if_neg hc] at ey
    subst ey
    rw [if_neg (fun e'=>hc (by rw [← e', ← e]))]
    exact (h.mem o y).2 ⟨hy,e⟩
 ·rw [h2 hin]
  refine ⟨insK_sorted linI h.sorted hin,fun o b => ?_⟩
  rw [(insK_perm L a).mem_iff,List.mem_cons]
  unfold updC
  simp only
  constructor
  ·intro hb
   split at hb
   ·rename_i e
    injection hb with hb
    subst hb
    exact ⟨.inl rfl,e.symm⟩
   ·obtain ⟨g1,g2⟩:=(h.mem o b).1 hb
    exact ⟨.inr g1,g2⟩
  ·rintro ⟨rfl | g1,e⟩
   ·rw [if_pos e.symm]
   ·have hne:¬ o=a.o:=fun e'=>hin (by rw [← e', ← e]; exact List.mem_map_of_mem g1)
    rw [if_neg hne]
    exact (h.mem o b).2 ⟨g1,e⟩
theorem RelC.at_ {F:Int→Option Ca} {L:List Ca} (h:RelC F L) (o:Int):(∃ (k:Nat) (a:Ca),k < L.length∧L[k]?=some a∧F o=some a∧a.o=o∧plc (isO o) L=k)∨(F o=Option.none∧plc (isO o) L = -1):=by
 rcases plc_cases (isO o) L with ⟨k,y,h1,h2,h3,h4⟩ | ⟨h1,h2⟩
 ·have e:y.o=o:=by simpa [isO] using h3
  exact .inl ⟨k,y,h1,h2,(h.mem o y).2 ⟨List.mem_of_getElem? h2,e⟩,e,h4⟩
 ·refine .inr ⟨h.none.2 (fun hin => ?_),h2⟩
  obtain ⟨a,ha,e⟩:=List.mem_map.1 hin
  have:=h1 a ha
  simp [isO,e] at this
theorem setCells_many (g:Nat):∀ (vs:List Value) (o:Nat) (w:World),w.setCells g o vs=storeMany w g o vs
 | [],_,_=>rfl
 | v :: r,o,w=>by rw [World.setCells,storeMany]; exact setCells_many g r (o + 1) _
section
variable {base R cap:Nat} {A:Option Addr} {L:List Ca} {d:Int} {w w' w4 wr:World}
set_option maxRecDepth 100000 in
set_option maxHeartbeats 16000000 in
theorem rputo_any (h:IsRf base w R A cap L d) (hs:SortedK Ca.o ltI L) (a:Ca) (hn:a.o ∈ L.map Ca.o) (hl:L.length≤140737488355328) (hbw:base≤w.heap.size) :
  Calls Tryz.prog 110 #[.pointer (some ⟨R,0,none⟩),.agg (celC a)] w (PutC base R A L a d w):=by
 obtain ⟨zo,zc,zst,zlv,znet,ztax,zap,zwr,zdep⟩:=a
 obtain ⟨k,y,hkl,hy,hyo,hpl⟩:∃ (k:Nat) (y:Ca),k < L.length∧L[k]?=some y∧y.o=zo∧plc (isO zo) L=k:=by
  rcases plc_cases (isO zo) L with ⟨k,y,h1,h2,h3,h4⟩ | ⟨h1,_⟩
  ·exact ⟨k,y,h1,h2,by simpa [isO] using h3,h4⟩
  ·obtain ⟨y,hy,e⟩:=List.mem_map.1 hn
   have:=h1 y hy
   simp only at e
   simp [isO,e] at this
 have HK:=hid (And.intro hn (And.intro (updK_set linI hs hy (e:=(⟨zo,zc,zst,zlv,znet,ztax,zap,zwr,zdep⟩:Ca)) hyo) (show zo ∈ L.map Ca.o from hn)))
 clear hn hs hyo
 simp only [celC]
 obtain ⟨wz,hwz⟩:∃ wz,wz=w.alloc (.cells #[.int .i64 zo,.int .i64 zc,.int .i64 zst,.int .i64 zlv,.int .i64 znet,.int .i64 ztax,.int .i64 zap,.int .i64 zwr,.int .i64 zdep] 164):=⟨_,rfl⟩
 obtain ⟨G0,hG0⟩:∃ G0,G0=w.heap.size:=⟨_,rfl⟩
 have hz:IsRf base wz R A cap L d:=by rw [hwz]; exact h.alloc _
 have hGz:Blk wz G0 164 #[.int .i64 zo,.int .i64 zc,.int .i64 zst,.int .i64 zlv,.int .i64 znet,.int .i64 ztax,.int .i64 zap,.int .i64 zwr,.int .i64 zdep]:=by rw [hwz,hG0]; exact Blk.new _ _ _
 have hTz:Touch (RT w.heap.size R A) w wz:=by rw [hwz]; exact (Touch.refl _ _).alloc _
 have F:=hid (rfind_any hz zo hl)
 rw [hpl] at F
 obtain ⟨g,hA,hbg,hpr⟩:=hz.elem hy
 subst hA
 have HW:=hid hwz
 have HG:=hid hG0
 have hRg:g ≠ R:=by have:=h.lt; omega
 have hth:(wz.drew).there g (k * 9) 9:=fun j hj=>⟨by
  obtain ⟨u,hu⟩:∃ u,(enC9 y)[j]?=some u:=⟨_,List.getElem?_eq_getElem (by rw [enC9_len]; exact hj)⟩
  have:=hpr.2 j u hu
  show (wz.cell? ⟨g,k * 9 + j,none⟩).isSome=true
  rw [this]; rfl,own_free hz.own (k * 9 + j)⟩
 have HTH:=hid hth
 clear hwz hG0 hpl h hy
 go_enter Tryz.func110,Tryz.ntmps110
 go_wp2_with fail
 rw [← HW.out, ← HG.out]
 refine F.out.mono ?_
 rintro e w1 ⟨rfl,rfl⟩
 have t0:decide ((0:Int)≤(k:Int))=true:=decide_eq_true (by omega)
 have c0:wz.cell? ⟨R,0,none⟩=some (.slice (some ⟨g,0,none⟩) L.length cap):=hz.blk.cell 0
 have g0:wz.cell? ⟨G0,0,none⟩=some (.int .i64 zo):=hGz.cell 0
 have g1:wz.cell? ⟨G0,1,none⟩=some (.int .i64 zc):=hGz.cell 1
 have g2:wz.cell? ⟨G0,2,none⟩=some (.int .i64 zst):=hGz.cell 2
 have g3:wz.cell? ⟨G0,3,none⟩=some (.int .i64 zlv):=hGz.cell 3
 have g4:wz.cell? ⟨G0,4,none⟩=some (.int .i64 znet):=hGz.cell 4
 have g5:wz.cell? ⟨G0,5,none⟩=some (.int .i64 ztax):=hGz.cell 5
 have g6:wz.cell? ⟨G0,6,none⟩=some (.int .i64 zap):=hGz.cell 6
 have g7:wz.cell? ⟨G0,7,none⟩=some (.int .i64 zwr):=hGz.cell 7
 have g8:wz.cell? ⟨G0,8,none⟩=some (.int .i64 zdep):=hGz.cell 8
 have lR:R < wz.heap.size:=hz.blk.lt
 have lG:G0 < wz.heap.size:=hGz.lt
 have lg:g < wz.heap.size:=hpr.1
 have hJ:=own_set enC9_len (hz.next (below_drewN (Below.refl _ _) 1:Below wz.heap.size wz wz.drew)).own (k:=k) hkl (⟨zo,zc,zst,zlv,znet,ztax,zap,zwr,zdep⟩:Ca)
 have HJ:=hid hJ
 have HB:=hid (And.intro ((hz.next (below_drewN (Below.refl _ _) 1:Below wz.heap.size wz wz.drew)).blk) hz.lt)
 have HT:=hid hTz
 clear hJ hz hGz hpr hTz F hth
 go_wp2_with fail
 refine wp_tail 7 (by kernel_rfl) (by kernel_rfl) ?_
 simp only [List.take_succ_cons,List.take_zero,List.drop_succ_cons,List.drop_zero]
 repeat still_step
 refine wpStill_nil ?_
 refine wpList_store_mid rfl 164 _ _ rfl g (k * 9) #[.int .i64 zo,.int .i64 zc,.int .i64 zst,.int .i64 zlv,.int .i64 znet,.int .i64 ztax,.int .i64 zap,.int .i64 zwr,.int .i64 zdep] rfl rfl HTH.out (by kernel_rfl) (by simp [Value.oneCell']) ?_
 rw [setCells_many]
 go_wp2_with fail
 refine bodyPost_ret (results_none rfl _ _ _) rfl ?_
 have hTt:=Touch.of_grown HJ.out.2
 exact ⟨some ⟨g,0,none⟩,cap,L.set k (⟨zo,zc,zst,zlv,znet,ztax,zap,zwr,zdep⟩:Ca),rfl,⟨by rw [List.length_set]; exact hTt.blk HB.out.1 (fun e=>hRg e.symm),HJ.out.1,HB.out.2⟩,fun _=>HK.out.2.1.symm,fun hh=>absurd HK.out.2.2 hh,HT.out.then ((Touch.of_below (below_drewN (Below.refl _ _) 1:Below wz.heap.size wz wz.drew)).then (hTt.mono (fun k hk => .inr (.inl (by rw [hk]; rfl)))))⟩
theorem rput_any (h:IsRf base w R A cap L d) (hs:SortedK Ca.o ltI L) (a:Ca) (hl:L.length * 72 + 72≤140737488355328) (hbw:base≤w.heap.size) :
  Calls Tryz.prog 110 #[.pointer (some ⟨R,0,none⟩),.agg (celC a)] w (PutC base R A L a d w):=by
 by_cases hn:a.o ∈ L.map Ca.o
 ·exact rputo_any h hs a hn (by omega) hbw
 ·exact rputn_any h hs a hn hl hbw
set_option maxRecDepth 100000 in
set_option maxHeartbeats 8000000 in
theorem rof_any (h:IsRf base w R A cap L d) {F:Int→Option Ca} (hF:RelC F L) (o c:Int) (hl:L.length≤140737488355328) :
  Calls Tryz.prog 75 #[.pointer (some ⟨R,0,none⟩),.int .i64 o,.int .i64 c] w fun e w'=>e = .returned (.agg (celC (acOf F o c)))∧Below w.heap.size w w':=by
 have hwb:Below w.heap.size w (w.alloc (.cells #[.int .i64 0,.int .i64 0,.int .i64 0,.int .i64 0,.int .i64 0,.int .i64 0,.int .i64 0,.int .i64 0,.int .i64 0] 164)):=(Below.refl _ _).alloc (Nat.le_refl _) _
 have hGB:=Blk.new w 164 #[.int .i64 0,.int .i64 0,.int .i64 0,.int .i64 0,.int .i64 0,.int .i64 0,.int .i64 0,.int .i64 0,.int .i64 0]
 have h1:=h.next hwb
 obtain ⟨W0,hW0⟩:∃ W0,W0=w.alloc (.cells #[.int .i64 0,.int .i64 0,.int .i64 0,.int .i64 0,.int .i64 0,.int .i64 0,.int .i64 0,.int .i64 0,.int .i64 0] 164):=⟨_,rfl⟩
 obtain ⟨G,hG⟩:∃ G,G=w.heap.size:=⟨_,rfl⟩
 rw [← hW0] at hwb hGB h1
 rw [← hG] at hGB
 have HLO:=hid (Nat.le_of_eq hG.symm)
 have HB:=hid hwb
 have HW0:=hid hW0
 have HGG:=hid hG
 have HG:=hid hGB
 have K:=rfind_any h1 o hl
 rcases hF.at_ o with ⟨k,a,hkl,hk,hf,hao,hp⟩ | ⟨hf,hp⟩
 ·clear hao
  have e:acOf F o c=a:=acOf_some hf
  rw [e]
  rw [hp] at K
  replace K:=hid K
  obtain ⟨g,hA,_,hpr⟩:=h1.elem hk
  subst hA
  obtain ⟨yo,yc,yst,ylv,ynet,ytax,yap,ywr,ydep⟩:=a
  have t0:decide ((0:Int)≤(k:Int))=true:=decide_eq_true (by omega)
  have c0:W0.cell? ⟨R,0,none⟩=some (.slice (some ⟨g,0,none⟩) L.length cap):=h1.blk.cell 0
  have p0:W0.cell? ⟨g,k * 9,none⟩=some (.int .i64 yo):=hpr.2 0 _ rfl
  have p1:W0.cell? ⟨g,k * 9 + 1,none⟩=some (.int .i64 yc):=hpr.2 1 _ rfl
  have p2:W0.cell? ⟨g,k * 9 + 2,none⟩=some (.int .i64 yst):=hpr.2 2 _ rfl
  have p3:W0.cell? ⟨g,k * 9 + 3,none⟩=some (.int .i64 ylv):=hpr.2 3 _ rfl
  have p4:W0.cell? ⟨g,k * 9 + 4,none⟩=some (.int .i64 ynet):=hpr.2 4 _ rfl
  have p5:W0.cell? ⟨g,k * 9 + 5,none⟩=some (.int .i64 ytax):=hpr.2 5 _ rfl
  have p6:W0.cell? ⟨g,k * 9 + 6,none⟩=some (.int .i64 yap):=hpr.2 6 _ rfl
  have p7:W0.cell? ⟨g,k * 9 + 7,none⟩=some (.int .i64 ywr):=hpr.2 7 _ rfl
  have p8:W0.cell? ⟨g,k * 9 + 8,none⟩=some (.int .i64 ydep):=hpr.2 8 _ rfl
  have lg:=hpr.1
  clear h h1 hwb hGB hW0 hG hF hf hp hk hpr e
  simp only [celC]
  go_enter Tryz.func75,Tryz.ntmps75
  go_wp2_with fail
  rw [← HW0.out, ← HGG.out]
  refine K.out.mono ?_
  rintro e w1 ⟨rfl,rfl⟩
  go_wp2_with (first | (refine wpList_store_row rfl 164 _ _ rfl G #[.int .i64 yo,.int .i64 yc,.int .i64 yst,.int .i64 ylv,.int .i64 ynet,.int .i64 ytax,.int .i64 yap,.int .i64 ywr,.int .i64 ydep] rfl rfl 164 _ HG.out (by kernel_rfl) (by rfl) (by simp [Value.oneCell']) ?_))
  clear c0 p0 p1 p2 p3 p4 p5 p6 p7 p8 lg t0
  have hB2:=HG.out.setRow #[.int .i64 yo,.int .i64 yc,.int .i64 yst,.int .i64 ylv,.int .i64 ynet,.int .i64 ytax,.int .i64 yap,.int .i64 ywr,.int .i64 ydep]
  have hT2:=Touch.setRow W0 G #[.int .i64 yo,.int .i64 yc,.int .i64 yst,.int .i64 ylv,.int .i64 ynet,.int .i64 ytax,.int .i64 yap,.int .i64 ywr,.int .i64 ydep]
  have HD:=hid (HB.out.trans (hT2.below HB.out.size (fun k hk=>by rw [hk]; exact HLO.out)))
  generalize W0.setRow G #[.int .i64 yo,.int .i64 yc,.int .i64 yst,.int .i64 ylv,.int .i64 ynet,.int .i64 ytax,.int .i64 yap,.int .i64 ywr,.int .i64 ydep]=wf at hB2 HD ⊢
  have e0:wf.cell? ⟨G,0,none⟩=some (.int .i64 yo):=hB2.cell 0
  have e1:wf.cell? ⟨G,1,none⟩=some (.int .i64 yc):=hB2.cell 1
  have e2:wf.cell? ⟨G,2,none⟩=some (.int .i64 yst):=hB2.cell 2
  have e3:wf.cell? ⟨G,3,none⟩=some (.int .i64 ylv):=hB2.cell 3
  have e4:wf.cell? ⟨G,4,none⟩=some (.int .i64 ynet):=hB2.cell 4
  have e5:wf.cell? ⟨G,5,none⟩=some (.int .i64 ytax):=hB2.cell 5
  have e6:wf.cell? ⟨G,6,none⟩=some (.int .i64 yap):=hB2.cell 6
  have e7:wf.cell? ⟨G,7,none⟩=some (.int .i64 ywr):=hB2.cell 7
  have e8:wf.cell? ⟨G,8,none⟩=some (.int .i64 ydep):=hB2.cell 8
  refine bodyPost_ret (v:=.agg #[.int .i64 yo,.int .i64 yc,.int .i64 yst,.int .i64 ylv,.int .i64 ynet,.int .i64 ytax,.int .i64 yap,.int .i64 ywr,.int .i64 ydep]) (by simp [results,Tryz.results75,go_sem,e0,e1,e2,e3,e4,e5,e6,e7,e8]) rfl ⟨rfl,HD.out⟩
 ·have e:acOf F o c=⟨o,c,0,0,0,0,0,0,0⟩:=by unfold acOf; rw [hf]; rfl
  rw [e]
  rw [hp] at K
  replace K:=hid K
  clear h h1 hwb hGB hW0 hG hF hf hp e
  simp only [celC]
  go_enter Tryz.func75,Tryz.ntmps75
  go_wp2_with fail
  rw [← HW0.out, ← HGG.out]
  refine K.out.mono ?_
  rintro e w1 ⟨rfl,rfl⟩
  go_wp2_with (first | (refine wpList_store_row rfl 164 _ _ rfl G #[.int .i64 o,.int .i64 c,.int .i64 0,.int .i64 0,.int .i64 0,.int .i64 0,.int .i64 0,.int .i64 0,.int .i64 0] rfl rfl 164 _ HG.out (by kernel_rfl) (by rfl) (by simp [Value.oneCell']) ?_))
  have hB2:=HG.out.setRow #[.int .i64 o,.int .i64 c,.int .i64 0,.int .i64 0,.int .i64 0,.int .i64 0,.int .i64 0,.int .i64 0,.int .i64 0]
  have hT2:=Touch.setRow W0 G #[.int .i64 o,.int .i64 c,.int .i64 0,.int .i64 0,.int .i64 0,.int .i64 0,.int .i64 0,.int .i64 0,.int .i64 0]
  have HD:=hid (HB.out.trans (hT2.below HB.out.size (fun k hk=>by rw [hk]; exact HLO.out)))
  generalize W0.setRow G #[.int .i64 o,.int .i64 c,.int .i64 0,.int .i64 0,.int .i64 0,.int .i64 0,.int .i64 0,.int .i64 0,.int .i64 0]=wf at hB2 HD ⊢
  have e0:wf.cell? ⟨G,0,none⟩=some (.int .i64 o):=hB2.cell 0
  have e1:wf.cell? ⟨G,1,none⟩=some (.int .i64 c):=hB2.cell 1
  have e2:wf.cell? ⟨G,2,none⟩=some (.int .i64 0):=hB2.cell 2
  have e3:wf.cell? ⟨G,3,none⟩=some (.int .i64 0):=hB2.cell 3
  have e4:wf.cell? ⟨G,4,none⟩=some (.int .i64 0):=hB2.cell 4
  have e5:wf.cell? ⟨G,5,none⟩=some (.int .i64 0):=hB2.cell 5
  have e6:wf.cell? ⟨G,6,none⟩=some (.int .i64 0):=hB2.cell 6
  have e7:wf.cell? ⟨G,7,none⟩=some (.int .i64 0):=hB2.cell 7
  have e8:wf.cell? ⟨G,8,none⟩=some (.int .i64 0):=hB2.cell 8
  refine bodyPost_ret (v:=.agg #[.int .i64 o,.int .i64 c,.int .i64 0,.int .i64 0,.int .i64 0,.int .i64 0,.int .i64 0,.int .i64 0,.int .i64 0]) (by simp [results,Tryz.results75,go_sem,e0,e1,e2,e3,e4,e5,e6,e7,e8]) rfl ⟨rfl,HD.out⟩
end
end Go.Proofs.YtakaalldbnklcaaGreat.Mo
namespace Go.Proofs.YtakaalldbnklcaaGreat.Mo
open Go.RowKit Go.WideShapes Go.ChangeShapes Go.ChangeAt Go.Deep
set_option linter.unusedVariables false
def PostR (base R:Nat) (A:Option Addr) (L:List Ca) (F:Int→Option Ca) (o:Int) (x:Option Ca) (d':Int) (w w':World):Prop :=
 ∃ A' cap' L',IsRf base w' R A' cap' L' d'∧RelC (updC F o x) L'∧L'.length≤L.length + 1∧Touch (RT w.heap.size R A) w w'
section
variable {base R cap:Nat} {A:Option Addr} {L:List Ca} {d:Int} {w w' w4 wr:World} {F:Int→Option Ca}
theorem IsRf.rt_lt (h:IsRf base w R A cap L d) {k:Nat} (hk:k=R∨A.map (·.block)=some k):k < w.heap.size:=by
 rcases hk with rfl | hk
 ·exact h.blk.lt
 ·exact (h.own.lt k (by cases A with | none=>cases hk | some a=>simpa [Value.ownBlock] using hk)).2
theorem IsRf.not_rt (h:IsRf base w R A cap L d) {n g:Nat} (hg:w.heap.size≤g) (hn:g < n):¬ RT n R A g:=by
 rintro (e | e | e)
 ·have:=h.rt_lt (.inl e); omega
 ·have:=h.rt_lt (.inr e); omega
 ·omega
theorem IsRf.turn {d':Int} (h:IsRf base w R A cap L d) {S:Nat→Prop} (hT:Touch S w w') (hS:∀ k,S k→k=R∨w.heap.size≤k) (hB:Blk w' R 88 #[.slice A L.length cap,.int .i64 d']):IsRf base w' R A cap L d' :=
 ⟨hB,own_touch h.own hT (fun g hg hs=>by
  have h1:=h.own.lt g hg
  have:=h.lt
  rcases hS g hs with e | e <;> omega),h.lt⟩
set_option maxRecDepth 100000 in
set_option maxHeartbeats 16000000 in
theorem rapply_any (h:IsRf base w R A cap L d) (hF:RelC F L) (a:Ca) (hl:L.length * 72 + 72≤140737488355328) (hbw:base≤w.heap.size) (hs:SmallC a) (hs2:SmallC (appA a)) (hdep:0≤a.dep∧a.dep≤1152921504606846976) (hop:0≤openC a∧openC a≤1125899906842624) (hd:0≤d∧d≤2305843009213693952) :
  Calls Tryz.prog 76 #[.pointer (some ⟨R,0,none⟩),.agg (celC a)] w fun e w'=>e = .returned (.bool (paidC (appA a)))∧PostR base R A L F a.o (some (appA a)) (d + appN a) w w':=by
 have hN:0≤appN a∧appN a≤1125899906842624:=by unfold appN; omega
 have hNe:appN a=if a.dep < openC a then a.dep else openC a:=by unfold appN; split <;> omega
 obtain ⟨wz,hwz⟩:∃ wz,wz=w.alloc (.cells #[.int .i64 a.o,.int .i64 a.c,.int .i64 a.st,.int .i64 a.lv,.int .i64 a.net,.int .i64 a.tax,.int .i64 a.ap,.int .i64 a.wr,.int .i64 a.dep] 164):=⟨_,rfl⟩
 obtain ⟨G0,hG0⟩:∃ G0,G0=w.heap.size:=⟨_,rfl⟩
 have hz:IsRf base wz R A cap L d:=by rw [hwz]; exact h.alloc _
 have hGz:Blk wz G0 164 #[.int .i64 a.o,.int .i64 a.c,.int .i64 a.st,.int .i64 a.lv,.int .i64 a.net,.int .i64 a.tax,.int .i64 a.ap,.int .i64 a.wr,.int .i64 a.dep]:=by rw [hwz,hG0]; exact Blk.new _ _ _
 have hTz:Below w.heap.size w wz:=by rw [hwz]; exact (Below.refl _ _).alloc (Nat.le_refl _) _
 have K:=ropen_any a wz hs
 simp only [celC] at K
 replace K:=hid K
 have HW:=hid hwz
 have HG:=hid hG0
 have hRG:G0 ≠ R:=by have:=h.blk.lt; omega
 have H:=hid h
 have HZ:=hid hz
 have HTZ:=hid hTz
 have HGZ:=hid hGz
 have HS:=hid (And.intro hs (And.intro hs2 (And.intro hdep (And.intro hop (And.intro hd (And.intro hbw hF))))))
 have e0:wz.cell? ⟨G0,0,none⟩=some (.int .i64 a.o):=hGz.cell 0
 have e1:wz.cell? ⟨G0,1,none⟩=some (.int .i64 a.c):=hGz.cell 1
 have e2:wz.cell? ⟨G0,2,none⟩=some (.int .i64 a.st):=hGz.cell 2
 have e3:wz.cell? ⟨G0,3,none⟩=some (.int .i64 a.lv):=hGz.cell 3
 have e4:wz.cell? ⟨G0,4,none⟩=some (.int .i64 a.net):=hGz.cell 4
 have e5:wz.cell? ⟨G0,5,none⟩=some (.int .i64 a.tax):=hGz.cell 5
 have e6:wz.cell? ⟨G0,6,none⟩=some (.int .i64 a.ap):=hGz.cell 6
 have e7:wz.cell? ⟨G0,7,none⟩=some (.int .i64 a.wr):=hGz.cell 7
 have e8:wz.cell? ⟨G0,8,none⟩=some (.int .i64 a.dep):=hGz.cell 8
 have lG:G0 < wz.heap.size:=hGz.lt
 obtain ⟨z,hz0⟩:∃ z,z=openC a:=⟨_,rfl⟩
 obtain ⟨n,hn0⟩:∃ n,n=appN a:=⟨_,rfl⟩
 rw [← hz0] at K hNe
 rw [← hn0] at hNe hN
 have HN:=hid (And.intro hn0 hN)
 have wd:IntKind.i64.wrap (a.dep - n)=a.dep - n:=IntWalk.i64_in _ ⟨by omega,by omega⟩
 have wa:IntKind.i64.wrap (a.ap + n)=a.ap + n:=IntWalk.i64_in _ ⟨by have:=hs.p; omega,by have:=hs.p; omega⟩
 have wt':IntKind.i64.wrap (d + n)=d + n:=IntWalk.i64_in _ ⟨by omega,by omega⟩
 simp only [celC]
 clear hwz hG0 h hz hGz hTz hs hs2 hdep hop hd hbw hF hz0 hn0 hN
 go_enter Tryz.func76,Tryz.ntmps76
 go_wp2_with fail
 rw [← HW.out, ← HG.out]
 refine K.out.mono ?_
 rintro e w1 ⟨rfl,hb1⟩
 have hG1:=HGZ.out.next hb1
 have h1:=HZ.out.next hb1
 clear e0 e1 e2 e3 e4 e5 e6 e7 e8 lG K
 have e0:w1.cell? ⟨G0,0,none⟩=some (.int .i64 a.o):=hG1.cell 0
 have e1:w1.cell? ⟨G0,1,none⟩=some (.int .i64 a.c):=hG1.cell 1
 have e2:w1.cell? ⟨G0,2,none⟩=some (.int .i64 a.st):=hG1.cell 2
 have e3:w1.cell? ⟨G0,3,none⟩=some (.int .i64 a.lv):=hG1.cell 3
 have e4:w1.cell? ⟨G0,4,none⟩=some (.int .i64 a.net):=hG1.cell 4
 have e5:w1.cell? ⟨G0,5,none⟩=some (.int .i64 a.tax):=hG1.cell 5
 have e6:w1.cell? ⟨G0,6,none⟩=some (.int .i64 a.ap):=hG1.cell 6
 have e7:w1.cell? ⟨G0,7,none⟩=some (.int .i64 a.wr):=hG1.cell 7
 have e8:w1.cell? ⟨G0,8,none⟩=some (.int .i64 a.dep):=hG1.cell 8
 have lG:=hG1.lt
 have H1:=hid (And.intro h1 (And.intro hG1 (bthen HTZ.out hb1)))
 have f8:=hG1.free 8
 have f6:=hG1.free 6
 have c1:w1.cell? ⟨R,1,none⟩=some (.int .i64 d):=h1.blk.cell 1
 have fR:=h1.blk.free 1
 have lR:=h1.blk.lt
 clear h1 hG1 hb1
 go_upto_if 12 with fail
 go_cut [5] (fun v wx=>v = .int .i64 n∧wx=w1)
 case first =>
  clear wd wa wt'
  by_cases hc:a.dep < z
  ·have t1:decide (a.dep < z)=true:=decide_eq_true hc
   rw [if_pos hc] at hNe
   go_wp2_with fail
   go_meet
   exact ⟨by rw [hNe],rfl⟩
  ·have t1:decide (a.dep < z)=false:=decide_eq_false hc
   rw [if_neg hc] at hNe
   go_wp2_with fail
   go_meet
   exact ⟨by rw [hNe],rfl⟩
 case rest =>
  obtain ⟨rfl,hwx⟩:=hcut
  rw [hwx]
  clear hwx hNe
  go_wp2_with fail
  have hT3:=((Touch.setCell w1 G0 8 (.int .i64 (a.dep - n))).mono (fun k hk=>(.inl hk:k=G0∨k=R))).then (((Touch.setCell _ G0 6 (.int .i64 (a.ap + n))).mono (fun k hk=>(.inl hk:k=G0∨k=R))).then ((Touch.setCell _ R 1 (.int .i64 (d + n))).mono (fun k hk=>(.inr hk:k=G0∨k=R))))
  have hG3:Blk (((w1.setCell ⟨G0,8,none⟩ (.int .i64 (a.dep - n))).setCell ⟨G0,6,none⟩ (.int .i64 (a.ap + n))).setCell ⟨R,1,none⟩ (.int .i64 (d + n))) G0 164 (celC (appA a)):=by
   have e:celC (appA a)=((#[.int .i64 a.o,.int .i64 a.c,.int .i64 a.st,.int .i64 a.lv,.int .i64 a.net,.int .i64 a.tax,.int .i64 a.ap,.int .i64 a.wr,.int .i64 a.dep]:Array Value).setIfInBounds 8 (.int .i64 (a.dep - n))).setIfInBounds 6 (.int .i64 (a.ap + n)):=by rw [HN.out.1]; rfl
   rw [e]
   exact ((H1.out.2.1.set_ 8 _).set_ 6 _).far hRG _
  have hR3:Blk (((w1.setCell ⟨G0,8,none⟩ (.int .i64 (a.dep - n))).setCell ⟨G0,6,none⟩ (.int .i64 (a.ap + n))).setCell ⟨R,1,none⟩ (.int .i64 (d + n))) R 88 #[.slice A L.length cap,.int .i64 (d + n)] :=
   (((H1.out.1.blk.far hRG.symm _).far hRG.symm _).set_ 1 _)
  have hT0:Touch (· = R) w (((w1.setCell ⟨G0,8,none⟩ (.int .i64 (a.dep - n))).setCell ⟨G0,6,none⟩ (.int .i64 (a.ap + n))).setCell ⟨R,1,none⟩ (.int .i64 (d + n))):=(Touch.of_below H1.out.2.2).trans hT3 (fun k hk=>by
   rcases hk with e | e
   ·exact .inr (by rw [e,HG.out]; exact Nat.le_refl _)
   ·exact .inl e)
  have h3:=H.out.turn hT0 (fun k hk => .inl hk) hR3
  have H3:=hid (And.intro h3 (And.intro hG3 hT0))
  obtain ⟨b,hb0⟩:∃ b,b=appA a:=⟨_,rfl⟩
  have ebc:(#[.int .i64 a.o,.int .i64 a.c,.int .i64 a.st,.int .i64 a.lv,.int .i64 a.net,.int .i64 a.tax,.int .i64 (a.ap + n),.int .i64 a.wr,.int .i64 (a.dep - n)]:Array Value)=#[.int .i64 b.o,.int .i64 b.c,.int .i64 b.st,.int .i64 b.lv,.int .i64 b.net,.int .i64 b.tax,.int .i64 b.ap,.int .i64 b.wr,.int .i64 b.dep]:=by rw [hb0]; unfold appA; rw [← HN.out.1]
  rw [ebc]
  rw [← hb0] at hG3
  have HBB:=hid hb0
  have hs3:=h3.own
  have K:=hid (rput_any h3 HS.out.2.2.2.2.2.2.sorted b hl (Nat.le_trans HS.out.2.2.2.2.2.1 hT0.size))
  simp only [celC] at K
  clear e0 e1 e2 e3 e4 e5 e6 e7 e8 f8 f6 c1 fR lR lG wd wa wt' hT3 hR3 hT0 h3 hs3 ebc hb0 hG3
  generalize ((w1.setCell ⟨G0,8,none⟩ (.int .i64 (a.dep - n))).setCell ⟨G0,6,none⟩ (.int .i64 (a.ap + n))).setCell ⟨R,1,none⟩ (.int .i64 (d + n))=w3 at H3 K ⊢
  refine K.out.mono ?_
  rintro e w5 ⟨A',cap',L',rfl,h5,hu,hi,hT5⟩
  have hG5:=hT5.blk H3.out.2.1 (H.out.not_rt (by rw [HG.out]; exact Nat.le_refl _) H3.out.2.1.lt)
  rw [← HBB.out] at hG5
  have hRel:=HS.out.2.2.2.2.2.2.put hu hi
  have hlen:L'.length≤L.length + 1:=by
   by_cases hm:b.o ∈ L.map Ca.o
   ·rw [hu hm,updK_length]; omega
   ·rw [hi hm,insK_length]; omega
  have HF:=hid (And.intro h5 (And.intro hRel (And.intro hlen (H3.out.2.2.mono (fun k hk=>(.inl hk:RT w.heap.size R A k)) |>.then (hT5.mono (fun k hk=>by
   rcases hk with e | e | e
   ·exact .inl e
   ·exact .inr (.inl e)
   ·exact .inr (.inr (Nat.le_trans H3.out.2.2.size e))))))))
  have hsb:=HS.out.2.1
  rw [← HBB.out] at hsb
  have KO:=ropen_any b w5 hsb
  simp only [celC] at KO
  replace KO:=hid KO
  have e0:w5.cell? ⟨G0,0,none⟩=some (.int .i64 b.o):=hG5.cell 0
  have e1:w5.cell? ⟨G0,1,none⟩=some (.int .i64 b.c):=hG5.cell 1
  have e2:w5.cell? ⟨G0,2,none⟩=some (.int .i64 b.st):=hG5.cell 2
  have e3:w5.cell? ⟨G0,3,none⟩=some (.int .i64 b.lv):=hG5.cell 3
  have e4:w5.cell? ⟨G0,4,none⟩=some (.int .i64 b.net):=hG5.cell 4
  have e5:w5.cell? ⟨G0,5,none⟩=some (.int .i64 b.tax):=hG5.cell 5
  have e6:w5.cell? ⟨G0,6,none⟩=some (.int .i64 b.ap):=hG5.cell 6
  have e7:w5.cell? ⟨G0,7,none⟩=some (.int .i64 b.wr):=hG5.cell 7
  have e8:w5.cell? ⟨G0,8,none⟩=some (.int .i64 b.dep):=hG5.cell 8
  have lG:=hG5.lt
  clear K H3 h5 hu hi hT5 hG5 hRel hlen
  go_wp2_with fail
  refine KO.out.mono ?_
  rintro e w6 ⟨rfl,hb6⟩
  have e2:w6.cell? ⟨G0,2,none⟩=some (.int .i64 b.st):=(hb6.cell (p:=⟨G0,2,none⟩) lG).trans e2
  have lG6:G0 < w6.heap.size:=Nat.lt_of_lt_of_le lG hb6.size
  have HZ6:=hid (show PostR base R A L F b.o (some b) (d + n) w w6 from ⟨A',cap',L',HF.out.1.next hb6,HF.out.2.1,HF.out.2.2.1,HF.out.2.2.2.then (.of_below hb6)⟩)
  clear KO e0 e1 e3 e4 e5 e6 e7 e8 lG HF hb6
  have hbo:b.o=a.o:=by rw [HBB.out]; rfl
  have HBO:=hid hbo
  clear hbo
  by_cases hst:b.st=1
  ·have t1:(b.st == 1)=true:=by simpa using hst
   have hp:paidC b=(openC b == 0):=by unfold paidC; rw [decide_eq_true hst,Bool.true_and]; by_cases e:openC b=0 <;> simp [e]
   have HP:=hid hp
   obtain ⟨z2,hz2⟩:∃ z2,z2=openC b:=⟨_,rfl⟩
   rw [← hz2] at HP ⊢
   clear hst hp hz2
   go_wp2_with fail
   go_ret
   rw [← HBO.out, ← HBB.out,HP.out, ← HN.out.1]
   exact ⟨by simp,HZ6.out⟩
  ·have t1:(b.st == 1)=false:=by simpa using hst
   have hp:paidC b=false:=by unfold paidC; rw [decide_eq_false hst]; rfl
   have HP:=hid hp
   clear hst hp
   go_wp2_with fail
   go_ret
   rw [← HBO.out, ← HBB.out,HP.out, ← HN.out.1]
   exact ⟨by simp,HZ6.out⟩
end
end Go.Proofs.YtakaalldbnklcaaGreat.Mo
