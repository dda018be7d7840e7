/-
  The statement DeskUndoes: for every input the law returns true. No condition.
  Layer 20: done and undone at the desk: what is carried from call to call.
  Layer 20: the walk of DeskUndoes.
-/
import Derived.Test.YtakaalldbnklcaaGreatQd3
import Derived.Test.YtakaalldbnklcaaGreatQd22
import Derived.Test.YtakaalldbnklcaaGreatQd23
import Derived.Test.YtakaalldbnklcaaGreatQd24
namespace Go.Proofs.YtakaalldbnklcaaGreat
open Go.RowKit Go.WideShapes Go.ChangeShapes Go.ChangeAt Go.Deep
set_option linter.unusedVariables false
theorem ids_same {ids ids2 ks:List Int} (hp:ids.Perm ks) (hr:ids.Pairwise (fun a b=>a < b)) (hp2:ids2.Perm ks) (hr2:ids2.Pairwise (fun a b=>a < b)):ids2=ids :=
 SortedK.perm_eq (key:=fun x:Int=>x) linI (hr2.imp (fun h=>by simpa [ltI] using h)) (hr.imp (fun h=>by simpa [ltI] using h)) (hp2.trans hp.symm)
theorem same_held20 (a b c:Int) (w:World):(Op.equalIn 10000 51 (.agg #[.int .i64 a,.int .i64 b,.int .i64 c]) (.agg #[.int .i64 a,.int .i64 b,.int .i64 c])).run Tryz.prog w = .ok true w:=by
 refine agg_same (L:=[(3,0),(3,1),(2,2)]) (by kernel_rfl) (by kernel_rfl) (by kernel_rfl) ?_ w
 intro q hq
 simp only [List.mem_cons,List.not_mem_nil,or_false] at hq
 rcases hq with rfl | rfl | rfl
 ·exact sameAt_int Tryz.underlying3 (fun w=>by kernel_rfl) rfl
 ·exact sameAt_int Tryz.underlying3 (fun w=>by kernel_rfl) rfl
 ·exact sameAt_int Tryz.underlying2 (fun w=>by kernel_rfl) rfl
theorem guard_held20:Tryz.prog.eqGuardType Tryz.prog.depth 51=false:=by kernel_rfl
theorem same_level20 (a b c d e f:Int) (w:World):(Op.equalIn 10000 53 (.agg #[.int .i64 a,.int .i64 b,.int .i64 c,.int .i64 d,.int .i64 e,.int .i64 f]) (.agg #[.int .i64 a,.int .i64 b,.int .i64 c,.int .i64 d,.int .i64 e,.int .i64 f])).run Tryz.prog w = .ok true w:=by
 refine agg_same (L:=[(3,0),(3,1),(3,2),(3,3),(3,4),(3,5)]) (by kernel_rfl) (by kernel_rfl) (by kernel_rfl) ?_ w
 intro q hq
 simp only [List.mem_cons,List.not_mem_nil,or_false] at hq
 rcases hq with rfl | rfl | rfl | rfl | rfl | rfl
 all_goals exact sameAt_int Tryz.underlying3 (fun w=>by kernel_rfl) rfl
theorem guard_level20:Tryz.prog.eqGuardType Tryz.prog.depth 53=false:=by kernel_rfl
section
variable {n0 K K':Nat} {w w':World} {I:DkI} {x x1 x' xs:DkX}
theorem PD.withRow {b0 len cap:Nat} {A:Option Addr} {zs:List Value} (h:PD n0 K w I x) (hO:w.ownsRow b0 53 6 (.slice A len cap) len zs) (hb:∀ p ∈ x.lv,p.2.g < b0) :
  ∃ I':DkI,I'.D=I.D∧PD n0 K w I' x∧∀ w' lv,RowBy w' I'.lr lv→Rd w' A zs:=by
 have hR:=own_rd hO
 rcases hO.2 with ⟨h1,_⟩ | ⟨g,cap',cur,h1,hg,hh,_⟩
 ·refine ⟨{ I with lr:=none },rfl,{ h with row:=fun q hq=>by cases hq },fun w' lv _ => ?_⟩
  injection h1 with h1 _ _
  subst h1
  rcases hR with hR | ⟨b,off,hA,_⟩
  ·exact .inl hR
  ·cases hA
 ·have hB:Blk w g 53 cur:=hh
  refine ⟨{ I with lr:=some (g,cur) },rfl,{ h with row:=fun q hq => ?_ },fun w' lv hr => ?_⟩
  ·injection hq with hq
   subst hq
   exact ⟨hB,fun p hp e=>by have:=hb p hp; simp only at e; omega⟩
  ·obtain ⟨hB',_⟩:=hr _ rfl
   injection h1 with h1 _ _
   rcases hR with hR | ⟨b,off,hA,hlt,hc⟩
   ·exact .inl hR
   ·rw [h1] at hA
    injection hA with hA
    injection hA with e1 e2 _
    subst e1 e2
    refine .inr ⟨g,0,h1,hB'.lt,fun j u hu => ?_⟩
    have h2:=hc j u hu
    rw [hB.cell] at h2
    rw [hB'.cell]
    exact h2
theorem DoR.first {k s:Int} {v:ByteArray} {a:Bool × Int × Bool × Bool} (hn:NoEnt x.m k s) (h:DoR k s 1 v false x x1 a):a.1=true:=by
 have he:=hn.at_
 rcases h with ⟨h,_⟩ | ⟨h,_⟩ | ⟨_,h,_⟩ | ⟨_,_,p,c,y1,hr,rfl,rfl⟩
 ·rw [he] at h; exact absurd h (by decide)
 ·rw [he] at h; exact absurd h (by decide)
 ·cases h
 ·rfl
structure UdS (n0 K:Nat) (w:World) (I:DkI) (xs x:DkX) (b0:Nat) (v1:Value) (n1:Nat) (ys:List Value) (o:Int) (i:Nat):Prop where
 p:PD n0 K w I x
 own:w.ownsRow b0 51 3 v1 n1 ys
 al:Alike xs x
 ne:∀ j:Nat,i≤j→j < 2→NoEnt x.m o (50 + j)
variable {b0 n1 i:Nat} {v1:Value} {ys:List Value} {o s:Int}
theorem UdS.next (h:UdS n0 K w I xs x b0 v1 n1 ys o i) (hb:Below w.heap.size w w'):UdS n0 K w' I xs x b0 v1 n1 ys o i :=
 ⟨h.p.next hb,own_touch h.own (Touch.of_below (S:=fun _=>False) hb) (fun _ _=>fun h=>h),h.al,h.ne⟩
def UdM (n0 K:Nat) (w:World) (I:DkI) (xs x:DkX) (b0:Nat) (v1:Value) (n1:Nat) (ys:List Value) (o s:Int) (i:Nat) (v:ByteArray):Prop :=
 ∃ x1 a,DoR o s 1 v false x x1 a∧(x.lv.map (·.1)).Nodup∧PD n0 K w I x1∧w.ownsRow b0 51 3 v1 n1 ys∧Alike xs x∧∀ j:Nat,i≤j→j < 2→NoEnt x.m o (50 + j)
theorem ud_do1 (h:UdS n0 K w I xs x b0 v1 n1 ys o i) (hK:K≤3000000000000) (hi:i < 2) (hs:s=50 + i) (v:ByteArray) :
  Calls Tryz.prog 13 #[.pointer (some ⟨I.D,0,none⟩),.int .i64 o,.int .i64 s,.int .i64 1,.string v,.bool false] w fun e w1=>(∃ c p b,e = .returned (vAns true c p b))∧UdM n0 (K + 1) w1 I xs x b0 v1 n1 ys o s i v∧Touch (KindIn n0 w TP I.maps) w w1:=by
 refine (do_any h.p hK o s 1 v false).mono ?_
 rintro e w1 ⟨⟨a1,a2,a3,a4⟩,rfl,x1,hD,hP,hT⟩
 have hne:NoEnt x.m o s:=by rw [hs]; exact h.ne i (Nat.le_refl _) hi
 have ha:a1=true:=hD.first hne
 subst ha
 exact ⟨⟨_,_,_,rfl⟩,⟨x1,_,hD,h.p.sk.lvs.nodup,hP,KindIn.row h.own hT (by decide),h.al,h.ne⟩,hT⟩
theorem UdM.next {v:ByteArray} (h:UdM n0 K w I xs x b0 v1 n1 ys o s i v) (hb:Below w.heap.size w w'):UdM n0 K w' I xs x b0 v1 n1 ys o s i v:=by
 obtain ⟨x1,a,h1,h2,h3,h4,h5,h6⟩:=h
 exact ⟨x1,a,h1,h2,h3.next hb,own_touch h4 (Touch.of_below (S:=fun _=>False) hb) (fun _ _=>fun h=>h),h5,h6⟩
theorem ud_do2 {v0 vb:ByteArray} (h:UdM n0 K w I xs x b0 v1 n1 ys o s i v0) (hK:K≤3000000000000) (hi:i < 2) (hs:s=50 + i) (hv:(svc v0=1∧svc vb=2)∨(svc v0=3∧svc vb=4)) :
  Calls Tryz.prog 13 #[.pointer (some ⟨I.D,0,none⟩),.int .i64 o,.int .i64 s,.int .i64 0,.string vb,.bool true] w fun e w1=>(∃ t c p b,e = .returned (vAns t c p b))∧(∃ x',UdS n0 (K + 1) w1 I xs x' b0 v1 n1 ys o (i + 1)∧(In.entAt x'.m (o,s)).b=true)∧Touch (KindIn n0 w TP I.maps) w w1:=by
 obtain ⟨x1,a,hD1,hnd,hP1,hO,hA,hN⟩:=h
 refine (do_any hP1 hK o s 0 vb true).mono ?_
 rintro e w1 ⟨⟨a1,a2,a3,a4⟩,rfl,x2,hD,hP,hT⟩
 obtain ⟨_,h2,h3⟩:=alike_pair hv hnd (by rw [hs]; exact hN i (Nat.le_refl _) hi) hD1 hD
 refine ⟨⟨_,_,_,_,rfl⟩,⟨x2,⟨hP,KindIn.row hO hT (by decide),hA.trans h2,fun j hj hj2 => ?_⟩,h3⟩,hT⟩
 have hne:((o,(50 + j:Int)):Int × Int) ≠ (o,s):=by
  intro e
  injection e with _ e
  omega
 exact ((hN j (by omega) hj2).step hD1 hne).step hD hne
theorem ud_late (h:UdS n0 K w I xs x b0 v1 n1 ys o i) (hb:(In.entAt x.m (o,s)).b=true) (t:Int) (v:ByteArray) (u:Bool) :
  Calls Tryz.prog 13 #[.pointer (some ⟨I.D,0,none⟩),.int .i64 o,.int .i64 s,.int .i64 t,.string v,.bool u] w fun e w1=>(∃ b c,e = .returned (vAns b c false false))∧Below w.heap.size w w1:=by
 refine (again_any h.p o s t v u (by rw [(barred_ask hb t u).1]; decide)).mono ?_
 rintro e w1 ⟨rfl,hbw⟩
 exact ⟨⟨_,_,rfl⟩,hbw⟩
theorem ud_holds {ps:List Cr.Pa} {hr:List Cr.Hd} (h:UdS n0 K w I xs x b0 v1 n1 ys o i) (hM:Cr.RelB xs.ac xs.hs ps hr) (hl:xs.hs.length * 24≤140737488351232) :
  Calls Tryz.prog 11 #[.pointer (some ⟨I.XC,0,none⟩)] w fun e w'=>∃ (A:Option Addr) (cap:Nat),e = .returned (.slice A hr.length cap)∧w'.ownsRow w.heap.size 51 3 (.slice A hr.length cap) hr.length (hr.flatMap Cr.enH3)∧Below w.heap.size w w':=by
 refine (Cr.holds_any h.p.cr (by rw [h.al.hs]; exact hl)).mono ?_
 rintro e w2 ⟨A,cap,l,rfl,hp,hs,hO,hb⟩
 rw [h.al.hs] at hp
 obtain rfl:=Cr.holds_eq hM hp hs
 exact ⟨A,cap,rfl,hO,hb⟩
theorem ud_levels {ids:List Int} (h:UdS n0 K w I xs x b0 v1 n1 ys o i) (hp:ids.Perm (xs.lv.map (·.1))) (hr:ids.Pairwise (fun a b=>a < b)) :
  Calls Tryz.prog 12 #[.pointer (some ⟨I.XS,0,none⟩)] w fun e w'=>∃ (A:Option Addr) (cap:Nat),e = .returned (.slice A ids.length cap)∧w'.ownsRow w.heap.size 53 6 (.slice A ids.length cap) ids.length ((ids.map (Sk.lvAt xs.lv)).flatMap Sk.enV6)∧Below w.heap.size w w':=by
 refine (Sk.levels_any h.p.sk h.p.gd.few).mono ?_
 rintro e w2 ⟨A,cap,ids2,rfl,hp2,hr2,hO,hb⟩
 rw [h.al.ks] at hp2
 obtain rfl:=ids_same hp hr hp2 hr2
 refine ⟨A,cap,rfl, ?_,hb⟩
 have he:ids2.map (Sk.lvAt x.lv)=ids2.map (Sk.lvAt xs.lv):=List.map_congr_left fun id _=>by unfold Sk.lvAt; rw [h.al.lv]
 rw [he] at hO
 exact hO
end
end Go.Proofs.YtakaalldbnklcaaGreat
namespace Go.Proofs.YtakaalldbnklcaaGreat
open Go.RowKit Go.WideShapes Go.ChangeShapes Go.ChangeAt Go.Deep
set_option linter.unusedVariables false
def udV:Array Value:=#[.string ⟨#[99,114,101,100,105,116,46,104,111,108,100]⟩,.string ⟨#[99,114,101,100,105,116,46,114,101,108,101,97,115,101]⟩,.string ⟨#[115,116,111,99,107,46,97,108,108,111,99,97,116,101]⟩,.string ⟨#[115,116,111,99,107,46,102,114,101,101]⟩]
def UdL (n0 K:Nat) (wn w:World) (I:DkI) (xs x:DkX) (b0:Nat) (v1:Value) (n1:Nat) (ys:List Value) (o:Int) (i V:Nat):Prop :=
 UdS n0 K w I xs x b0 v1 n1 ys o i∧Below wn.heap.size wn w∧Blk w V 47 udV
theorem UdL.at_ {n0 K b0 n1 i V:Nat} {wn w:World} {I:DkI} {xs x:DkX} {v1:Value} {ys:List Value} {o:Int} (h:UdL n0 K wn w I xs x b0 v1 n1 ys o i V) (hi:i < 2) :
  ∃ va vb,w.cell? ⟨V,i * 2,none⟩=some (.string va)∧w.cell? ⟨V,i * 2 + 1,none⟩=some (.string vb)∧((svc va=1∧svc vb=2)∨(svc va=3∧svc vb=4)):=by
 rcases (show i=0∨i=1 by omega) with rfl | rfl
 ·exact ⟨_,_,h.2.2.cell 0,h.2.2.cell 1,.inl ⟨rfl,rfl⟩⟩
 ·exact ⟨_,_,h.2.2.cell 2,h.2.2.cell 3,.inr ⟨rfl,rfl⟩⟩
set_option maxRecDepth 100000 in
set_option maxHeartbeats 16000000 in
theorem deskUndoes_walk (l:List DOp) (A:Option Addr) (cp:Nat) (o:Int) (l2:List Int) (A2:Option Addr) (cp2:Nat) (w:World) (hR:Rd w A (l.flatMap enDo)) (hok:∀ x ∈ l,OkDo w x) (hl:l.length * 80≤140737488351232) (hR2:Rd w A2 (l2.flatMap en1)) (hl2:l2.length * 8≤140737488351232) (hc2:l2.length≤cp2) (hm2:cp2≤maxLen) :
  Calls Tryz.prog 3 #[.slice A l.length cp,.int .i64 o,.slice A2 l2.length cp2] w (Law w):=by
 go_enter Tryz.func3,Tryz.ntmps3
 go_wp2_with fail
 refine (wakes_any _).mono ?_
 rintro e wn ⟨rfl,hbn⟩
 have HL:=hid hbn
 replace hR:=hR.below hbn
 replace hR2:=hR2.below hbn
 have hok':∀ x ∈ l,OkDo wn x:=fun x hx=>(hok x hx).next hbn
 have HC2:=hid (And.intro hc2 hm2)
 clear hok hbn hc2 hm2
 go_wp2_with fail
 refine (dnew20 _).mono ?_
 rintro e w1 ⟨I,rfl,hP,hb1⟩
 have HP:=hid (And.intro hP hb1)
 clear hP hb1
 go_wp2_with fail
 refine (rdnew20 _).mono ?_
 rintro e w2 ⟨J,base,rfl,hRD,hb2⟩
 have HD:=hid (And.intro (dk_new HP.out.1 HP.out.2 hRD hb2) (And.intro (bthen HP.out.2 hb2) (show ∀ j:Nat,j < 2→NoEnt x0.m o (50 + j) from fun _ _=>rfl)))
 clear HP hRD hb2
 go_wp2_with fail
 go_loopw [29] (fun i wr=>∃ (k:Nat) (x:DkX) (y:RdX),k≤l.length∧i = .int .i64 k∧Hid (DK wn.heap.size base k wr I x J y∧Below wn.heap.size wn wr∧∀ j:Nat,j < 2→NoEnt x.m o (50 + j))) (fun i _=>l.length - nOf i)
 case atStart=>exact ⟨0,x0,y0,Nat.zero_le _,rfl,HD⟩
 case round =>
  clear HD
  obtain ⟨k,x,y,hk,rfl,H⟩:=hrel
  by_cases hlt:k < l.length
  ·obtain ⟨q,hq⟩:∃ q,l[k]?=some q:=⟨l[k],List.getElem?_eq_getElem hlt⟩
   obtain ⟨⟨b,off,hAA,hbs,hcc⟩,_,HN⟩:=script_at hR hok' H.out.2.1 hq
   replace HN:=hid HN
   obtain ⟨kd,ky,st,tr,vb,un,OA,ocp,ls⟩:=q
   have q0:wr.cell? ⟨b,off + k * 7,none⟩=some (.int .i64 kd):=hcc 0 _ rfl
   have q1:wr.cell? ⟨b,off + k * 7 + 1,none⟩=some (.int .i64 ky):=hcc 1 _ rfl
   have q2:wr.cell? ⟨b,off + k * 7 + 2,none⟩=some (.int .i64 st):=hcc 2 _ rfl
   have q3:wr.cell? ⟨b,off + k * 7 + 3,none⟩=some (.int .i64 tr):=hcc 3 _ rfl
   have q4:wr.cell? ⟨b,off + k * 7 + 4,none⟩=some (.string vb):=hcc 4 _ rfl
   have q5:wr.cell? ⟨b,off + k * 7 + 5,none⟩=some (.bool un):=hcc 5 _ rfl
   have q6:wr.cell? ⟨b,off + k * 7 + 6,none⟩=some (.slice OA ls.length ocp):=hcc 6 _ rfl
   have hba:Below wr.heap.size wr (wr.alloc (.cells #[.int .i64 kd,.int .i64 ky,.int .i64 st,.int .i64 tr,.string vb,.bool un,.slice OA ls.length ocp] 31)):=(Below.refl _ _).alloc (Nat.le_refl _) _
   have hB6:=Blk.new wr 31 #[.int .i64 kd,.int .i64 ky,.int .i64 st,.int .i64 tr,.string vb,.bool un,.slice OA ls.length ocp]
   have HW:=hid (And.intro hB6 (And.intro (H.out.1.next hba) (And.intro (bthen H.out.2.1 hba) H.out.2.2)))
   subst hAA
   clear hcc hba hB6 hq H
   go_upto_region 7 with fail
   clear q0 q1 q2 q3 q4 q5 q6
   obtain ⟨wz,hwz⟩:∃ wz,wz=wr.alloc (.cells #[.int .i64 kd,.int .i64 ky,.int .i64 st,.int .i64 tr,.string vb,.bool un,.slice OA ls.length ocp] 31):=⟨_,rfl⟩
   obtain ⟨G8,hG8⟩:∃ G8,G8=wr.heap.size:=⟨_,rfl⟩
   obtain ⟨hB6,hDK,hbz,hne⟩:=HW.out
   rw [← hwz] at hB6 hDK hbz ⊢
   rw [← hG8] at hB6 ⊢
   have HZ:=hid (And.intro hB6 (And.intro hDK (And.intro hbz hne)))
   clear hB6 hDK hbz hne HW hwz hG8 hbs
   go_cut [40] from 33 to 39 (fun v wx=>v = .bool (!decide (kd=1∧50≤st))∧wx=wz)
   case first =>
    have hB6:=HZ.out.1
    have g0:wz.cell? ⟨G8,0,none⟩=some (.int .i64 kd):=hB6.cell 0
    have g2:wz.cell? ⟨G8,2,none⟩=some (.int .i64 st):=hB6.cell 2
    have l1:=hB6.lt
    clear hB6 HZ HN HL HC2
    by_cases e1:kd=1
    ·have b1:(kd != 1)=false:=by simp [e1]
     by_cases e3:50≤st
     ·have b3:decide (st < 50)=false:=decide_eq_false (by omega)
      have hd:decide (kd=1∧50≤st)=true:=decide_eq_true ⟨e1,e3⟩
      clear e1 e3
      go_wp2_with fail
      go_meet
      exact ⟨by rw [hd]; rfl,rfl⟩
     ·have b3:decide (st < 50)=true:=decide_eq_true (by omega)
      have hd:decide (kd=1∧50≤st)=false:=decide_eq_false (fun h=>e3 h.2)
      clear e1 e3
      go_wp2_with fail
      go_meet
      exact ⟨by rw [hd]; rfl,rfl⟩
    ·have b1:(kd != 1)=true:=by simp [e1]
     have hd:decide (kd=1∧50≤st)=false:=decide_eq_false (fun h=>e1 h.1)
     clear e1
     go_wp2_with fail
     go_meet
     exact ⟨by rw [hd]; rfl,rfl⟩
   case rest =>
    obtain ⟨rfl,hwc⟩:=hcut
    subst hwc
    by_cases hs:kd=1∧50≤st
    ·have hd:decide (kd=1∧50≤st)=true:=decide_eq_true hs
     have H6:=hid (And.intro (HZ.out.2.1.up (Nat.le_succ k) (by omega)) HZ.out.2.2)
     rw [hd]
     clear hs hd HZ HN
     go_wp2_with fail
     go_roundw
     case rel=>exact ⟨k + 1,x,y,by omega,by go_num,H6⟩
     case measure=>simp [nOf]; omega
    ·have hd:decide (kd=1∧50≤st)=false:=decide_eq_false hs
     rw [hd]
     obtain ⟨hB6,hDK,hbz,hne⟩:=HZ.out
     have ST:=hid (step_any hDK (by omega) ⟨kd,ky,st,tr,vb,un,OA,ocp,ls⟩ (HN.out _ hbz).1 (HN.out _ hbz).2)
     have g0:wc.cell? ⟨G8,0,none⟩=some (.int .i64 kd):=hB6.cell 0
     have g1:wc.cell? ⟨G8,1,none⟩=some (.int .i64 ky):=hB6.cell 1
     have g2:wc.cell? ⟨G8,2,none⟩=some (.int .i64 st):=hB6.cell 2
     have g3:wc.cell? ⟨G8,3,none⟩=some (.int .i64 tr):=hB6.cell 3
     have g4:wc.cell? ⟨G8,4,none⟩=some (.string vb):=hB6.cell 4
     have g5:wc.cell? ⟨G8,5,none⟩=some (.bool un):=hB6.cell 5
     have g6:wc.cell? ⟨G8,6,none⟩=some (.slice OA ls.length ocp):=hB6.cell 6
     have HS:=hid hs
     clear hB6 hDK hbz hne HN hs hd
     go_wp2_with fail
     refine ST.out.mono ?_
     rintro e w5 ⟨a,x',y',rfl,hD5,hSR,hT5⟩
     clear g0 g1 g2 g3 g4 g5 g6 ST
     have H6:=hid (And.intro hD5 (And.intro (HZ.out.2.2.1.trans (hT5.low HZ.out.2.2.1.size)) (fun j hj=>(HZ.out.2.2.2 j hj).script hSR (fun h=>HS.out ⟨h.1,by have:=h.2.2; simp only at this; omega⟩))))
     clear hD5 hSR hT5 HZ HS
     go_wp2_with fail
     go_roundw
     case rel=>exact ⟨k + 1,x',y',by omega,by go_num,H6⟩
     case measure=>simp [nOf]; omega
  ·-- the script is at its end: what lies there is told
   have hkl:k≤1800000000000:=by omega
   have HKL:=hid hkl
   clear hk hkl
   have HS:Hid (∀ w',Below wr.heap.size wr w'→w'.cell? ⟨I.D,0,none⟩=some (.pointer (some ⟨I.XC,0,none⟩))∧w'.cell? ⟨I.D,1,none⟩=some (.pointer (some ⟨I.XS,0,none⟩))):=hid (fun w' hb=>⟨(H.out.1.next hb).p.blk.cell 0,(H.out.1.next hb).p.blk.cell 1⟩)
   have lD:I.D < wr.heap.size:=H.out.1.p.blk.lt
   have hz0:Below wr.heap.size wr wr.drew:=(Below.refl _ _).drew
   have s0:=HS.out _ hz0
   go_upto_region 10 with fail
   go_cut [11,12] from 46 to 55 (fun v11 v12 wx=>∃ (A1:Option Addr) (c1:Nat) (A3:Option Addr) (c3:Nat) (ids:List Int),v11 = .slice A1 y.hr.length c1∧v12 = .slice A3 ids.length c3∧Hid (Below wr.heap.size wr wx)∧Hid (∃ b0,wx.ownsRow b0 51 3 (.slice A1 y.hr.length c1) y.hr.length (y.hr.flatMap Cr.enH3))∧Hid (ids.Perm (x.lv.map (·.1))∧ids.Pairwise (fun a b=>a < b)∧∃ b1,wx.ownsRow b1 53 6 (.slice A3 ids.length c3) ids.length ((ids.map (Sk.lvAt x.lv)).flatMap Sk.enV6)∧∀ p ∈ x.lv,p.2.g < b1))
   case first =>
    go_region_held3 (fun w'=>w'.cell? ⟨I.D,0,none⟩=some (.pointer (some ⟨I.XC,0,none⟩))∧w'.cell? ⟨I.D,1,none⟩=some (.pointer (some ⟨I.XS,0,none⟩)))
     (first | exact s2 | exact s1 | exact s0)
     (first
      | (go_at_call 11; refine (holds20 (H.out.1.next hz0)).mono ?_; rintro e w1 ⟨A1,c1,rfl,hO1,hb1⟩; have hz1:=bthen hz0 hb1; have s1:=HS.out _ hz1)
      | (go_at_call 12; refine (Sk.levels_any (H.out.1.next hz1).p.sk H.out.1.ok.gd.few).mono ?_; rintro e w2 ⟨A3,c3,ids,rfl,hp3,hr3,hO3,hb3⟩; have hz2:=bthen hz1 hb3; have s2:=HS.out _ hz2; have HX3:=hid (And.intro hp3 (And.intro hr3 (And.intro hO3 (fun p hp=>((H.out.1.next hz1).p.sk.lc p hp).lt)))); clear hp3 hr3 hO3))
    all_goals
     go_wp2_with fail
     go_meet
     exact ⟨A1,c1,A3,c3,ids,rfl,rfl,hid hz2,hid ⟨_,own_touch hO1 (Touch.of_below (S:=fun _=>False) hb3) (fun _ _=>fun h=>h)⟩,hid ⟨HX3.out.1,HX3.out.2.1,_,HX3.out.2.2.1,HX3.out.2.2.2⟩⟩
   case rest =>
    obtain ⟨A1,c1,A3,c3,ids,rfl,rfl,HZ,HO1,HO3⟩:=hcut
    obtain ⟨w7,hw7⟩:∃ w7,w7=wc:=⟨_,rfl⟩
    rw [← hw7] at HZ HO1 HO3 ⊢
    clear hw7 s0 hz0 HS lD
    obtain ⟨hp3,hr3,b1,hO3,hlt3⟩:=HO3.out
    obtain ⟨b0,hO1⟩:=HO1.out
    obtain ⟨I',hID,hP',HRd⟩:=((H.out.1.next HZ.out).p).withRow hO3 hlt3
    have HI:=hid (And.intro hp3 hr3)
    have HM:=hid (And.intro H.out.1.ok.rel.cr (show x.hs.length * 24≤140737488351232 by have:=H.out.1.ok.hl; have:=H.out.1.ok.k; omega))
    have hS0:UdS wn.heap.size k w7 I' x x b0 (.slice A1 y.hr.length c1) y.hr.length (y.hr.flatMap Cr.enH3) o 0:=⟨hP',hO1,Alike.refl x,fun j _ hj=>H.out.2.2 j hj⟩
    have hbw:=bthen H.out.2.1 HZ.out
    have hba:Below w7.heap.size w7 (w7.alloc (.cells udV 47)):=(Below.refl _ _).alloc (Nat.le_refl _) _
    have hL0:UdL wn.heap.size (k + 2 * 0) wn (w7.alloc (.cells udV 47)) I' x x b0 (.slice A1 y.hr.length c1) y.hr.length (y.hr.flatMap Cr.enH3) o 0 w7.heap.size:=⟨hS0.next hba,bthen hbw hba,Blk.new w7 47 udV⟩
    have H0:=hid hL0
    replace HRd:=hid HRd
    have hn3:ids.length≤64:=by have:=hp3.length_eq; have:=H.out.1.ok.gd.few; simp only [List.length_map] at *; omega
    have hn1:y.hr.length≤1900000000000:=by have:=H.out.1.ok.hl; have:=H.out.1.ok.k; have h2:y.hr.length=x.hs.length:=H.out.1.ok.rel.cr.hd.len; omega
    have HN13:=hid (And.intro hn1 hn3)
    clear hp3 hr3 hO3 hlt3 hO1 hP' hS0 hbw hba hL0 HZ HO1 HO3 H hn1 hn3
    rw [← hID]
    clear hID
    go_upto_region 12 with fail
    obtain ⟨V,hV⟩:∃ V,V=w7.heap.size:=⟨_,rfl⟩
    obtain ⟨w8,hw8⟩:∃ w8,w8=w7.alloc (.cells udV 47):=⟨_,rfl⟩
    rw [← hw8, ← hV] at H0
    have hw8':w8=w7.alloc (.cells #[.string ⟨#[99,114,101,100,105,116,46,104,111,108,100]⟩,.string ⟨#[99,114,101,100,105,116,46,114,101,108,101,97,115,101]⟩,.string ⟨#[115,116,111,99,107,46,97,108,108,111,99,97,116,101]⟩,.string ⟨#[115,116,111,99,107,46,102,114,101,101]⟩] 47):=hw8
    rw [← hw8', ← hV]
    clear hw8 hw8' hV
    go_wp2_with fail
    go_loopw [61] (fun i wr=>∃ (j:Nat) (x':DkX),j≤2∧i = .int .i64 j∧Hid (UdL wn.heap.size (k + 2 * j) wn wr I' x x' b0 (.slice A1 y.hr.length c1) y.hr.length (y.hr.flatMap Cr.enH3) o j V)) (fun i _=>2 - nOf i)
    case atStart=>exact ⟨0,x,by omega,rfl,H0⟩
    case round =>
     clear H0
     obtain ⟨j,x',hj,rfl,H⟩:=hrel
     by_cases hj2:j < 2
     ·obtain ⟨va,vb,p0,p1,hsv⟩:=H.out.at_ hj2
      have HSV:=hid hsv
      have hba:Below wr.heap.size wr (wr.alloc (.cells #[.string va,.string vb] 47)):=(Below.refl _ _).alloc (Nat.le_refl _) _
      have hBG:=Blk.new wr 47 #[.string va,.string vb]
      have HW:=hid (And.intro hBG (And.intro (H.out.1.next hba) (And.intro (bthen H.out.2.1 hba) (H.out.2.2.next hba))))
      have lV:=H.out.2.2.lt
      clear hsv hba hBG H
      go_upto_region 15 with fail
      clear p0 p1 lV
      obtain ⟨wz,hwz⟩:∃ wz,wz=wr.alloc (.cells #[.string va,.string vb] 47):=⟨_,rfl⟩
      obtain ⟨G,hG⟩:∃ G,G=wr.heap.size:=⟨_,rfl⟩
      rw [← hwz, ← hG] at HW
      rw [← hwz, ← hG]
      clear hwz hG
      have hBG:=HW.out.1
      have g0:wz.cell? ⟨G,0,none⟩=some (.string va):=hBG.cell 0
      have lG:=hBG.lt
      have K1:=hid (ud_do1 HW.out.2.1 (by have:=HKL.out; omega) hj2 rfl va)
      clear hBG
      go_wp2_with fail
      refine K1.out.mono ?_
      rintro e w3 ⟨⟨c,p,b,rfl⟩,hM3,hT3⟩
      clear K1 g0 lG
      have hba:Below w3.heap.size w3 (w3.alloc (.cells #[.bool true,.int .i64 c,.bool p,.bool b] 33)):=(Below.refl _ _).alloc (Nat.le_refl _) _
      have hBA:=Blk.new w3 33 #[.bool true,.int .i64 c,.bool p,.bool b]
      have HW3:=hid (And.intro ((hT3.blk HW.out.1 (KindIn.not_blk HW.out.1 (by decide))).next hba) (And.intro (hM3.next hba) (And.intro (bthen (HW.out.2.2.1.trans (hT3.low HW.out.2.2.1.size)) hba) ((hT3.blk HW.out.2.2.2 (KindIn.not_blk HW.out.2.2.2 (by decide))).next hba))))
      clear hM3 hT3 hba HW
      simp only [vAns]
      obtain ⟨G9,hG9⟩:∃ G9,G9=w3.heap.size:=⟨_,rfl⟩
      obtain ⟨w4,hw4⟩:∃ w4,w4=w3.alloc (.cells #[.bool true,.int .i64 c,.bool p,.bool b] 33):=⟨_,rfl⟩
      rw [← hw4] at hBA HW3
      rw [← hG9] at hBA
      go_upto_region 16 with fail
      rw [← hw4, ← hG9]
      clear hw4 hG9
      have hBG:=HW3.out.1
      have g1:w4.cell? ⟨G,1,none⟩=some (.string vb):=hBG.cell 1
      have a0:w4.cell? ⟨G9,0,none⟩=some (.bool true):=hBA.cell 0
      have lG:=hBG.lt
      have l9:=hBA.lt
      have K2:=hid (ud_do2 HW3.out.2.1 (by have:=HKL.out; omega) hj2 rfl HSV.out)
      clear hBG hBA
      go_wp2_with fail
      refine K2.out.mono ?_
      rintro e w5 ⟨⟨t',c',p',b',rfl⟩,⟨x2,hS5,hb5⟩,hT5⟩
      clear K2 g1 a0 lG l9
      have H5:=hid (And.intro (show UdL wn.heap.size (k + 2 * j + 1 + 1) wn w5 I' x x2 b0 (.slice A1 y.hr.length c1) y.hr.length (y.hr.flatMap Cr.enH3) o (j + 1) V from ⟨hS5,HW3.out.2.2.1.trans (hT5.low HW3.out.2.2.1.size),hT5.blk HW3.out.2.2.2 (KindIn.not_blk HW3.out.2.2.2 (by decide))⟩) (And.intro (hT5.blk HW3.out.1 (KindIn.not_blk HW3.out.1 (by decide))) hb5))
      clear hS5 hb5 hT5 HW3 HSV
      simp only [vAns]
      go_upto_region 19 with fail
      go_cut [87,88,89] (fun s n i wx=>∃ N:Nat,N≤l2.length∧N≤9∧s = .slice A2 N cp2∧n = .int .i64 N∧i = .int .i64 0∧wx=w5)
      case first =>
       have hc2:=HC2.out.1
       have hm2:=HC2.out.2
       clear H5 HKL HI HM HRd HN13
       by_cases h5:l2.length≤9
       ·have hmin:min (l2.length:Int) 9=(l2.length:Int):=by omega
        go_wp2_with fail
        all_goals (go_meet; exact ⟨l2.length,Nat.le_refl _,h5,rfl,rfl,rfl,rfl⟩)
       ·have hmin:min (l2.length:Int) 9=9:=by omega
        go_wp2_with fail
        all_goals (go_meet; exact ⟨9,by omega,by omega,rfl,rfl,rfl,rfl⟩)
      case rest =>
       obtain ⟨N,hN,hN9,rfl,rfl,rfl,hwx⟩:=hcut
       rw [hwx]
       clear hwx
       go_wp2_with fail
       go_loopw [89] (fun i wi=>∃ m:Nat,m≤N∧i = .int .i64 m∧Hid (UdL wn.heap.size (k + 2 * j + 1 + 1) wn wi I' x x2 b0 (.slice A1 y.hr.length c1) y.hr.length (y.hr.flatMap Cr.enH3) o (j + 1) V∧Blk wi G 47 #[.string va,.string vb]∧(In.entAt x2.m (o,50 + (j:Int))).b=true)) (fun i _=>N - nOf i)
       case atStart=>exact ⟨0,Nat.zero_le _,rfl,H5⟩
       case round =>
        clear H5
        obtain ⟨m,hm,rfl,H⟩:=hrel
        by_cases hml:m < N
        ·obtain ⟨n,hn⟩:∃ n,l2[m]?=some n:=⟨l2[m],List.getElem?_eq_getElem (by omega)⟩
         obtain ⟨b2,off2,rfl,hbs2,hc3⟩:=(hR2.below H.out.1.2.1).at_ 1 en1_len (by omega) hn
         have q0:wr.cell? ⟨b2,off2 + m,none⟩=some (.int .i64 n):=by have:=hc3 0 _ rfl; simpa using this
         have LT:=hid (fun (t:Int) (u:Bool)=>ud_late H.out.1.1 H.out.2.2 t va u)
         have g0:wr.cell? ⟨G,0,none⟩=some (.string va):=H.out.2.1.cell 0
         have lG:=H.out.2.1.lt
         have HML:=hid (And.intro hml hm)
         clear hc3 hn hm
         go_wp2_with fail
         refine (LT.out _ _).mono ?_
         rintro e w6 ⟨⟨b',c',rfl⟩,hb6⟩
         clear LT g0 lG q0 hbs2
         have hf:∀ w,(Instr.field 33 (.agg #[.bool b',.int .i64 c',.bool false,.bool false]) 2).run Tryz.prog w = .ok (.bool false) w:=fun w=>by kernel_rfl
         have H6:=hid (And.intro (show UdL wn.heap.size (k + 2 * j + 1 + 1) wn w6 I' x x2 b0 (.slice A1 y.hr.length c1) y.hr.length (y.hr.flatMap Cr.enH3) o (j + 1) V from ⟨H.out.1.1.next hb6,bthen H.out.1.2.1 hb6,H.out.1.2.2.next hb6⟩) (And.intro (H.out.2.1.next hb6) H.out.2.2))
         clear H hb6
         simp only [vAns]
         go_wp2_with fail
         go_roundw
         case rel=>exact ⟨m + 1,by have:=HML.out; omega,by go_num,H6⟩
         case measure=>have:=HML.out; simp [nOf]; omega
        ·clear hm
         have H9:=hid H.out.1
         clear H
         go_wp2_with fail
         go_roundw
         case rel=>exact ⟨j + 1,x2,by omega,by go_num,H9⟩
         case measure=>simp [nOf]; omega
     ·-- both pairs are behind: what lies there is told again
      have HS:Hid (∀ w',Below wr.heap.size wr w'→w'.cell? ⟨I'.D,0,none⟩=some (.pointer (some ⟨I'.XC,0,none⟩))∧w'.cell? ⟨I'.D,1,none⟩=some (.pointer (some ⟨I'.XS,0,none⟩))):=hid (fun w' hb=>⟨(H.out.1.next hb).p.blk.cell 0,(H.out.1.next hb).p.blk.cell 1⟩)
      have lD:I'.D < wr.heap.size:=H.out.1.p.blk.lt
      have hz0:Below wr.heap.size wr wr.drew:=(Below.refl _ _).drew
      have s0:=HS.out _ hz0
      clear hj
      go_upto_region 26 with fail
      go_cut [19,20] from 108 to 117 (fun v11 v12 wx=>∃ (A4:Option Addr) (c4:Nat) (A5:Option Addr) (c5:Nat),v11 = .slice A4 y.hr.length c4∧v12 = .slice A5 ids.length c5∧Hid (Below wr.heap.size wr wx)∧Hid (Rd wx A4 (y.hr.flatMap Cr.enH3))∧Hid (Rd wx A5 ((ids.map (Sk.lvAt x.lv)).flatMap Sk.enV6)))
      case first =>
       go_region_held3 (fun w'=>w'.cell? ⟨I'.D,0,none⟩=some (.pointer (some ⟨I'.XC,0,none⟩))∧w'.cell? ⟨I'.D,1,none⟩=some (.pointer (some ⟨I'.XS,0,none⟩)))
        (first | exact s2 | exact s1 | exact s0)
        (first
         | (go_at_call 11; refine (ud_holds (H.out.1.next hz0) HM.out.1 HM.out.2).mono ?_; rintro e w1 ⟨A4,c4,rfl,hO4,hb4⟩; have hz1:=bthen hz0 hb4; have s1:=HS.out _ hz1)
         | (go_at_call 12; refine (ud_levels (H.out.1.next hz1) HI.out.1 HI.out.2).mono ?_; rintro e w2 ⟨A5,c5,rfl,hO5,hb5⟩; have hz2:=bthen hz1 hb5; have s2:=HS.out _ hz2))
       all_goals
        go_wp2_with fail
        go_meet
        exact ⟨A4,c4,A5,c5,rfl,rfl,hid hz2,hid ((own_rd hO4).below hb5),hid (own_rd hO5)⟩
      case rest =>
       obtain ⟨A4,c4,A5,c5,rfl,rfl,HZ,HR4,HR5⟩:=hcut
       obtain ⟨w9,hw9⟩:∃ w9,w9=wc:=⟨_,rfl⟩
       rw [← hw9] at HZ HR4 HR5 ⊢
       clear hw9 s0 hz0 HS lD
       have HR1:=hid (own_rd (H.out.1.next HZ.out).own)
       have HR3:=hid (HRd.out _ _ (H.out.1.next HZ.out).p.row)
       have HB9:=hid (bthen H.out.2.1 HZ.out)
       have hn1:=HN13.out.1
       have hn3:=HN13.out.2
       have t1:((y.hr.length:Int) != (y.hr.length:Int))=false:=by simp
       have t2:((ids.length:Int) != (ids.length:Int))=false:=by simp
       clear H HZ HRd HI HM HKL hj2 HC2 HN13
       go_wp2_with fail
       go_loopw [132] (fun i wi=>∃ m:Nat,m≤y.hr.length∧i = .int .i64 m∧Below w9.heap.size w9 wi) (fun i _=>y.hr.length - nOf i)
       case atStart=>exact ⟨0,Nat.zero_le _,rfl,Below.refl _ _⟩
       case round =>
        obtain ⟨m,hm,rfl,hb⟩:=hrel
        by_cases hml:m < y.hr.length
        ·obtain ⟨v,hv⟩:∃ v,(y.hr)[m]?=some v:=⟨(y.hr)[m]'(hml),List.getElem?_eq_getElem _⟩
         obtain ⟨g1,o1,rfl,hl1,hc1⟩:=(HR4.out.below hb).at_ 3 Cr.enH3_len (by omega) hv
         obtain ⟨g2,o2,rfl,hl2,hc2⟩:=(HR1.out.below hb).at_ 3 Cr.enH3_len (by omega) hv
         obtain ⟨f0,f1,f2⟩:=v
         have q0:wr.cell? ⟨g1,o1 + m * 3,none⟩=some (.int .i64 f0):=hc1 0 _ rfl
         have q1:wr.cell? ⟨g1,o1 + m * 3 + 1,none⟩=some (.int .i64 f1):=hc1 1 _ rfl
         have q2:wr.cell? ⟨g1,o1 + m * 3 + 2,none⟩=some (.int .i64 f2):=hc1 2 _ rfl
         have r0:wr.cell? ⟨g2,o2 + m * 3,none⟩=some (.int .i64 f0):=hc2 0 _ rfl
         have r1:wr.cell? ⟨g2,o2 + m * 3 + 1,none⟩=some (.int .i64 f1):=hc2 1 _ rfl
         have r2:wr.cell? ⟨g2,o2 + m * 3 + 2,none⟩=some (.int .i64 f2):=hc2 2 _ rfl
         have se:=same_held20 f0 f1 f2
         have gd:=guard_held20
         have HBM:=hid hb
         clear hc1 hc2 hv hb hm
         go_upto_region 32 with fail
         go_quiet (fail)
         have hb:=below_drewN HBM.out nq
         clear q0 r0 q1 r1 q2 r2 se gd HBM
         go_wp2_with fail
         go_roundw
         case rel=>exact ⟨m + 1,by omega,by go_num,hb⟩
         case measure=>simp [nOf]; omega
        ·clear hm
         replace HR5:=hid (HR5.out.below hb)
         replace HR3:=hid (HR3.out.below hb)
         replace HB9:=hid (bthen HB9.out hb)
         clear HR4 HR1 hb t1 t2
         obtain ⟨w10,hw10⟩:∃ w10,w10=wr:=⟨_,rfl⟩
         rw [← hw10] at HR5 HR3 HB9 ⊢
         clear hw10
         go_wp2_with fail
         go_loopw [147] (fun i wi=>∃ m:Nat,m≤ids.length∧i = .int .i64 m∧Below w10.heap.size w10 wi) (fun i _=>ids.length - nOf i)
         case atStart=>exact ⟨0,Nat.zero_le _,rfl,Below.refl _ _⟩
         case round =>
          obtain ⟨m,hm,rfl,hb⟩:=hrel
          by_cases hml:m < ids.length
          ·obtain ⟨v,hv⟩:∃ v,(ids.map (Sk.lvAt x.lv))[m]?=some v:=⟨(ids.map (Sk.lvAt x.lv))[m]'(by simpa using hml),List.getElem?_eq_getElem _⟩
           obtain ⟨g1,o1,rfl,hl1,hc1⟩:=(HR5.out.below hb).at_ 6 Sk.enV6_len (by omega) hv
           obtain ⟨g2,o2,rfl,hl2,hc2⟩:=(HR3.out.below hb).at_ 6 Sk.enV6_len (by omega) hv
           obtain ⟨fg,f0,f1,f2,f3,f4,f5⟩:=v
           have q0:wr.cell? ⟨g1,o1 + m * 6,none⟩=some (.int .i64 f0):=hc1 0 _ rfl
           have q1:wr.cell? ⟨g1,o1 + m * 6 + 1,none⟩=some (.int .i64 f1):=hc1 1 _ rfl
           have q2:wr.cell? ⟨g1,o1 + m * 6 + 2,none⟩=some (.int .i64 f2):=hc1 2 _ rfl
           have q3:wr.cell? ⟨g1,o1 + m * 6 + 3,none⟩=some (.int .i64 f3):=hc1 3 _ rfl
           have q4:wr.cell? ⟨g1,o1 + m * 6 + 4,none⟩=some (.int .i64 f4):=hc1 4 _ rfl
           have q5:wr.cell? ⟨g1,o1 + m * 6 + 5,none⟩=some (.int .i64 f5):=hc1 5 _ rfl
           have r0:wr.cell? ⟨g2,o2 + m * 6,none⟩=some (.int .i64 f0):=hc2 0 _ rfl
           have r1:wr.cell? ⟨g2,o2 + m * 6 + 1,none⟩=some (.int .i64 f1):=hc2 1 _ rfl
           have r2:wr.cell? ⟨g2,o2 + m * 6 + 2,none⟩=some (.int .i64 f2):=hc2 2 _ rfl
           have r3:wr.cell? ⟨g2,o2 + m * 6 + 3,none⟩=some (.int .i64 f3):=hc2 3 _ rfl
           have r4:wr.cell? ⟨g2,o2 + m * 6 + 4,none⟩=some (.int .i64 f4):=hc2 4 _ rfl
           have r5:wr.cell? ⟨g2,o2 + m * 6 + 5,none⟩=some (.int .i64 f5):=hc2 5 _ rfl
           have se:=same_level20 f0 f1 f2 f3 f4 f5
           have gd:=guard_level20
           have HBM:=hid hb
           clear hc1 hc2 hv hb hm
           go_upto_region 38 with fail
           go_quiet (fail)
           have hb:=below_drewN HBM.out nq
           clear q0 r0 q1 r1 q2 r2 se gd HBM
           go_wp2_with fail
           go_roundw
           case rel=>exact ⟨m + 1,by omega,by go_num,hb⟩
           case measure=>simp [nOf]; omega
          ·clear hm
           have HF:=hid (HL.out.trans ((bthen HB9.out hb).mono HL.out.size))
           clear hb
           go_wp2_with fail
           go_ret
           exact ⟨rfl,HF.out⟩
end Go.Proofs.YtakaalldbnklcaaGreat
namespace Go.Proofs.YtakaalldbnklcaaGreat.lawDeskUndoes
open Go.ChangeShapes Go.WideShapes Go.ChangeAt Go.RowKit 
set_option linter.unusedVariables false
theorem own:ownKnob Tryz.prog.godebug=none:=by kernel_rfl
theorem laidOut:laidOutB Tryz.prog=true:=by kernel_rfl
theorem bytes2:Tryz.prog.bytesOf 3=8:=by kernel_rfl
theorem flat2:Flat Tryz.prog 3 [.int .i64]:=flat_scalar (by kernel_rfl) (by kernel_rfl)
set_option maxRecDepth 100000 in
theorem contract (H:Type) (enc:TypeId × Value→H) (W:World) (base:Nat) (args:Array Value) (ds gs:List (DataW H)) (before:List MemPlace)
  (hval:∀ (j:Nat) t v,Tryz.f3.params[j]?=some t→args[j]?=some v→Value.okWide Tryz.prog W .any base t v)
  (hW:DataW.Whole enc Tryz.prog Tryz.f3.params.toList Rows.deskUndoesSpec.vars false W args.toList ds gs before)
  (hsz:(DataW.weightsEach Tryz.prog (Tryz.f3.params.toList++Rows.deskUndoesSpec.plain.varTypes Tryz.prog) (ds++gs)).all (· ≤ reachBytes)=true) :
  Calls Tryz.prog 3 args W fun e W'=>∃ v,e = .returned v∧Rows.deskUndoesSpec.post enc Tryz.prog Tryz.f3 false true false false W args v W':=by
 have fin:∀ e W',Law W e W'→∃ v,e = .returned v∧Rows.deskUndoesSpec.post enc Tryz.prog Tryz.f3 false true false false W args v W' :=
  fun e W' h=>law_post laidOut rfl (fun ds hds=>by
   rw [Tryz.params3] at hds
   match ds,hds with
   | [d0,d1,d2],_=>exact ⟨rfl,rfl,rfl⟩) (by rw [Tryz.params3]; intro t ht; simp only [List.mem_cons,List.not_mem_nil,or_false] at ht; rcases ht with rfl | rfl | rfl <;> exact ⟨by kernel_rfl,of_decide_eq_true (by kernel_rfl)⟩) (by kernel_rfl) Tryz.underlying4 hW h
 obtain ⟨p,q,hA0,hV,rfl,hfz,hnd⟩:=hW
 have hA:DataW.TrodAll enc Tryz.prog W 0 (fun _=>true) true Tryz.f3.params.toList args.toList ds p:=hA0
 rw [Tryz.params3] at hA hval hsz
 obtain ⟨v0,vs0,d0,ds0,p0,q0,hargs,rfl,rfl,h0,r0⟩:=trodAll_cons hA
 obtain ⟨v1,vs1,d1,ds1,p1,q1,rfl,rfl,rfl,h1,r1⟩:=trodAll_cons r0
 obtain ⟨v2,vs2,d2,ds2,p2,q2,rfl,rfl,rfl,h2,r2⟩:=trodAll_cons r1
 obtain ⟨rfl,rfl,rfl⟩:=trodAll_nil r2
 obtain rfl:args=#[v0,v1,v2]:=by cases args; simp_all
 obtain ⟨rfl,rfl⟩:=trodVars_none hV
 obtain ⟨A0,len0,cap0,rfl⟩:=okWide_slice Tryz.underlying22 (hval 0 22 v0 rfl rfl)
 obtain ⟨fuel0,hf0⟩:=h0
 obtain ⟨A0',cap0',l0,hcs0,hR0,ok0,hr0⟩:=open_dops hf0 (fun y hy=>by simpa using List.all_eq_true.1 hsz _ (DataW.weights_mem_each (j:=0) rfl rfl y hy))
 simp [Value.cells] at hcs0
 obtain ⟨rfl,rfl,rfl⟩:=hcs0
 obtain ⟨n1,rfl,rfl,rfl,w1⟩:=open_int Tryz.underlying3 (hval 1 3 v1 rfl rfl) h1
 obtain ⟨A2,len2,cap2,rfl⟩:=okWide_slice Tryz.underlying23 (hval 2 23 v2 rfl rfl)
 obtain ⟨fuel2,hf2⟩:=h2
 obtain ⟨A2',len2',cap2',xs2,hcs2,hlc2,hcm2,hxl2,hR2,hall2,hd2⟩:=open_flat Tryz.underlying23 flat2 (by decide) hf2
 simp [Value.cells] at hcs2
 obtain ⟨rfl,rfl,rfl⟩:=hcs2
 obtain ⟨l2,rfl,rfl,ok2⟩:=flat_list (ks:=[.int .i64]) (en:=en1) (ok:=Go.Proofs.YtakaalldbnklcaaGreat.ok1) dec1 len2 xs2 hxl2 hall2
 have hr2:l2.length * 8≤140737488351232:=by
  rcases hd2 with hd | ⟨elems,sp,hd,hel⟩
  ·omega
  ·simp only at hd
   subst hd
   have:=sized_slice hsz (j:=2) (t:=23) (e:=3) rfl rfl Tryz.underlying23
   rw [bytes2] at this
   simp only [reachBytes] at this
   omega
 exact (deskUndoes_walk l0 A0 cap0 n1 l2 A2 cap2 W hR0 ok0 hr0 hR2 hr2 hlc2 hcm2).mono fin
set_option maxRecDepth 100000 in
theorem lifted (os:Os) (started:os.Started) (H:Type) (enc:TypeId × Value→H) :
  ReturnsInHanded {} Tryz.checked os 3 .any (Rows.deskUndoesSpec.pre6 enc Tryz.prog Tryz.f3 Rows.deskUndoesRow.domain false) (Rows.deskUndoesSpec.post enc Tryz.prog Tryz.f3 false true false false):=by
 refine returnsInHanded_of_change_sized (C:=Tryz.checked) own started (by kernel_rfl) Tryz.func3
  (ChangeSpec.witness6 (enc:=enc) (C:=Tryz.checked) false ⟨#[],#[.slice none 0 0,.int .i64 0,.slice none 0 0],[]⟩ 8 (by kernel_rfl) (by kernel_rfl) (by kernel_rfl) (by kernel_rfl)) ?_
 intro W base args ds gs before hval hW _ hsz _
 exact contract H enc W base args ds gs before hval hW hsz
theorem proved:Rows.DeskUndoesSaid :=
 OpenClaim.holds_of_wide 3 Tryz.f3 rfl rfl rfl rfl rfl rfl rfl ⟨rfl,rfl,rfl,rfl,rfl⟩ rfl rfl rfl rfl rfl (by kernel_rfl) Tryz.func3 (by kernel_rfl)
  (of_decide_eq_true (by kernel_rfl)) (by unfold Func.isWrapper; rw [if_neg (of_decide_eq_false (by kernel_rfl))]; exact ⟨rfl,rfl⟩)
  (fun os started H enc _=>lifted os started H enc)
#print axioms proved
end Go.Proofs.YtakaalldbnklcaaGreat.lawDeskUndoes
