/-
  The orders' book: Items, All.
  The document's orders' book: two lists; Price, Find.
  The document's orders' book: SetItem (the loop is printed by gen_setitem19.py).
  Layer 19: the document's IsWord; the laws' word 'lines'.
  Contracts of the reference's Total, and of wakes' parts: what a total is by the reference is what it is by the program.
  The document's orders' book: Add refuses (printed by gen_ra19.py).
  The orders' book beside the document's two lists. No program.
-/
import Derived.Test.YtakaalldbnklcaaGreatQd2
import Derived.Test.YtakaalldbnklcaaGreatQd10
import Derived.Deep.RegionHeldLaw
import Derived.Deep.RegionLaw
import Derived.Deep.AppendLies
namespace Go.Proofs.YtakaalldbnklcaaGreat.Or
open Go.RowKit Go.WideShapes Go.ChangeShapes Go.ChangeAt Go.Deep
set_option linter.unusedVariables false
theorem info_od:(Tryz.prog.info? 166).map (fun i=>(i.zero,i.size,i.bytes))=some (some zO,6,72):=by kernel_rfl
theorem keys_few {l:List Int} {n:Nat} (hd:l.Nodup) (h:∀ k ∈ l,1≤k∧k≤n):l.length≤n:=by
 have hn:(l.map Int.toNat).Nodup:=by
  refine List.pairwise_map.2 ((List.Pairwise.and_mem.1 hd).imp ?_)
  rintro a b ⟨ha,hb,hab⟩ e
  have:=h a ha; have:=h b hb
  omega
 have hsub:(l.map Int.toNat) ⊆ List.range' 1 n:=fun x hx=>by
  obtain ⟨k,hk',rfl⟩:=List.mem_map.1 hx
  have:=h k hk'
  exact List.mem_range'_1.2 (by omega)
 have:=List.Nodup.length_le_of_subset hn hsub
 simpa using this
theorem mapI_flat (l:List Int):l.map kI=l.flatMap (fun x=>[kI x]):=by
 induction l with
 | nil=>rfl
 | cons x l ih=>simp [ih]
def enO6 (o:Od):List Value:=[.int .i64 o.i,.int .i64 o.c,.string o.f,.slice (some ⟨o.b,0,none⟩) o.ls.length o.cap,.int .i64 o.n,.int .i64 o.t]
theorem enO6_len (o:Od):(enO6 o).length=6:=rfl
def bare (o:Od):Od:=⟨o.i,o.c,o.f,0,0,o.ls,o.n,o.t⟩
def odAt (os:List (Int × Od)) (id:Int):Od:=(mget os id).getD ⟨0,0,ByteArray.empty,0,0,[],0,0⟩
section
variable {n0:Nat} {w w':World} {X BP BO:Nat} {pr:List (Int × Int)} {os:List (Int × Od)}
theorem LnRow.next {base b cap:Nat} {ls:List Ln} (h:LnRow base w b cap ls) (hb:Below w.heap.size w w'):LnRow base w' b cap ls :=
 ⟨h.own.kept (grown_of_below hb none) (by cases hv:(Value.slice (some ⟨b,0,none⟩) ls.length cap).ownBlock <;> simp)⟩
def AllPost (os:List (Int × Od)) (w:World) (e:Ending) (w':World):Prop :=
 ∃ (A:Option Addr) (cap:Nat) (ids:List Int) (l:List Od),e = .returned (.slice A l.length cap)∧l.length=ids.length∧ids.Perm (os.map (·.1))∧ids.Pairwise (fun a b=>a < b)∧l.map bare=ids.map (fun id=>bare (odAt os id)) ∧
  w'.ownsRow w.heap.size 166 6 (.slice A l.length cap) l.length (l.flatMap enO6)∧(∀ o ∈ l,LnRow w.heap.size w' o.b o.cap o.ls)∧Below w.heap.size w w'
def AllDist (os:List (Int × Od)) (w:World) (e:Ending) (w':World):Prop :=
 ∃ (A:Option Addr) (cap:Nat) (ids:List Int) (l:List Od),e = .returned (.slice A l.length cap)∧l.length=ids.length∧ids.Perm (os.map (·.1))∧ids.Pairwise (fun a b=>a < b)∧l.map bare=ids.map (fun id=>bare (odAt os id)) ∧
  w'.ownsRow w.heap.size 166 6 (.slice A l.length cap) l.length (l.flatMap enO6)∧(∀ o ∈ l,LnRow w.heap.size w' o.b o.cap o.ls)∧l.Pairwise (fun a b=>a.b ≠ b.b)∧Below w.heap.size w w'
set_option maxRecDepth 100000 in
set_option maxHeartbeats 4000000 in
theorem all_dist (h:IsBook n0 w X BP BO pr os) (hfew:os.length≤256) (hq:∀ p ∈ os,1≤p.2.ls.length∧p.2.ls.length≤4) :
  Calls Tryz.prog 48 #[.pointer (some ⟨X,0,none⟩)] w (AllDist os w):=by
 have hA:=h.cellO
 have hnd:=h.ods.nodup
 have hb1:Below w.heap.size w (w.alloc (.cells #[.map (some BO)] 182)):=(Below.refl _ _).alloc (Nat.le_refl _) _
 have K:=hid (sortedKeysO (w.alloc (.cells #[.map (some BO)] 182)) w.heap.size BO os (by omega) (by simp) (by simp) (h.alloc _).ods)
 have V:=hid ((callsIn_wide (n:=6)).1 (keysCall_inO Fence.wide 6 trivial rfl (some BO) w))
 obtain ⟨i0,hi,hz0,hz1,hz2⟩:=info_parts info_od
 have H0:=hid h
 have HND:=hid hnd
 have HQ:=hid hq
 clear h hnd hq
 go_enter Tryz.func48,Tryz.ntmps48
 go_wp2_with fail
 refine V.out.mono ?_
 rintro e w1 ⟨rfl,rfl⟩
 go_wp2_with fail
 refine K.out.mono ?_
 rintro e w2 ⟨v,ss,rfl,hp,hrow,hb2⟩
 have hb:=bthen hb1 hb2
 have hln:(srt ss).length=ss.length:=(srt_perm ss).length_eq
 have hss:ss.length≤256:=by have:=hp.length_eq; simp at this; omega
 have HPM:=hid ((srt_perm ss).trans hp)
 have HRS:=hid (srt_rise (hp.nodup_iff.2 HND.out))
 clear K V hb1 hp
 have hrow':w2.ownsRow w.heap.size 3 1 v ss.length ((srt ss).map kI):=ownsRow_low hrow (by simp)
 clear hrow
 obtain ⟨A,cap,rfl,_⟩:=own_slice hrow'
 have e0:=mapI_flat (srt ss)
 go_wp2_with fail
 go_loopw [3,15] (fun v i wr=>∃ (k:Nat) (l:List Od),k≤ss.length∧i = .int .i64 k∧l.length=k∧Hid (l.map bare=((srt ss).take k).map (fun id=>bare (odAt os id)))∧wr.ownsRow w.heap.size 166 6 v k (l.flatMap enO6)∧Hid (∀ o ∈ l,LnRow w.heap.size wr o.b o.cap o.ls)∧Hid (l.Pairwise (fun a b=>a.b ≠ b.b))∧wr.ownsRow w.heap.size 3 1 (.slice A ss.length cap) ss.length ((srt ss).map kI)∧Below w.heap.size w wr) (fun _ i _=>ss.length - nOf i)
 case atStart=>exact ⟨0,[],Nat.zero_le _,rfl,rfl,hid rfl,World.ownsRow_nil _ _ _ _,hid (fun o ho=>by cases ho),hid List.Pairwise.nil,hrow',hb⟩
 case round =>
  clear hrow' hb hb2
  obtain ⟨k,l,hk,rfl,hll,hbare,hO,hL,hD,hrow,hb⟩:=hrel
  have HLL:=hid hll
  clear hll
  by_cases hlt:k < ss.length
  ·obtain ⟨x,hx⟩:∃ x,(srt ss)[k]?=some x:=⟨(srt ss)[k],List.getElem?_eq_getElem (by omega)⟩
   have hin:x ∈ os.map (·.1):=HPM.out.mem_iff.1 (List.mem_of_getElem? hx)
   obtain ⟨o,ho⟩:=mget_key hin
   have HS:Hid (((srt ss).take (k + 1)).map (fun id=>bare (odAt os id))=((srt ss).take k).map (fun id=>bare (odAt os id))++[bare o]):=hid (by rw [List.take_add_one,hx,List.map_append]; simp [odAt,ho])
   have hrd:=own_rd hrow
   rw [e0] at hrd
   obtain ⟨b,off,hAA,hbl,hcc⟩:=hrd.at_ 1 (fun _=>rfl) (by omega) hx
   subst hAA
   have q0:wr.cell? ⟨b,off + k,none⟩=some (.int .i64 x):=by have:=hcc 0 _ rfl; simpa [kI] using this
   have h:=H0.out.next hb
   have c0:=h.cellO
   have l1:(Instr.lookup 182 (.map (some BO)) (.int .i64 x) false).run Tryz.prog wr = .ok (enO o) wr:=by
    have:=h.ods.look keyL Tryz.underlying182 (zeroO _) x
    rw [show looked zO enO os x=enO o from by unfold looked; rw [ho]] at this
    exact this
   have hol:=HQ.out _ (mget_mem ho)
   simp only at hol
   have K:=twin_some o wr (h.lns _ (mget_mem ho)).1 hol.1 hol.2
   obtain ⟨oi,oc,of,ob,ocp,ols,on,ot⟩:=o
   simp only [enO] at l1 K
   replace K:=hid K
   have HH:=hid (And.intro hO (And.intro hrow hb))
   clear h hx hcc hrd hO hrow hb ho hin
   go_wp2_with fail
   refine K.out.mono ?_
   rintro e w7 ⟨b7,cp7,rfl,hL7,hb7⟩
   obtain ⟨hO,hrow,hb⟩:=HH.out
   have hL':=hid (fun o ho=>(hL.out o ho).next hb7)
   have hD7:=hid (fun (o:Od) (ho:o ∈ l)=>(show b7 ≠ o.b from fun e=>by
    have h1:=(hL7.own.lt b7 rfl).1
    have h2:=((hL.out o ho).own.lt o.b rfl).2
    omega))
   have hLo:=hid (ownsRow_low hL7.own hb.size)
   replace hO:=hO.kept (grown_of_below hb7 none) (by cases hv:u3.ownBlock <;> simp)
   replace hrow:=hrow.kept (grown_of_below hb7 none) (by cases hv:(Value.slice (some ⟨b,off,none⟩) ss.length cap).ownBlock <;> simp)
   replace hb:=bthen hb hb7
   have hwz:w.heap.size≤w7.heap.size:=hb.size
   have HO:=hid hO
   have HR:=hid (hrow.alloc (.cells #[.int .i64 oi,.int .i64 oc,.string of,.slice (some ⟨b7,0,none⟩) ols.length cp7,.int .i64 on,.int .i64 ot] 166))
   have hb3:=hid (hb.alloc hb.size (.cells #[.int .i64 oi,.int .i64 oc,.string of,.slice (some ⟨b7,0,none⟩) ols.length cp7,.int .i64 on,.int .i64 ot] 166))
   have HO2:=hid (hO.alloc (.cells #[.int .i64 oi,.int .i64 oc,.string of,.slice (some ⟨b7,0,none⟩) ols.length cp7,.int .i64 on,.int .i64 ot] 166))
   clear hO hrow hb hL7 hb7 K HH q0 c0 l1
   go_wp2_with (first
    | (at_builtin; refine wpList_push _ rfl _ _ 143 rfl w.heap.size 166 i0 _ 6 72 Tryz.underlying143 hi hz0 hz1 hz2 rfl (by decide) _ _ _ (by rfl) HO.out #[.int .i64 oi,.int .i64 oc,.string of,.slice (some ⟨b7,0,none⟩) ols.length cp7,.int .i64 on,.int .i64 ot] w7.heap.size (by simp) (by rfl) (by rfl) (by rfl) (by unfold maxLen; omega) (by omega) hwz ?_; intro v' w3 hO4 hg4))
   have hb4:=hb3.out.grown hg4 (by simp; omega) (fun k hk=>(HO.out.lt k hk).1)
   have hO5:w3.ownsRow w.heap.size 166 6 v' (k + 1) ((l++[(⟨oi,oc,of,b7,cp7,ols,on,ot⟩:Od)]).flatMap enO6):=by
    rw [List.flatMap_append]
    simpa [enO6] using hO4
   have hR5:=HR.out.kept hg4 (by
    rcases hob:(Value.slice (some ⟨b,off,none⟩) ss.length cap).ownBlock with _ | g'
    ·exact .inl rfl
    ·right
     intro e
     exact own_other HO2.out HR.out (by decide) hob e.symm)
   have hal:∀ {b cap:Nat} {ls:List Ln},w7.ownsRow w.heap.size 67 2 (.slice (some ⟨b,0,none⟩) ls.length cap) ls.length (ls.flatMap enL)→LnRow w.heap.size w3 b cap ls:=fun {b cap ls} hOo =>
    ⟨(hOo.alloc _).kept hg4 (.inr (fun e=>own_other HO2.out (hOo.alloc _) (by decide) rfl e.symm))⟩
   have hL5:∀ o ∈ l++[(⟨oi,oc,of,b7,cp7,ols,on,ot⟩:Od)],LnRow w.heap.size w3 o.b o.cap o.ls:=fun o ho=>by
    rcases List.mem_append.1 ho with ho | ho
    ·exact hal (hL'.out o ho).own
    ·simp at ho; subst ho; exact hal hLo.out
   have hbr:(l++[(⟨oi,oc,of,b7,cp7,ols,on,ot⟩:Od)]).map bare=((srt ss).take (k + 1)).map (fun id=>bare (odAt os id)):=by
    rw [HS.out,List.map_append,hbare.out]; rfl
   replace hL5:=hid hL5
   have hD5:=hid (show (l++[(⟨oi,oc,of,b7,cp7,ols,on,ot⟩:Od)]).Pairwise (fun a b=>a.b ≠ b.b) from List.pairwise_append.2 ⟨hD.out,List.pairwise_singleton _ _,fun a ha b hb=>by
    simp only [List.mem_singleton] at hb
    subst hb
    exact (hD7.out a ha).symm⟩)
   replace hbr:=hid hbr
   clear hO4 hg4 HO HO2 HR hb3 hal hL' hLo
   go_roundw
   case rel=>exact ⟨k + 1,_,by omega,by go_num,by rw [List.length_append,HLL.out]; rfl,hbr,hO5,hL5,hD5,hR5,hb4⟩
   case measure=>simp [nOf]; omega
  ·have hk':k=(srt ss).length:=by omega
   have hbb:=hbare.out
   rw [hk',List.take_length] at hbb
   obtain ⟨A',cap',rfl,_⟩:=own_slice hO
   have hkl:k=l.length:=HLL.out.symm
   rw [hkl] at hO
   have HH:=hid (And.intro hO hb)
   have HBB:=hid hbb
   have HLS:=hid (show l.length=(srt ss).length from by omega)
   clear hO hb hrow hbb hk'
   subst hkl
   go_wp2_with fail
   go_ret
   exact ⟨A',cap',srt ss,l,rfl,HLS.out,HPM.out,HRS.out,HBB.out,HH.out.1,hL.out,hD.out,HH.out.2⟩
theorem all_any (h:IsBook n0 w X BP BO pr os) (hfew:os.length≤256) (hq:∀ p ∈ os,1≤p.2.ls.length∧p.2.ls.length≤4) :
  Calls Tryz.prog 48 #[.pointer (some ⟨X,0,none⟩)] w (AllPost os w) :=
 (all_dist h hfew hq).mono fun _ _ ⟨A,cap,ids,l,h1,h2,h3,h4,h5,h6,h7,_,h8⟩=>⟨A,cap,ids,l,h1,h2,h3,h4,h5,h6,h7,h8⟩
end
end Go.Proofs.YtakaalldbnklcaaGreat.Or
namespace Go.Proofs.YtakaalldbnklcaaGreat.Or
open Go.RowKit Go.WideShapes Go.ChangeShapes Go.ChangeAt Go.Deep
set_option linter.unusedVariables false
theorem info_ri:(Tryz.prog.info? 202).map (fun i=>(i.zero,i.size,i.bytes))=some (some (.agg #[.int .i64 0,.int .i64 0]),2,16):=by kernel_rfl
theorem info_ro:(Tryz.prog.info? 168).map (fun i=>(i.zero,i.size,i.bytes))=some (some zO,6,72):=by kernel_rfl
def LnsAt (base:Nat) (w:World) (o:Od):Prop:=Rd w (some ⟨o.b,0,none⟩) (o.ls.flatMap enL)∧base≤o.b∧∃ cs,Blk w o.b 205 cs
structure IsRef (base:Nat) (w:World) (R:Nat) (A1:Option Addr) (c1:Nat) (is:List (Int × Int)) (A2:Option Addr) (c2:Nat) (rs:List Od):Prop where
 blk:Blk w R 93 #[.slice A1 is.length c1,.slice A2 rs.length c2]
 own1:w.ownsRow base 202 2 (.slice A1 is.length c1) is.length (is.flatMap en2)
 own2:w.ownsRow base 168 6 (.slice A2 rs.length c2) rs.length (rs.flatMap enO6)
 lns:∀ o ∈ rs,LnsAt base w o
 lt:R < base
section
variable {base R c1 c2:Nat} {A1 A2:Option Addr} {is:List (Int × Int)} {rs:List Od} {w w':World}
theorem LnsAt.touch {S:Nat→Prop} {o:Od} (h:LnsAt base w o) (ht:Touch S w w') (hS:¬ S o.b):LnsAt base w' o:=by
 obtain ⟨h1,h2,cs,h3⟩:=h
 exact ⟨ht.rd h1 (fun b hb=>by simp at hb; subst hb; exact hS),h2,cs,ht.blk h3 hS⟩
theorem IsRef.next (h:IsRef base w R A1 c1 is A2 c2 rs) (hb:Below w.heap.size w w'):IsRef base w' R A1 c1 is A2 c2 rs :=
 ⟨h.blk.next hb,h.own1.kept (grown_of_below hb none) (by cases hv:(Value.slice A1 is.length c1).ownBlock <;> simp),h.own2.kept (grown_of_below hb none) (by cases hv:(Value.slice A2 rs.length c2).ownBlock <;> simp),
  fun o ho=>(h.lns o ho).touch (S:=fun _=>False) (.of_below hb) (fun h=>h),h.lt⟩
theorem IsRef.cell0 (h:IsRef base w R A1 c1 is A2 c2 rs):w.cell? ⟨R,0,none⟩=some (.slice A1 is.length c1):=h.blk.cell 0
theorem IsRef.cell1 (h:IsRef base w R A1 c1 is A2 c2 rs):w.cell? ⟨R,1,none⟩=some (.slice A2 rs.length c2):=h.blk.cell 1
theorem IsRef.elem1 (h:IsRef base w R A1 c1 is A2 c2 rs) {k:Nat} {y:Int × Int} (hk:is[k]?=some y):∃ g,A1=some ⟨g,0,none⟩∧base≤g∧CellsAt w g (k * 2) (en2 y):=by
 have hkl:=(List.getElem?_eq_some_iff.1 hk).1
 obtain ⟨g,cap',e,hb,hlt⟩:=own_form h.own1 (by omega)
 injection e with e1 e2 e3
 subst e1 e3
 exact ⟨g,rfl,hb,hlt,fun j u hu=>own_cells en2_len h.own1 hk hu⟩
theorem IsRef.elem2 (h:IsRef base w R A1 c1 is A2 c2 rs) {k:Nat} {y:Od} (hk:rs[k]?=some y):∃ g,A2=some ⟨g,0,none⟩∧base≤g∧CellsAt w g (k * 6) (enO6 y):=by
 have hkl:=(List.getElem?_eq_some_iff.1 hk).1
 obtain ⟨g,cap',e,hb,hlt⟩:=own_form h.own2 (by omega)
 injection e with e1 e2 e3
 subst e1 e3
 exact ⟨g,rfl,hb,hlt,fun j u hu=>own_cells enO6_len h.own2 hk hu⟩
def isI (id:Int) (y:Int × Int):Bool:=decide (y.1=id)
def isD (id:Int) (y:Od):Bool:=decide (y.i=id)
set_option maxRecDepth 100000 in
set_option maxHeartbeats 4000000 in
theorem rprice_any (h:IsRef base w R A1 c1 is A2 c2 rs) (id:Int) (hl:is.length≤140737488355328) :
  Calls Tryz.prog 63 #[.pointer (some ⟨R,0,none⟩),.int .i64 id] w fun e w'=>e = .returned (.int .i64 (plc (isI id) is))∧w=w':=by
 go_enter Tryz.func63,Tryz.ntmps63
 go_wp2_with fail
 go_loop [5] (fun i=>∃ k:Nat,k≤is.length∧i = .int .i64 k∧Hid (∀ j y,j < k→is[j]?=some y→isI id y=false)) (fun i=>is.length - nOf i)
 case atStart=>exact ⟨0,Nat.zero_le _,rfl,hid (fun j y hj=>by omega)⟩
 case round =>
  obtain ⟨k,hk,rfl,hP⟩:=hrel
  have c0:=h.cell0
  by_cases hlt:k < is.length
  ·obtain ⟨y,hy⟩:∃ y,is[k]?=some y:=⟨is[k],List.getElem?_eq_getElem hlt⟩
   obtain ⟨g,rfl,_,hpr⟩:=h.elem1 hy
   have HY:=hid hy
   obtain ⟨yi,yl⟩:=y
   have p0:w.cell? ⟨g,k * 2,none⟩=some (.int .i64 yi):=hpr.2 0 _ rfl
   clear hy hpr
   by_cases e:yi=id
   ·subst e
    have HV:=hid (plc_some (p:=isI yi) HY.out (by simp [isI]) hP.out)
    clear hP HY
    go_wp2_with fail
    go_ret
    rw [HV.out]; exact ⟨rfl,rfl⟩
   ·have b2:(yi == id)=false:=by simpa using e
    have HN:=hid (show isI id (yi,yl)=false from by simpa [isI] using e)
    clear e
    go_wp2_with fail
    go_round
    case rel=>exact ⟨k + 1,by omega,by go_num,hid (fun j z hj hz=>by
     by_cases e:j=k
     ·subst e; rw [HY.out] at hz; injection hz with hz; subst hz; exact HN.out
     ·exact hP.out j z (by omega) hz)⟩
    case measure=>simp [nOf]; omega
  ·have HV:=hid (plc_none (p:=isI id) (l:=is) (fun y hy=>by
    obtain ⟨j,hj⟩:=List.mem_iff_getElem?.1 hy
    exact hP.out j y (by have:=(List.getElem?_eq_some_iff.1 hj).1; omega) hj))
   have hk':k=is.length:=by omega
   subst hk'
   clear hP hk hlt
   go_wp2_with fail
   go_ret
   rw [HV.out]; exact ⟨rfl,rfl⟩
set_option maxRecDepth 100000 in
set_option maxHeartbeats 4000000 in
theorem rfindO_any (h:IsRef base w R A1 c1 is A2 c2 rs) (id:Int) (hl:rs.length≤140737488355328) :
  Calls Tryz.prog 66 #[.pointer (some ⟨R,0,none⟩),.int .i64 id] w fun e w'=>e = .returned (.int .i64 (plc (isD id) rs))∧w=w':=by
 go_enter Tryz.func66,Tryz.ntmps66
 go_wp2_with fail
 go_loop [5] (fun i=>∃ k:Nat,k≤rs.length∧i = .int .i64 k∧Hid (∀ j y,j < k→rs[j]?=some y→isD id y=false)) (fun i=>rs.length - nOf i)
 case atStart=>exact ⟨0,Nat.zero_le _,rfl,hid (fun j y hj=>by omega)⟩
 case round =>
  obtain ⟨k,hk,rfl,hP⟩:=hrel
  have c0:=h.cell1
  by_cases hlt:k < rs.length
  ·obtain ⟨y,hy⟩:∃ y,rs[k]?=some y:=⟨rs[k],List.getElem?_eq_getElem hlt⟩
   obtain ⟨g,rfl,_,hpr⟩:=h.elem2 hy
   have HY:=hid hy
   obtain ⟨yi,yc,yf,yb,ycp,yls,yn,yt⟩:=y
   have p0:w.cell? ⟨g,k * 6,none⟩=some (.int .i64 yi):=hpr.2 0 _ rfl
   clear hy hpr
   by_cases e:yi=id
   ·subst e
    have HV:=hid (plc_some (p:=isD yi) HY.out (by simp [isD]) hP.out)
    clear hP HY
    go_wp2_with fail
    go_ret
    rw [HV.out]; exact ⟨rfl,rfl⟩
   ·have b2:(yi == id)=false:=by simpa using e
    have HN:=hid (show isD id (⟨yi,yc,yf,yb,ycp,yls,yn,yt⟩:Od)=false from by simpa [isD] using e)
    clear e
    go_wp2_with fail
    go_round
    case rel=>exact ⟨k + 1,by omega,by go_num,hid (fun j z hj hz=>by
     by_cases e:j=k
     ·subst e; rw [HY.out] at hz; injection hz with hz; subst hz; exact HN.out
     ·exact hP.out j z (by omega) hz)⟩
    case measure=>simp [nOf]; omega
  ·have HV:=hid (plc_none (p:=isD id) (l:=rs) (fun y hy=>by
    obtain ⟨j,hj⟩:=List.mem_iff_getElem?.1 hy
    exact hP.out j y (by have:=(List.getElem?_eq_some_iff.1 hj).1; omega) hj))
   have hk':k=rs.length:=by omega
   subst hk'
   clear hP hk hlt
   go_wp2_with fail
   go_ret
   rw [HV.out]; exact ⟨rfl,rfl⟩
end
end Go.Proofs.YtakaalldbnklcaaGreat.Or
namespace Go.Proofs.YtakaalldbnklcaaGreat.Or
open Go.RowKit Go.WideShapes Go.ChangeShapes Go.ChangeAt Go.Deep
set_option linter.unusedVariables false
theorem ins_start {α:Type} {enc:α→List Value} {s:Nat} {t tb:TypeId} {base R j:Nat} {A:Option Addr} {r:List α} {x:α} {w0 w3:World} {v':Value} {cs:Array Value} (n:Nat)
  (h3:Blk w3 R tb cs) (hO:w3.ownsRow base t s v' (r.length + 1) (r.flatMap enc++enc x)) (hT:Touch (RT n R A) w0 w3) (hlt:R < base) (hloc:∀ g,v'.ownBlock=some g→RT n R A g) :
  ∃ g cap',v' = .slice (some ⟨g,0,none⟩) (r.length + 1) cap'∧g ≠ R∧base≤g∧RT n R A g∧InsRow enc s t base g cap' (w3.setCell ⟨R,j,none⟩ (.slice (some ⟨g,0,none⟩) (r.length + 1) cap')) (midK r x r.length) (w3.setCell ⟨R,j,none⟩ (.slice (some ⟨g,0,none⟩) (r.length + 1) cap')) ∧
   Touch (RT n R A) w0 (w3.setCell ⟨R,j,none⟩ (.slice (some ⟨g,0,none⟩) (r.length + 1) cap'))∧Blk (w3.setCell ⟨R,j,none⟩ (.slice (some ⟨g,0,none⟩) (r.length + 1) cap')) R tb (cs.setIfInBounds j (.slice (some ⟨g,0,none⟩) (r.length + 1) cap')):=by
 have e:r.flatMap enc++enc x=(r++[x]).flatMap enc:=by simp
 rw [e] at hO
 have hO':w3.ownsRow base t s v' (r++[x]).length ((r++[x]).flatMap enc):=by simpa using hO
 obtain ⟨g,cap',rfl,hbg,hgl⟩:=own_form hO' (by simp)
 have hl:(r++[x]).length=r.length + 1:=by simp
 rw [hl] at hloc ⊢
 have hne:g ≠ R:=by omega
 have hg:w3.grownBy (w3.setCell ⟨R,j,none⟩ (.slice (some ⟨g,0,none⟩) (r.length + 1) cap')) (some R):=⟨rfl,rfl,rfl,by simp,fun k _ hk=>heap_setCell_other w3 ⟨R,j,none⟩ k _ (fun e=>hk (by simp [e]))⟩
 refine ⟨g,cap',rfl,hne,hbg,hloc g rfl,⟨?_,Touch.refl _ _⟩,hT.then ((Touch.setCell w3 R j _).mono (fun k hk => .inl hk)),h3.set_ j _⟩
 rw [midK_end]
 have:=hO'.kept hg (.inr (by simp [Value.ownBlock]; exact hne))
 exact this
section
variable {base R c1 c2:Nat} {A1 A2:Option Addr} {is:List (Int × Int)} {rs:List Od} {w w4 wr:World}
theorem rt_not {A:Option Addr} {n cap m s k:Nat} {t tk:TypeId} {xs:List Value} {cs cs2:Array Value} {t2:TypeId} (hR:Blk w R t2 cs2) (hA:w.ownsRow base t s (.slice A n cap) m xs) (hk:Blk w k tk cs) (h1:tk ≠ t2) (h2:tk ≠ t):¬ RT w.heap.size R A k:=by
 rintro (rfl | e | e)
 ·exact hk.ne_ hR h1 rfl
 ·obtain ⟨cs',hb⟩:=rowBlk hA e
  exact hk.ne_ hb h2 rfl
 ·have:=hk.lt; omega
theorem IsRef.ins1 {g cap':Nat} {l:List (Int × Int)} (h:IsRef base w R A1 c1 is A2 c2 rs) (hI:InsRow en2 2 202 base g cap' w4 l wr) (hB:Blk w4 R 93 #[.slice (some ⟨g,0,none⟩) l.length cap',.slice A2 rs.length c2])
  (hT:Touch (RT w.heap.size R A1) w w4) (hg:RT w.heap.size R A1 g) (hgR:g ≠ R) (_hx:True):IsRef base wr R (some ⟨g,0,none⟩) cap' l A2 c2 rs∧Touch (RT w.heap.size R A1) w wr:=by
 have hT2:Touch (RT w.heap.size R A1) w wr:=hT.then (hI.touch.mono (fun k hk=>by subst hk; exact hg))
 refine ⟨⟨hI.touch.blk hB (fun e=>hgR e.symm),hI.own,own_touch h.own2 hT2 (fun k hk => ?_),fun o ho=>(h.lns o ho).touch hT2 ?_,h.lt⟩,hT2⟩
 ·obtain ⟨cs,hb⟩:=rowBlk h.own2 (b:=k) (by cases A2 with | none=>simp [Value.ownBlock] at hk | some a=>simpa [Value.ownBlock] using hk)
  exact rt_not h.blk h.own1 hb (by decide) (by decide)
 ·obtain ⟨_,_,cs,hb⟩:=h.lns o ho
  exact rt_not h.blk h.own1 hb (by decide) (by decide)
def isC (is:List (Int × Int)) (id l:Int):List (Int × Int):=if 0≤plc (isI id) is then is.set (plc (isI id) is).toNat (id,l) else insK Prod.fst ltI is (id,l)
def SetPost (base R:Nat) (A1 A2:Option Addr) (c2:Nat) (is:List (Int × Int)) (rs:List Od) (id l:Int) (w:World) (e:Ending) (w':World):Prop :=
 ∃ A1' c1',e = .returned (.int .i64 0)∧IsRef base w' R A1' c1' (isC is id l) A2 c2 rs∧Touch (RT w.heap.size R A1) w w'
set_option maxRecDepth 100000 in
set_option maxHeartbeats 4000000 in
theorem rset_no (id l:Int) (hno:¬ itemOk id l) (v:Value) :
  Calls Tryz.prog 26 #[v,.int .i64 id,.int .i64 l] w fun e w'=>e = .returned (.int .i64 2)∧w=w':=by
 unfold itemOk at hno
 rcases (show id < 1∨(1≤id∧64 < id)∨((1≤id∧id≤64)∧l < 0)∨((1≤id∧id≤64∧0≤l)∧1000000 < l) from by omega) with h1 | ⟨h1,h2⟩ | ⟨⟨h1,h2⟩,h3⟩ | ⟨⟨h1,h2,h3⟩,h4⟩
 all_goals
  clear hno
  go_enter Tryz.func26,Tryz.ntmps26
  go_wp2_with fail
  go_ret
  exact ⟨rfl,rfl⟩
set_option maxRecDepth 100000 in
set_option maxHeartbeats 8000000 in
theorem rset_yes (h:IsRef base w R A1 c1 is A2 c2 rs) (hs:SortedK Prod.fst ltI is) (id l:Int) (hok:itemOk id l) (hl:is.length * 16 + 16≤140737488355328) (hbw:base≤w.heap.size) :
    Calls Tryz.prog 26 #[.pointer (some ⟨R,0,none⟩),.int .i64 id,.int .i64 l] w (SetPost base R A1 A2 c2 is rs id l w):=by
  obtain ⟨h1,h2,h3,h4⟩:=hok
  have F:=rprice_any h id (by omega)
  rcases plc_cases (isI id) is with ⟨k,y,hk,hy,hp,he⟩ | ⟨hn,he⟩
  · rw [he] at F
    have HE:=hid (show isC is id l=is.set k (id,l) from by unfold isC; rw [he,if_pos (by omega)]; rfl)
    obtain ⟨g,rfl,hbg,hpr⟩:=h.elem1 hy
    have hyi:y.1=id:=by simpa [isI] using hp
    obtain ⟨yi,yl⟩:=y
    simp only at hyi
    subst hyi
    have c0:=h.cell0
    have q1:w.cell? ⟨g,k * 2 + 1,none⟩=some (.int .i64 yl):=hpr.2 1 _ rfl
    have f1:w.frozen? ⟨g,k * 2 + 1,none⟩=false:=own_free h.own1 _
    have hI:InsRow en2 2 202 base g c1 w is w:=⟨h.own1,Touch.refl _ _⟩
    have hJ:=hI.field (k:=k) (j:=1) (x':=(yi,l)) (v:=.int .i64 l) en2_len hy (by omega) rfl
    have hB:Blk w R 93 #[.slice (some ⟨g,0,none⟩) (is.set k (yi,l)).length c1,.slice A2 rs.length c2]:=by rw [List.length_set]; exact h.blk
    have hX:=hid (h.ins1 hJ hB (Touch.refl _ _) (.inr (.inl rfl)) (by have:=h.lt; omega) trivial)
    have HF:=hid F
    clear F he hp hy hpr hI hJ hB h
    go_enter Tryz.func26,Tryz.ntmps26
    go_wp2_with fail
    refine HF.out.mono ?_
    rintro e w1 ⟨rfl,rfl⟩
    go_wp2_with fail
    go_ret
    exact ⟨_,_,rfl,by rw [HE.out]; exact hX.out.1,hX.out.2⟩
  · rw [he] at F
    have HE:=hid (show isC is id l=insK Prod.fst ltI is (id,l) from by unfold isC; rw [he,if_neg (by omega)])
    have HN:=hid (show ((id,l):Int × Int).1 ∉ is.map Prod.fst from fun hin=>by
      obtain ⟨y,hy,e⟩:=List.mem_map.1 hin
      have:=hn y hy
      simp [isI] at this
      exact this e)
    have HNL:=hid trivial
    have HS:=hid hs
    have HF:=hid F
    clear F he hn hs
    obtain ⟨i0,hi,hz0,hz1,hz2⟩:=info_parts info_ri
    have c0:=h.cell0
    have HO:=hid h.own1
    have HB:=hid (h.blk.alloc (.cells #[.int .i64 id,.int .i64 l] 202))
    have HT:=hid ((Touch.refl (RT w.heap.size R A1) w).alloc (.cells #[.int .i64 id,.int .i64 l] 202))
    have hRw:R < w.heap.size:=h.blk.lt
    have hRb:=h.lt
    have H:=hid h
    clear h
    go_enter Tryz.func26,Tryz.ntmps26
    go_wp2_with fail
    refine HF.out.mono ?_
    rintro e w1 ⟨rfl,rfl⟩
    clear HF
    go_wp2_with (first
      | (at_builtin; refine wpList_push_at _ rfl _ _ 90 rfl base 202 i0 _ 2 16 Tryz.underlying90 hi hz0 hz1 hz2 rfl (by decide) _ _ _ (by rfl) HO.out #[.int .i64 id,.int .i64 l] w.heap.size (by simp) (by rfl) (by rfl) (by rfl) (by unfold maxLen; omega) (by omega) (by omega) ?_; intro v' w3 hO3 hg3 hat3
         have hB3:=HB.out.grown hg3 (fun e=>by have:=(HO.out.lt R e.symm).1; omega)
         have hT3:=HT.out.then (touch_row hg3 (fun k hk => .inr (.inl (by cases A1 with | none=>simp [Value.ownBlock] at hk | some a=>simpa [Value.ownBlock] using hk))))
         have c3:w3.cell? ⟨R,0,none⟩=some (.slice A1 is.length c1):=hB3.cell 0
         have f3:=hB3.free 0
         obtain ⟨g,cap',rfl,hgR,hbg,hrt,hI0,hT4,hB4⟩:=ins_start (j:=0) (x:=((id,l):Int × Int)) w.heap.size hB3 hO3 hT3 hRb (fun g hg=>hat3.elim (fun e => .inr (.inl (by rw [e] at hg; cases A1 with | none=>simp [Value.ownBlock] at hg | some a=>simpa [Value.ownBlock] using hg))) (fun e => .inr (.inr (by rw [e] at hg; injection hg with hg; omega))))
         replace hI0:=hid hI0
         replace hT4:=hid hT4
         replace hB4:=hid hB4
         clear hO3 hg3 hat3 hB3 hT3))
    clear HO HB HT c0 c3 f3 hi hz0 hz1 hz2
    obtain ⟨w4,hw4⟩:∃ w4,w4=w3.setCell ⟨R,0,none⟩ (.slice (some ⟨g,0,none⟩) (is.length + 1) cap'):=⟨_,rfl⟩
    have hI:=hI0.out
    replace hT4:=hT4.out
    replace hB4:=hB4.out
    rw [← hw4] at hI hT4 hB4 ⊢
    have hBB:Blk w4 R 93 #[.slice (some ⟨g,0,none⟩) (is.length + 1) cap',.slice A2 rs.length c2]:=by simpa using hB4
    have HT4:=hid hT4
    have HBB:=hid hBB
    clear hw4 hI0 hT4 hB4 hBB
    go_loopw [8] (fun i wr=>∃ k:Nat,k≤is.length∧i = .int .i64 k∧Hid (Behind Prod.fst ltI is ((id,l):Int × Int) k)∧InsRow en2 2 202 base g cap' w4 (midK is ((id,l):Int × Int) k) wr) (fun i _=>nOf i)
    case atStart=>exact ⟨is.length,Nat.le_refl _,by go_num,hid behind_end,hI⟩
    case round =>
      clear hI
      obtain ⟨k,hk,rfl,hP,hI⟩:=hrel
      have hln:=midK_len (z:=((id,l):Int × Int)) hk
      obtain ⟨n1,hn1⟩:∃ n1,n1=is.length + 1:=⟨_,rfl⟩
      have c0:wr.cell? ⟨R,0,none⟩=some (.slice (some ⟨g,0,none⟩) n1 cap'):=by rw [hn1]; exact (hI.touch.blk HBB.out (fun e=>hgR e.symm)).cell 0
      have lR:R < wr.heap.size:=(hI.touch.blk HBB.out (fun e=>hgR e.symm)).lt
      have hkn:k < n1:=by omega
      have hn2:n1≤140737488355328:=by omega
      have e2:=hI.elem en2_len (midK_here hk)
      have lg:g < wr.heap.size:=e2.1
      have q0:wr.cell? ⟨g,k * 2,none⟩=some (.int .i64 id):=e2.2 0 _ rfl
      have q1:wr.cell? ⟨g,k * 2 + 1,none⟩=some (.int .i64 l):=e2.2 1 _ rfl
      have HEX:Hid (∀ w',(∀ y,0 < k→is[k - 1]?=some y→ltI (Prod.fst ((id,l):Int × Int)) (Prod.fst y)=false)→Below wr.heap.size wr w'→SetPost base R A1 A2 c2 is rs id l w (.returned (.int .i64 0)) w'):=hid (fun w' hf hb=>by
        have hI':=hI.next hb
        rw [midK_done linI HS.out HN.out hk hP.out hf] at hI'
        obtain ⟨a1,a2⟩:=H.out.ins1 hI' (by rw [insK_length]; exact HBB.out) HT4.out hrt hgR HNL.out
        exact ⟨_,_,rfl,by rw [HE.out]; exact a1,a2⟩)
      by_cases hk0:0 < k
      · obtain ⟨y,hy⟩:∃ y,is[k - 1]?=some y:=⟨is[k - 1],List.getElem?_eq_getElem (by omega)⟩
        have e1:=hI.elem en2_len (k:=k - 1) (y:=y) (by rw [midK_at hk0 hk]; exact hy)
        have hkw:IntKind.i64.wrap ((k:Int) - 1)=((k - 1:Nat):Int):=by rw [IntWalk.i64_in _ ⟨by omega,by omega⟩]; omega
        have hkl:k - 1 < n1:=by omega
        have HY:=hid hy
        obtain ⟨yi,yl⟩:=y
        have p0:wr.cell? ⟨g,(k - 1) * 2,none⟩=some (.int .i64 yi):=e1.2 0 _ rfl
        have p1:wr.cell? ⟨g,(k - 1) * 2 + 1,none⟩=some (.int .i64 yl):=e1.2 1 _ rfl
        clear e1 e2 hy
        by_cases hlt:id < yi
        · have HP2:=hid (behind_step hP.out hk0 HY.out (by simp [ltI,hlt]))
          have HS2:=hid (midK_step (z:=((id,l):Int × Int)) hk0 hk HY.out)
          have HLN:=hid hln
          have HI:=hid hI
          have HN1:=hid hn1
          clear hI hln hn1
          go_wp2_with fail
          go_quiet (fail)
          obtain ⟨wd,hwd,hIDs,d0,dR,dG,r0,r1,s0,s1⟩:∃ wd,wd=wr.drewN nq∧Hid (InsRow en2 2 202 base g cap' w4 (midK is ((id,l):Int × Int) k) wd)∧wd.cell? ⟨R,0,none⟩=some (.slice (some ⟨g,0,none⟩) n1 cap')∧R < wd.heap.size∧g < wd.heap.size∧wd.cell? ⟨g,k * 2,none⟩=some (.int .i64 id)∧wd.cell? ⟨g,k * 2 + 1,none⟩=some (.int .i64 l)∧wd.cell? ⟨g,(k - 1) * 2,none⟩=some (.int .i64 yi)∧wd.cell? ⟨g,(k - 1) * 2 + 1,none⟩=some (.int .i64 yl):=⟨_,rfl,hid (HI.out.next (below_drewN (Below.refl _ _) nq)),c0,lR,lg,q0,q1,p0,p1⟩
          rw [← hwd]
          clear hwd HI c0 lR lg q0 q1 p0 p1 HEX
          have hbx:Below wd.heap.size wd (wd.alloc (.cells #[.int .i64 id,.int .i64 l] 202)):=(Below.refl _ _).alloc (Nat.le_refl _) _
          have hGx:=Blk.new wd 202 #[.int .i64 id,.int .i64 l]
          replace hbx:=hid hbx
          replace hGx:=hid hGx
          go_wp2_with fail
          obtain ⟨wx,hwx⟩:∃ wx,wx=wd.alloc (.cells #[.int .i64 id,.int .i64 l] 202):=⟨_,rfl⟩
          rw [← hwx] at hbx hGx ⊢
          obtain ⟨G,hG⟩:∃ G,G=wd.heap.size:=⟨_,rfl⟩
          have hgG:g ≠ G:=by omega
          have hRG:R ≠ G:=by omega
          rw [← hG] at hGx ⊢
          have hIx:=hIDs.out.next hbx.out
          have c0:wx.cell? ⟨R,0,none⟩=some (.slice (some ⟨g,0,none⟩) n1 cap'):=(hbx.out.cell (p:=⟨R,0,none⟩) dR).trans d0
          have lR:R < wx.heap.size:=Nat.lt_of_lt_of_le dR hbx.out.size
          have lg:g < wx.heap.size:=Nat.lt_of_lt_of_le dG hbx.out.size
          have q0:wx.cell? ⟨g,k * 2,none⟩=some (.int .i64 id):=(hbx.out.cell (p:=⟨g,k * 2,none⟩) dG).trans r0
          have q1:wx.cell? ⟨g,k * 2 + 1,none⟩=some (.int .i64 l):=(hbx.out.cell (p:=⟨g,k * 2 + 1,none⟩) dG).trans r1
          have p0:wx.cell? ⟨g,(k - 1) * 2,none⟩=some (.int .i64 yi):=(hbx.out.cell (p:=⟨g,(k - 1) * 2,none⟩) dG).trans s0
          have p1:wx.cell? ⟨g,(k - 1) * 2 + 1,none⟩=some (.int .i64 yl):=(hbx.out.cell (p:=⟨g,(k - 1) * 2 + 1,none⟩) dG).trans s1
          have f0:=hIx.free (k * 2)
          have f1:=hIx.free (k * 2 + 1)
          have hJ:=(hIx.put en2_len (k:=k) (by have:=HLN.out; omega) ((yi,yl):Int × Int)).drew
          have hGJ:=hid (((Touch.of_grown (own_storeMany hIx.own (k * 2) (en2 ((yi,yl):Int × Int))).2).blk hGx.out (fun e=>hgG e.symm)).next (below_drewN (Below.refl _ _) 1))
          have hJ2:=hid (show InsRow en2 2 202 base g cap' w4 ((midK is ((id,l):Int × Int) k).set k ((yi,yl):Int × Int)) _ from hJ)
          clear hwx hG hIDs hIx hJ d0 dR dG r0 r1 s0 s1
          refine wp_tail 14 (by kernel_rfl) (by kernel_rfl) ?_
          simp only [List.take_succ_cons,List.take_zero,List.drop_succ_cons,List.drop_zero]
          repeat still_step
          refine wpStill_nil ?_
          go_wp2_with fail
          obtain ⟨wy,hwy⟩:∃ wy,wy=((wx.setCell ⟨g,k * 2,none⟩ (.int .i64 yi)).setCell ⟨g,k * 2 + 1,none⟩ (.int .i64 yl)).drew:=⟨_,rfl⟩
          have hJy:InsRow en2 2 202 base g cap' w4 ((midK is ((id,l):Int × Int) k).set k ((yi,yl):Int × Int)) wy:=by rw [hwy]; exact hJ2.out
          have hGy:Blk wy G 202 #[.int .i64 id,.int .i64 l]:=by rw [hwy]; exact hGJ.out
          rw [← hwy]
          clear hwy hJ2 hGJ c0 lR lg q0 q1 p0 p1 f0 f1 hbx hGx
          have c0:wy.cell? ⟨R,0,none⟩=some (.slice (some ⟨g,0,none⟩) n1 cap'):=by rw [HN1.out]; exact (hJy.touch.blk HBB.out (fun e=>hgR e.symm)).cell 0
          have lR:R < wy.heap.size:=(hJy.touch.blk HBB.out (fun e=>hgR e.symm)).lt
          have e1:=hJy.elem en2_len (k:=k - 1) (y:=((yi,yl):Int × Int)) (by rw [List.getElem?_set_ne (by omega),midK_at hk0 hk]; exact HY.out)
          have lg:g < wy.heap.size:=e1.1
          have p0:wy.cell? ⟨g,(k - 1) * 2,none⟩=some (.int .i64 yi):=e1.2 0 _ rfl
          have p1:wy.cell? ⟨g,(k - 1) * 2 + 1,none⟩=some (.int .i64 yl):=e1.2 1 _ rfl
          have g0:wy.cell? ⟨G,0,none⟩=some (.int .i64 id):=hGy.cell 0
          have g1:wy.cell? ⟨G,1,none⟩=some (.int .i64 l):=hGy.cell 1
          have f0:=hJy.free ((k - 1) * 2)
          have f1:=hJy.free ((k - 1) * 2 + 1)
          have hJz:=(hJy.put en2_len (k:=k - 1) (by rw [List.length_set]; have:=HLN.out; omega) ((id,l):Int × Int)).drew
          rw [HS2.out] at hJz
          replace hJz:=hid hJz
          clear e1 hJy hGy
          refine wp_tail 8 (by kernel_rfl) (by kernel_rfl) ?_
          simp only [List.take_succ_cons,List.take_zero,List.drop_succ_cons,List.drop_zero]
          repeat still_step
          refine wpStill_nil ?_
          clear hkw
          go_wp2_with fail
          go_roundw
          case rel=>exact ⟨k - 1,by omega,by congr 1; omega,HP2,hJz.out⟩
          case measure=>simp [nOf]; omega
        · have hd:decide (id < yi)=false:=decide_eq_false hlt
          have HX2:=hid (fun n=>HEX.out (wr.drewN n) (fun y hy0 hy1=>by rw [HY.out] at hy1; injection hy1 with hy1; subst hy1; simp [ltI,hlt]) (below_drewN (Below.refl _ _) n))
          clear hlt hI hln hn1 HEX
          go_wp2_with fail
          go_quiet (fail)
          go_wp2_with fail
          go_ret
          exact HX2.out _
      · have hd:decide (0 < k)=false:=decide_eq_false hk0
        have HX2:=hid (fun n=>HEX.out (wr.drewN n) (fun y hy0 hy1=>absurd hy0 hk0) (below_drewN (Below.refl _ _) n))
        clear HEX hI hln hn1 e2
        go_wp2_with fail
        go_quiet (fail)
        go_wp2_with fail
        go_ret
        exact HX2.out _
end
end Go.Proofs.YtakaalldbnklcaaGreat.Or
namespace Go.Proofs.YtakaalldbnklcaaGreat.Or
open Go.RowKit Go.WideShapes Go.ChangeShapes Go.ChangeAt Go.Deep
set_option linter.unusedVariables false
theorem info_rl:(Tryz.prog.info? 205).map (fun i=>(i.zero,i.size,i.bytes))=some (some (.agg #[.int .i64 0,.int .i64 0]),2,16):=by kernel_rfl
set_option maxRecDepth 100000 in
set_option maxHeartbeats 4000000 in
theorem risWord_any (s:ByteArray) (w:World) (hs:s.size≤maxLen) :
    Calls Tryz.prog 65 #[.string s] w fun e w'=>e = .returned (.bool (isW s))∧w=w':=by
  unfold maxLen at hs
  by_cases h1:s.size=0
  · have hv:Hid (isW s=false):=hid (by unfold isW; rw [show decide (1≤s.size)=false from decide_eq_false (by omega)]; simp)
    have b1:decide ((s.size:Int) < 1)=true:=decide_eq_true (by omega)
    clear h1
    go_enter Tryz.func65,Tryz.ntmps65
    go_wp2_with fail
    go_ret
    refine ⟨?_,rfl⟩
    rw [hv.out]
    rfl
  · have b1 : decide ((s.size:Int) < 1)=false:=decide_eq_false (by omega)
    have h0:0 < s.size:=by omega
    by_cases h2:12 < s.size
    · have hv:Hid (isW s=false):=hid (by unfold isW; rw [show decide (s.size≤12)=false from decide_eq_false (by omega)]; simp)
      have b2:decide ((12:Int) < (s.size:Int))=true:=decide_eq_true (by omega)
      clear h1 h2
      go_enter Tryz.func65,Tryz.ntmps65
      go_wp2_with fail
      go_ret
      refine ⟨?_,rfl⟩
      rw [hv.out]
      rfl
    · have b2 : decide ((12:Int) < (s.size:Int))=false:=decide_eq_false (by omega)
      by_cases h3:97≤(s[0].toNat:Int)∧(s[0].toNat:Int)≤122
      · obtain ⟨h3, h4⟩:=h3
        have b3:decide ((s[0].toNat:Int) < 97)=false:=decide_eq_false (by omega)
        have b4:decide ((122:Int) < (s[0].toNat:Int))=false:=decide_eq_false (by omega)
        have HL0:=hid (show letB 0 s[0]=true from (letB_iff _ _).2 (.inl ⟨h3,h4⟩))
        have HSZ:=hid (And.intro h1 h2)
        clear h1 h2 h3 h4
        go_enter Tryz.func65,Tryz.ntmps65
        go_wp2_with fail
        go_loop [3] (fun i=>∃ k:Nat,k≤s.size∧i = .int .i64 k∧Hid (∀ j,(hj:j < s.size)→j < k→letB j s[j]=true)) (fun i=>s.size - nOf i)
        case atStart=>exact ⟨0,Nat.zero_le _,rfl,hid (fun j hj hk=>by omega)⟩
        case round =>
          obtain ⟨k,hk,rfl,hP⟩:=hrel
          by_cases hlt:k < s.size
          · go_wp2_with fail
            all_goals
              have hk0:k=0→letB k s[k]=true:=fun e=>by subst e; exact HL0.out
              try simp only [bne_iff_ne,bne_eq_false_iff_eq,Bool.not_eq_true',Bool.not_eq_false',decide_eq_false_iff_not,decide_eq_true_eq,ne_eq] at *
              first
                | (have hb:letB k s[k]=false:=letB_no (by omega)
                   have hv:=hid (letters_none hlt hb)
                   go_ret
                   refine ⟨?_,rfl⟩
                   rw [hv.out]
                   rfl)
                | (have hb:letB k s[k]=true:=by
                     by_cases e:k=0
                     · exact hk0 e
                     · exact (letB_iff _ _).2 (by omega)
                   have HB:=hid hb
                   go_round
                   case rel=>exact ⟨k + 1,by omega,by go_num,hid (fun j hj hk'=>by
                     by_cases e:j=k
                     · subst e; exact HB.out
                     · exact hP.out j hj (by omega))⟩
                   case measure=>simp [nOf]; omega)
          · have hk':k=s.size:=by omega
            subst hk'
            have hall:=letters_all (fun j hj=>hP.out j hj hj)
            have hv:Hid (isW s=true):=hid (by
              unfold isW
              rw [hall,show decide (1≤s.size)=true from decide_eq_true (by omega),show decide (s.size≤12)=true from decide_eq_true (by have:=HSZ.out; omega)]; rfl)
            clear hall hP
            go_wp2_with fail
            go_ret
            refine ⟨?_,rfl⟩
            rw [hv.out]
            rfl
      · have hb:letB 0 s[0]=false:=letB_no (by omega)
        have hv:Hid (isW s=false):=hid (letters_none h0 hb)
        clear hb
        go_enter Tryz.func65,Tryz.ntmps65
        by_cases h5:(s[0].toNat:Int) < 97
        · have b3:decide ((s[0].toNat:Int) < 97)=true:=decide_eq_true h5
          clear h1 h2 h3
          go_wp2_with fail
          go_ret
          refine ⟨?_,rfl⟩
          rw [hv.out]
          rfl
        · have b3:decide ((s[0].toNat:Int) < 97)=false:=decide_eq_false h5
          have b4:decide ((122:Int) < (s[0].toNat:Int))=true:=decide_eq_true (by omega)
          clear h1 h2 h3
          go_wp2_with fail
          go_ret
          refine ⟨?_,rfl⟩
          rw [hv.out]
          rfl
end Go.Proofs.YtakaalldbnklcaaGreat.Or
namespace Go.Proofs.YtakaalldbnklcaaGreat.Or
open Go.RowKit
theorem fifth (n:Int):(n * 20 + 50) / 100=n / 5 + (if 3≤n % 5 then 1 else 0):=by
 split <;> omega
set_option maxHeartbeats 400000 in
theorem rtotal_few (l:List (Int × Int)) (A:Option Addr) (cap:Nat) (w:World) (hl:l.length=0∨4 < l.length) :
  Calls Tryz.prog 67 #[.slice A l.length cap] w fun e w'=>e = .returned (.tuple #[.int .i64 0,.int .i64 0,.int .i64 2])∧Below w.heap.size w w':=by
 go_enter Tryz.func67,Tryz.ntmps67
 rcases hl with h | h
 ·rw [h]
  go_wp2
  go_ret3
  exact ⟨rfl,Below.refl _ _⟩
 ·have h0:¬ (l.length:Int) < 1:=by omega
  have h4:(4:Int) < l.length:=by omega
  go_wp2
  go_ret3
  exact ⟨rfl,Below.refl _ _⟩
set_option maxHeartbeats 1000000 in
theorem rtotal_some (l:List (Int × Int)) (A:Option Addr) (cap:Nat) (w:World) (h1:1≤l.length) (h4:l.length≤4) (hL:Rd w A (l.flatMap en2)) :
    Calls Tryz.prog 67 #[.slice A l.length cap] w fun e w'=>e = .returned (.tuple #[.int .i64 (netT l),.int .i64 (taxT l),.int .i64 (errT l)])∧Below w.heap.size w w':=by
  have h0:¬ (l.length:Int) < 1:=by omega
  have h4':¬ (4:Int) < l.length:=by omega
  go_enter Tryz.func67,Tryz.ntmps67
  go_wp2
  go_loopw [5,6,7,10] (fun n t i _ wr=>∃ k:Nat,k≤l.length∧i = .int .i64 k∧n = .int .i64 (netOf (l.take k))∧t = .int .i64 (taxOf (l.take k))∧(l.take k).all lok=true∧Below w.heap.size w wr) (fun _ _ i _ _=>l.length - (intOf i).toNat)
  case atStart=>exact ⟨0,Nat.zero_le _,rfl,rfl,rfl,rfl,Below.refl _ _⟩
  case round =>
    obtain ⟨k,hk,rfl,rfl,rfl,hok,hb⟩:=hrel
    have hbd:=sums_bd _ hok
    have hlen:(l.take k).length≤4:=by simp; omega
    by_cases hlt:k < l.length
    · obtain ⟨x, hx⟩:∃ x,l[k]?=some x:=⟨l[k],List.getElem?_eq_getElem hlt⟩
      obtain ⟨b,off,rfl,hbs,hc⟩:=hL.at_ 2 en2_len (by omega) hx
      have hq:=hc 0 _ rfl
      have hp:=hc 1 _ rfl
      rw [← hb.cell (p:=⟨b,_,none⟩) hbs] at hq hp
      simp only [Nat.add_zero] at hq
      clear hc hL
      have hts:=take_snoc hx
      have hxm:x ∈ l:=List.mem_of_getElem? hx
      by_cases hx1:lok x=true
      · obtain ⟨g1,g2,g3,g4⟩:=lok_iff.1 hx1
        have m0:=net1_bd hx1
        have hf:=fifth (x.1 * x.2)
        have HS:Hid (l.take (k + 1)=l.take k++[x]):=hts
        have HF:Hid ((x.1 * x.2 * 20 + 50) / 100=x.1 * x.2 / 5 + (if 3≤x.1 * x.2 % 5 then 1 else 0)):=hf
        clear hts hf
        go_wp2
        all_goals
          go_roundw
          case rel =>
            refine ⟨k + 1,by omega,by go_num, ?_, ?_, ?_,hb.alloc hb.size _⟩
            · rw [HS.out,netOf_snoc]
            · rw [HS.out,taxOf_snoc,HF.out]
              first
                | rw [if_pos (by assumption)]
                | (rw [if_neg (by omega)]; go_num)
            · rw [HS.out]; simp [hok,hx1]
          case measure=>simp [intOf]; omega
      · have hbad:¬ (((1≤x.1∧x.1≤1000000)∧0≤x.2)∧x.2≤1000000):=fun h=>hx1 (lok_iff.2 ⟨h.1.1.1,h.1.1.2,h.1.2,h.2⟩)
        have hfit:fits l=false:=by
          cases hf:fits l with
          | false=>rfl
          | true =>
            simp only [fits,Bool.and_eq_true,List.all_eq_true] at hf
            exact absurd (hf.2 x hxm) hx1
        clear hts hx1
        go_wp2
        all_goals first
          | (exact absurd ‹_› hbad)
          | (go_ret3
             exact ⟨ret3 (by simp [netT,hfit]) (by simp [taxT,hfit]) (by simp [errT,hfit]),hb.alloc hb.size _⟩)
    · have hk':k=l.length:=by omega
      subst hk'
      rw [List.take_length] at hok
      have hfit:fits l=true:=by
        simp only [fits,Bool.and_eq_true,hok,decide_eq_true_eq,and_true]; omega
      rw [List.take_length]
      go_wp2
      go_ret3
      exact ⟨ret3 (by simp [netT,hfit]) (by simp [taxT,hfit]) (by simp [errT,hfit]),hb⟩
theorem rtotal_any (l:List (Int × Int)) (A:Option Addr) (cap:Nat) (w:World) (hL:Rd w A (l.flatMap en2)) :
  Calls Tryz.prog 67 #[.slice A l.length cap] w fun e w'=>e = .returned (.tuple #[.int .i64 (netT l),.int .i64 (taxT l),.int .i64 (errT l)])∧Below w.heap.size w w':=by
 by_cases h:1≤l.length∧l.length≤4
 ·exact rtotal_some l A cap w h.1 h.2 hL
 ·have hfit:fits l=false:=by simp [fits]; intro h1 h2; exact absurd ⟨by omega,h2⟩ h
  simp only [netT,taxT,errT,hfit]
  exact rtotal_few l A cap w (by omega)
end Go.Proofs.YtakaalldbnklcaaGreat.Or
namespace Go.Proofs.YtakaalldbnklcaaGreat.Or
open Go.RowKit Go.WideShapes Go.ChangeShapes Go.ChangeAt Go.Deep
set_option linter.unusedVariables false
section
variable {base R c1 c2:Nat} {A1 A2:Option Addr} {is:List (Int × Int)} {rs:List Od} {pr:List (Int × Int)} {w w4 wr:World}
set_option maxRecDepth 100000 in
set_option maxHeartbeats 8000000 in
theorem radd_head (id c:Int) (f:ByteArray) (A:Option Addr) (cap:Nat) (ls:List Ln) (v:Value) (hfs:f.size≤maxLen) (hno:¬ headOk id c f ls.length) :
  Calls Tryz.prog 31 #[v,.int .i64 id,.int .i64 c,.string f,.slice A ls.length cap] w fun e w'=>e = .returned (.int .i64 2)∧Below w.heap.size w w':=by
 have W:=hid (fun w=>risWord_any f w hfs)
 unfold headOk at hno
 have hcs:id < 1∨(1≤id∧256 < id)∨((1≤id∧id≤256)∧c < 1)∨((1≤id∧id≤256∧1≤c)∧64 < c)∨((1≤id∧id≤256∧1≤c∧c≤64)∧isW f=false)∨((1≤id∧id≤256∧1≤c∧c≤64)∧isW f=true∧ls.length=0)∨((1≤id∧id≤256∧1≤c∧c≤64)∧isW f=true∧4 < ls.length):=by
  generalize ls.length=m at hno ⊢
  generalize isW f=b at hno ⊢
  cases b <;> simp only [Bool.false_eq_true,Bool.true_eq_false,and_false,false_and,true_and,and_true,or_false,false_or,not_false_eq_true] at hno ⊢ <;> omega
 clear hno
 rcases hcs with h1 | ⟨h1,h2⟩ | ⟨⟨h1,h2⟩,h3⟩ | ⟨⟨h1,h2,h3⟩,h4⟩ | ⟨⟨h1,h2,h3,h4⟩,h5⟩ | ⟨⟨h1,h2,h3,h4⟩,h5,h6⟩ | ⟨⟨h1,h2,h3,h4⟩,h5,h6⟩
 ·generalize isW f=bw at W
  go_enter Tryz.func31,Tryz.ntmps31
  go_wp2_with (first | (go_at_call 65; refine (W.out _).mono ?_; rintro e w5 ⟨rfl,rfl⟩))
  go_ret
  exact ⟨rfl,Below.refl _ _⟩
 ·generalize isW f=bw at W
  go_enter Tryz.func31,Tryz.ntmps31
  go_wp2_with (first | (go_at_call 65; refine (W.out _).mono ?_; rintro e w5 ⟨rfl,rfl⟩))
  go_ret
  exact ⟨rfl,Below.refl _ _⟩
 ·generalize isW f=bw at W
  go_enter Tryz.func31,Tryz.ntmps31
  go_wp2_with (first | (go_at_call 65; refine (W.out _).mono ?_; rintro e w5 ⟨rfl,rfl⟩))
  go_ret
  exact ⟨rfl,Below.refl _ _⟩
 ·generalize isW f=bw at W
  go_enter Tryz.func31,Tryz.ntmps31
  go_wp2_with (first | (go_at_call 65; refine (W.out _).mono ?_; rintro e w5 ⟨rfl,rfl⟩))
  go_ret
  exact ⟨rfl,Below.refl _ _⟩
 ·rw [h5] at W
  clear h5
  go_enter Tryz.func31,Tryz.ntmps31
  go_wp2_with (first | (go_at_call 65; refine (W.out _).mono ?_; rintro e w5 ⟨rfl,rfl⟩))
  go_ret
  exact ⟨rfl,Below.refl _ _⟩
 ·rw [h5] at W
  clear h5
  have e1:decide ((ls.length:Int) < 1)=true:=decide_eq_true (by omega)
  clear h6
  go_enter Tryz.func31,Tryz.ntmps31
  go_wp2_with (first | (go_at_call 65; refine (W.out _).mono ?_; rintro e w5 ⟨rfl,rfl⟩))
  go_ret
  exact ⟨rfl,Below.refl _ _⟩
 ·rw [h5] at W
  clear h5
  have e1:decide ((ls.length:Int) < 1)=false:=decide_eq_false (by omega)
  have e2:decide ((4:Int) < (ls.length:Int))=true:=decide_eq_true (by omega)
  clear h6
  go_enter Tryz.func31,Tryz.ntmps31
  go_wp2_with (first | (go_at_call 65; refine (W.out _).mono ?_; rintro e w5 ⟨rfl,rfl⟩))
  go_ret
  exact ⟨rfl,Below.refl _ _⟩
set_option maxRecDepth 100000 in
set_option maxHeartbeats 8000000 in
theorem radd_bad (id c:Int) (f:ByteArray) (A:Option Addr) (cap:Nat) (ls:List Ln) (v:Value) (hfs:f.size≤maxLen) (hR:Rd w A (ls.flatMap enL)) (hh:headOk id c f ls.length) (hno:¬ OrdOk id c f ls) :
  Calls Tryz.prog 31 #[v,.int .i64 id,.int .i64 c,.string f,.slice A ls.length cap] w fun e w'=>e = .returned (.int .i64 2)∧Below w.heap.size w w':=by
 have HNO:=hid (show ¬ ∀ k,k < ls.length→LnOk ls k from fun h=>hno ⟨hh,fun j=>by
  by_cases hj:j < ls.length
  ·exact h j hj
  ·intro p hp
   rw [List.getElem?_eq_none (by omega)] at hp
   cases hp⟩)
 clear hno
 obtain ⟨h1,h2,h3,h4,h5,h6,h7⟩:=hh
 have W:=hid (fun w=>risWord_any f w hfs)
 rw [h5] at W
 have e1:decide ((ls.length:Int) < 1)=false:=decide_eq_false (by omega)
 have e2:decide ((4:Int) < (ls.length:Int))=false:=decide_eq_false (by omega)
 clear h5
 go_enter Tryz.func31,Tryz.ntmps31
 go_wp2_with (first | (go_at_call 65; refine (W.out _).mono ?_; rintro e w5 ⟨rfl,rfl⟩))
 clear W h1 h2 h3 h4 e1 e2
 go_loopw [12] (fun i wr=>∃ k:Nat,k≤ls.length∧i = .int .i64 k∧Hid (∀ j,j < k→LnOk ls j)∧Below w.heap.size w wr) (fun i _=>ls.length - nOf i)
 case atStart=>exact ⟨0,Nat.zero_le _,rfl,hid (fun j hj=>by omega),Below.refl _ _⟩
 case round =>
  obtain ⟨k,hk,rfl,hG,hb⟩:=hrel
  by_cases hlt:k < ls.length
  ·obtain ⟨x,hx⟩:∃ x,ls[k]?=some x:=⟨ls[k],List.getElem?_eq_getElem hlt⟩
   have HX:=hid hx
   obtain ⟨b,off,rfl,hbs,hcc⟩:=(hR.below hb).at_ 2 enL_len (by omega) hx
   obtain ⟨xi,xq⟩:=x
   have q1:wr.cell? ⟨b,off + k * 2 + 1,none⟩=some (.int .i64 xq):=hcc 1 _ rfl
   have HB:=hid hb
   clear hcc hx hbs hb
   by_cases t1:xq < 1
   ·have b1:decide (xq < 1)=true:=decide_eq_true t1
    clear t1
    go_wp2_with fail
    go_ret
    exact ⟨rfl,HB.out⟩
   ·have b1:decide (xq < 1)=false:=decide_eq_false t1
    by_cases t2:1000000 < xq
    ·have b2:decide (1000000 < xq)=true:=decide_eq_true t2
     clear t1 t2
     go_wp2_with fail
     go_ret
     exact ⟨rfl,HB.out⟩
    ·have b2:decide (1000000 < xq)=false:=decide_eq_false t2
     have HQ:=hid (show 1≤xq∧xq≤1000000 from by omega)
     clear t1 t2
     go_wp2_with fail
     clear q1 b1 b2
     go_loopw [13] (fun i wy=>∃ m:Nat,m≤k∧i = .int .i64 m∧Hid (∀ j y,j < m→ls[j]?=some y→y.i ≠ xi)∧Below w.heap.size w wy) (fun i _=>k - nOf i)
     case atStart=>exact ⟨0,Nat.zero_le _,rfl,hid (fun j y hj=>by omega),HB.out⟩
     case round =>
      obtain ⟨m,hm,rfl,hN,hb⟩:=hrel
      by_cases hmk:m < k
      ·obtain ⟨y,hy⟩:∃ y,ls[m]?=some y:=⟨ls[m],List.getElem?_eq_getElem (by omega)⟩
       have HY:=hid hy
       have hml:m < ls.length:=by omega
       have qs:∀ W',Below w.heap.size w W'→W'.cell? ⟨b,off + m * 2,none⟩=some (.int .i64 y.i)∧W'.cell? ⟨b,off + k * 2,none⟩=some (.int .i64 xi):=fun W' hb'=>by
        constructor
        ·obtain ⟨b',off',e,_,hc⟩:=(hR.below hb').at_ 2 enL_len (by omega) hy
         simp only [Option.some.injEq,Addr.mk.injEq,and_true] at e
         obtain ⟨rfl,rfl⟩:=e
         exact hc 0 _ rfl
        ·obtain ⟨b',off',e,_,hc⟩:=(hR.below hb').at_ 2 enL_len (by omega) HX.out
         simp only [Option.some.injEq,Addr.mk.injEq,and_true] at e
         obtain ⟨rfl,rfl⟩:=e
         exact hc 0 _ rfl
       obtain ⟨p0,p1⟩:=qs _ hb
       have HBN:=hid (fun n=>below_drewN hb n)
       clear hy qs hb
       by_cases e:y.i=xi
       ·have be:(y.i == xi)=true:=by simp [e]
        clear e
        go_wp2_with fail
        go_quiet (fail)
        go_wp2_with fail
        go_ret
        exact ⟨rfl,HBN.out _⟩
       ·have be:(y.i == xi)=false:=by simpa using e
        have HE:=hid e
        clear e
        go_wp2_with fail
        go_quiet (fail)
        go_wp2_with fail
        go_roundw
        case rel=>exact ⟨m + 1,by omega,by go_num,hid (fun j z hj hz=>by
         by_cases e:j=m
         ·subst e; rw [HY.out] at hz; injection hz with hz; subst hz; exact HE.out
         ·exact hN.out j z (by omega) hz),HBN.out _⟩
        case measure=>simp [nOf]; omega
      ·have hmk':m=k:=by omega
       subst hmk'
       have HGOOD:=hid (show LnOk ls m from fun z hz=>by
        rw [HX.out] at hz
        injection hz with hz
        subst hz
        refine ⟨HQ.out.1,HQ.out.2, ?_⟩
        unfold hasI
        rw [List.any_eq_false]
        intro y hy
        obtain ⟨j,hj⟩:=List.mem_iff_getElem?.1 hy
        have hjl:=(List.getElem?_eq_some_iff.1 hj).1
        have hjm:j < m:=by have:=hjl; simp at this; omega
        rw [List.getElem?_take_of_lt hjm] at hj
        simpa using hN.out j y hjm hj)
       have HB2:=hid hb
       clear hN hb hm hmk
       go_wp2_with fail
       go_roundw
       case rel=>exact ⟨m + 1,by omega,by go_num,hid (fun j hj=>(Nat.lt_succ_iff_lt_or_eq.1 hj).elim (fun h=>hG.out j h) (fun e=>by subst e; exact HGOOD.out)),HB2.out⟩
       case measure=>simp [nOf]; omega
  ·exact absurd (fun j hj=>hG.out j (by omega)) HNO.out
end
end Go.Proofs.YtakaalldbnklcaaGreat.Or
namespace Go.Proofs.YtakaalldbnklcaaGreat.Or
set_option linter.unusedVariables false
def toBare (q:Int × Od):Od:={ bare q.2 with i:=q.1 }
structure RelO (pr:List (Int × Int)) (os:List (Int × Od)) (is:List (Int × Int)) (rs:List Od):Prop where
 its:RelK Prod.fst ltI (fun q:Int × Int=>q) pr is
 ods:RelK Od.i ltI toBare os (rs.map bare)
section
variable {pr:List (Int × Int)} {os:List (Int × Od)} {is:List (Int × Int)} {rs:List Od}
theorem RelO.nil:RelO [] [] [] []:=⟨RelK.nil (fun _=>rfl),RelK.nil (fun _=>rfl)⟩
theorem RelO.sortI (h:RelO pr os is rs):SortedK Prod.fst ltI is:=h.its.sorted
theorem RelO.sortO (h:RelO pr os is rs):SortedK Od.i ltI rs:=by
 have:=h.ods.sorted
 unfold SortedK at this ⊢
 rw [List.pairwise_map] at this
 exact this
theorem RelO.price (h:RelO pr os is rs) (id:Int) :
  (∃ (k:Nat) (y:Int),k < is.length∧is[k]?=some (id,y)∧mget pr id=some y∧plc (isI id) is=k)∨(mget pr id=none∧(∀ y ∈ is,isI id y=false)∧plc (isI id) is = -1):=by
 rcases plc_cases (isI id) is with ⟨k,y,hk,hy,hp,he⟩ | ⟨hn,he⟩
 ·have e:y.1=id:=by simpa [isI] using hp
  obtain ⟨v,h1,h2⟩:=h.its.mem (List.mem_of_getElem? hy)
  rw [e] at h1 h2
  exact .inl ⟨k,v,hk,by rw [hy,h2],h1,he⟩
 ·refine .inr ⟨h.its.none.1 (fun hin => ?_),hn,he⟩
  obtain ⟨y,hy,e⟩:=List.mem_map.1 hin
  have:=hn y hy
  simp [isI] at this
  exact this e
theorem RelO.find (h:RelO pr os is rs) (id:Int) :
  (∃ (k:Nat) (o o':Od),k < rs.length∧rs[k]?=some o∧o.i=id∧mget os id=some o'∧bare o={ bare o' with i:=id }∧plc (isD id) rs=k)∨(mget os id=none∧(∀ y ∈ rs,y.i ≠ id)∧plc (isD id) rs = -1):=by
 rcases plc_cases (isD id) rs with ⟨k,y,hk,hy,hp,he⟩ | ⟨hn,he⟩
 ·have e:y.i=id:=by simpa [isD] using hp
  obtain ⟨v,h1,h2⟩:=h.ods.mem (List.mem_map_of_mem (f:=bare) (List.mem_of_getElem? hy))
  rw [show (bare y).i=id from e] at h1 h2
  exact .inl ⟨k,y,v,hk,hy,e,h1,h2,he⟩
 ·have hn':∀ y ∈ rs,y.i ≠ id:=fun y hy e=>by
   have:=hn y hy
   simp [isD] at this
   exact this e
  refine .inr ⟨h.ods.none.1 (fun hin => ?_),hn',he⟩
  rw [List.map_map] at hin
  obtain ⟨y,hy,e⟩:=List.mem_map.1 hin
  exact hn' y hy e
theorem RelO.setI (h:RelO pr os is rs) (id l:Int) (isC':List (Int × Int)) (hc:isC'=if 0≤plc (isI id) is then is.set (plc (isI id) is).toNat (id,l) else insK Prod.fst ltI is (id,l)):RelO (mset pr id l) os isC' rs:=by
 refine ⟨?_,h.ods⟩
 rw [hc]
 rcases h.price id with ⟨k,y,hk,hy,hm,he⟩ | ⟨hm,hn,he⟩
 ·rw [he,if_pos (by omega)]
  have:=h.its.upd l hm
  rw [updK_set (e:=(id,l)) linI h.its.sorted hy rfl] at this
  exact this
 ·rw [he,if_neg (by omega)]
  exact h.its.ins linI l hm
theorem map_insK {r:List Od} {o:Od}:(insK Od.i ltI r o).map bare=insK Od.i ltI (r.map bare) (bare o):=by
 have hp:∀ p,posK Od.i ltI (r.map bare) p=posK Od.i ltI r p:=fun p=>by
  unfold posK
  rw [List.takeWhile_map,List.length_map]
  rfl
 unfold insK
 rw [show (bare o).i=o.i from rfl,hp,List.map_append,List.map_cons,List.map_take,List.map_drop]
theorem RelO.addO (h:RelO pr os is rs) {id:Int} {o o':Od} (hm:mget os id=none) (hi:o.i=id) (hb:bare o=bare o'):RelO pr (mset os id o') is (insK Od.i ltI rs o):=by
 refine ⟨h.its, ?_⟩
 have:=h.ods.ins linI o' hm
 rw [map_insK]
 have e:toBare (id,o')=bare o:=by
  unfold toBare
  rw [← hb, ← hi]
  rfl
 rw [e] at this
 exact this
end
end Go.Proofs.YtakaalldbnklcaaGreat.Or
