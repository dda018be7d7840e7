/-
  Money of orders: the laws' words ref and state; the document's list beside the book.
  Money of orders: the laws' word state (printed by gen_chsu.py).
  The desk's lists, as it tells them, beside the document's.
  Layer 20: the laws' words 'linesRef' and 'sameLines'.
  Layer 20: the laws' word 'books': all five books of the desk beside the document's (printed by gen_bk20.py).
-/
import Derived.Test.YtakaalldbnklcaaGreatQd2
import Derived.Test.YtakaalldbnklcaaGreatQd3
import Derived.Test.YtakaalldbnklcaaGreatQd5
import Derived.Test.YtakaalldbnklcaaGreatQd7
import Derived.Test.YtakaalldbnklcaaGreatQd10
import Derived.Test.YtakaalldbnklcaaGreatQd11
import Derived.Test.YtakaalldbnklcaaGreatQd13
import Derived.Test.YtakaalldbnklcaaGreatQd14
import Derived.Test.YtakaalldbnklcaaGreatQd16
import Derived.Test.YtakaalldbnklcaaGreatQd18
import Derived.Test.YtakaalldbnklcaaGreatQd20
import Derived.Test.YtakaalldbnklcaaGreatQd21
import Derived.Deep.RegionHeld3
import Derived.BigRegion
namespace Go.Proofs.YtakaalldbnklcaaGreat.Mo
open Go.RowKit Go.WideShapes Go.ChangeShapes Go.ChangeAt Go.Deep
set_option linter.unusedVariables false
theorem accs_mem {ac:List (Int × CP)} (hd:(ac.map (·.1)).Nodup) (hg:∀ q ∈ ac,q.2.a.o=q.1) (a:Ca):a ∈ accs ac ↔ cfind ac a.o=some a:=by
 unfold accs
 rw [List.mem_map]
 constructor
 ·rintro ⟨q,hq,rfl⟩
  have h1:=mget_of_mem hd hq
  rw [← hg q hq] at h1
  unfold cfind
  rw [h1]
  rfl
 ·intro h
  obtain ⟨g,hm⟩:=cfind_some.1 h
  exact ⟨(a.o,⟨g,a⟩),mget_mem hm,rfl⟩
theorem accs_nodup {ac:List (Int × CP)} (hd:(ac.map (·.1)).Nodup) (hg:∀ q ∈ ac,q.2.a.o=q.1):(accs ac).Nodup:=by
 have h1:((accs ac).map Ca.o).Nodup:=by
  unfold accs
  have e:(ac.map (fun q=>q.2.a)).map Ca.o=ac.map (·.1):=by
   rw [List.map_map]
   exact List.map_congr_left (fun q hq=>hg q hq)
  rw [e]
  exact hd
 exact (List.pairwise_map.1 h1).imp (fun h e=>h (by rw [e]))
theorem RelC.perm {ac:List (Int × CP)} {d:Int} {L:List Ca} (h:RelC (cfind ac) L) (hg:GoodC ac d) (hd:(ac.map (·.1)).Nodup):L.Perm (accs ac):=by
 have hk:=fun q hq=>(hg.fit q hq).2
 have hL:L.Nodup:=(List.pairwise_map.1 (h.sorted.nodup linI)).imp (fun h e=>h (by rw [e]))
 refine (List.perm_ext_iff_of_nodup hL (accs_nodup hd hk)).2 (fun a => ?_)
 rw [accs_mem hd hk,h.mem]
 simp
theorem RelC.told {ac:List (Int × CP)} {d:Int} {L l:List Ca} (h:RelC (cfind ac) L) (hg:GoodC ac d) (hd:(ac.map (·.1)).Nodup) (hp:l.Perm (accs ac)) (hs:l.Pairwise (fun a b=>ltC b a=false)):l=L:=by
 have hk:=fun q hq=>(hg.fit q hq).2
 have hpl:l.Perm L:=hp.trans (h.perm hg hd).symm
 have hno:(l.map Ca.o).Nodup:=(hpl.map Ca.o).nodup_iff.2 (h.sorted.nodup linI)
 refine SortedK.perm_eq linI (key:=Ca.o) ?_ h.sorted hpl
 have h2:=List.pairwise_map.1 hno
 refine List.Pairwise.imp₂ (fun a b h1 h2 => ?_) hs h2
 have h3:=ltC_no h1
 simp only [ltI,decide_eq_true_eq]
 omega
theorem RelC.len {ac:List (Int × CP)} {d:Int} {L:List Ca} (h:RelC (cfind ac) L) (hg:GoodC ac d) (hd:(ac.map (·.1)).Nodup):L.length=ac.length:=by
 have:=(h.perm hg hd).length_eq
 simpa [accs] using this
section
variable {n0 base R cap:Nat} {A:Option Addr} {L:List Ca} {d:Int} {w w' w4 wr:World} {X XL BL BA:Nat} {ac:List (Int × CP)}
structure St (w0:World) (n0 base X XL BL BA R:Nat) (A:Option Addr) (cap:Nat) (ac:List (Int × CP)) (L:List Ca) (d:Int) (w:World):Prop where
 c:IsC n0 w X XL BL BA ac d
 f:IsRf base w R A cap L d
 rel:RelC (cfind ac) L
 bel:Below w0.heap.size w0 w
 bw:base≤w.heap.size
 low:w0.heap.size≤n0∧w0.heap.size≤R∧n0≤base
end
end Go.Proofs.YtakaalldbnklcaaGreat.Mo
namespace Go.Proofs.YtakaalldbnklcaaGreat.Mo
open Go.RowKit Go.WideShapes Go.ChangeShapes Go.ChangeAt Go.Deep
set_option linter.unusedVariables false
section
variable {n0 base R cap:Nat} {A:Option Addr} {L:List Ca} {d:Int} {w w' w4 wr:World} {X XL BL BA:Nat} {ac:List (Int × CP)}
end
end Go.Proofs.YtakaalldbnklcaaGreat.Mo
namespace Go.Proofs.YtakaalldbnklcaaGreat
open Go.RowKit Go.WideShapes Go.ChangeShapes Go.ChangeAt Go.Deep
set_option linter.unusedVariables false
section
open Cr
theorem Cr.holds_eq {ac:List (Int × Cr.Acc)} {hs:List (Int × Cr.Hd)} {ps:List Cr.Pa} {hr l:List Cr.Hd} (hM:Cr.RelB ac hs ps hr) (hp:l.Perm (hs.map (·.2))) (hs':l.Pairwise (fun a b=>Cr.ltH b a=false)):l=hr:=by
 refine hM.hd.unique' Cr.linI (by rw [hM.toHd_map]; exact hp) (hs'.imp ?_)
 intro a b h
 have:=Cr.ltH_no h
 simp only [Cr.ltI,decide_eq_false_iff_not]
 exact this
end
theorem Sk.lev_at {lv:List (Int × Sk.Lv)} {gs:List (Int × Sk.Gd)} {is:List (Int × Int)} {rs:List Sk.Gd} (hM:Sk.RelS lv gs is rs) (hG:Sk.GoodB lv gs) {ids:List Int} (hp:ids.Perm (lv.map (·.1))) (hr:ids.Pairwise (fun a b=>a < b)) {k:Nat} {id:Int} (hk:ids[k]?=some id) :
  ∃ a,mget lv id=some a∧is[k]?=some (id,a.r)∧Sk.lvAt lv id=a∧a.i=id:=by
 have h1:is.map Prod.fst=ids:=by
  refine SortedK.perm_eq (key:=fun x:Int=>x) linI ?_ (hr.imp (fun h=>by simpa [ltI] using h)) (hM.its.keysPerm.trans hp.symm)
  have:=hM.sortI
  unfold SortedK at this ⊢
  rw [List.pairwise_map]
  exact this
 have h2:(is.map Prod.fst)[k]?=some id:=by rw [h1]; exact hk
 rw [List.getElem?_map] at h2
 cases hi:is[k]? with
 | none=>rw [hi] at h2; cases h2
 | some y =>
  rw [hi] at h2
  injection h2 with h2
  subst h2
  obtain ⟨a,ha,hy⟩:=hM.its.mem (List.mem_of_getElem? hi)
  refine ⟨a,ha, ?_,by unfold Sk.lvAt; rw [ha]; rfl,(hG.lk _ a ha).1⟩
  rw [hy]
  rfl
theorem Sk.all_at {lv:List (Int × Sk.Lv)} {gs:List (Int × Sk.Gd)} {is:List (Int × Int)} {rs:List Sk.Gd} (hM:Sk.RelS lv gs is rs) (hG:Sk.GoodB lv gs) {l:List Sk.Gd} (hp:(l.map Sk.bareG).Perm (gs.map (fun p=>Sk.bareG p.2))) (hs:l.Pairwise (fun a b=>Sk.ltG b a=false)):l.map Sk.bareG=rs.map Sk.bareG:=by
 refine hM.gds.unique' linI ?_ ?_
 ·refine hp.trans (List.Perm.of_eq (List.map_congr_left fun q hq=>(Sk.toBareG_bare (hG.gm q hq).1).symm))
 ·rw [List.pairwise_map]
  refine hs.imp ?_
  intro a b h
  exact decide_eq_false (Sk.ltG_no h)
theorem Sk.goods_at {rs l:List Sk.Gd} (h:l.map Sk.bareG=rs.map Sk.bareG) {k:Nat} {d:Sk.Gd} (hk:l[k]?=some d):∃ d',rs[k]?=some d'∧d'.o=d.o∧d'.st=d.st∧d'.ls=d.ls:=by
 have h1:=congrArg (fun x=>x[k]?) h
 simp only [List.getElem?_map,hk,Option.map_some] at h1
 cases hi:rs[k]? with
 | none=>rw [hi] at h1; cases h1
 | some d' =>
  rw [hi] at h1
  injection h1 with h1
  exact ⟨d',rfl,(by have:=congrArg Sk.Gd.o h1; exact this.symm),(by have:=congrArg Sk.Gd.st h1; exact this.symm),(by have:=congrArg Sk.Gd.ls h1; exact this.symm)⟩
theorem Or.tab_perm {α ν:Type} {ids:List Int} {m:List (Int × ν)} (hp:ids.Perm (m.map (·.1))) (g:Int→α) (toA:Int × ν→α) (hg:∀ p ∈ m,g p.1=toA p):(ids.map g).Perm (m.map toA):=by
 refine (hp.map g).trans ?_
 rw [List.map_map]
 exact List.Perm.of_eq (List.map_congr_left (fun p hp=>hg p hp))
theorem Or.orders_eq {pr:List (Int × Int)} {os:List (Int × Or.Od)} {is:List (Int × Int)} {rs l:List Or.Od} {ids:List Int} (hM:Or.RelO pr os is rs) (hnd:(os.map (·.1)).Nodup) (hO:∀ p ∈ os,p.2.i=p.1) (hp:ids.Perm (os.map (·.1))) (hr:ids.Pairwise (fun a b=>a < b)) (hb:l.map Or.bare=ids.map fun id=>Or.bare (Or.odAt os id)):l.map Or.bare=rs.map Or.bare:=by
 have hk:∀ id ∈ ids,(Or.bare (Or.odAt os id)).i=id:=fun id hid=>by
  obtain ⟨p,hp',rfl⟩:=List.mem_map.1 (hp.mem_iff.1 hid)
  unfold Or.odAt
  rw [mget_of_mem hnd (by exact hp')]
  exact hO p hp'
 rw [hb]
 refine hM.ods.unique' linI ?_ ?_
 ·exact Or.tab_perm hp _ _ (fun p hp=>by
   unfold Or.odAt
   rw [mget_of_mem hnd (by exact hp)]
   unfold Or.toBare
   rw [← hO p hp]
   rfl)
 ·rw [List.pairwise_map]
  exact (List.Pairwise.and_mem.1 hr).imp (fun {a b} ⟨ha,hb,h⟩=>by
   simp only [ltI,hk _ ha,hk _ hb]
   exact decide_eq_false (by omega))
theorem Or.bareR_at {rs l:List Or.Od} {k:Nat} {o:Or.Od} (h:l.map Or.bare=rs.map Or.bare) (hk:l[k]?=some o):∃ r,rs[k]?=some r∧r.i=o.i∧r.c=o.c∧r.f=o.f∧r.ls=o.ls∧r.n=o.n∧r.t=o.t:=by
 have h1:(rs.map Or.bare)[k]?=some (Or.bare o):=by rw [← h,List.getElem?_map,hk]; rfl
 rw [List.getElem?_map] at h1
 cases hr:rs[k]? with
 | none=>rw [hr] at h1; cases h1
 | some r =>
  rw [hr] at h1
  injection h1 with h1
  unfold Or.bare at h1
  injection h1 with h1 h2 h3 _ _ h4 h5 h6
  exact ⟨r,rfl,h1,h2,h3,h4,h5,h6⟩
section
variable {n0 base K:Nat} {w w1 w':World} {I:DkI} {x x':DkX} {J:RdI} {y y':RdX}
theorem parties20 (h:DK n0 base K w I x J y):Calls Tryz.prog 45 #[.pointer (some ⟨I.XC,0,none⟩)] w fun e w'=>∃ (A:Option Addr) (cap:Nat),e = .returned (.slice A y.ps.length cap)∧w'.ownsRow w.heap.size 149 2 (.slice A y.ps.length cap) y.ps.length (y.ps.flatMap Cr.enP)∧Below w.heap.size w w' :=
 (Cr.parties_any h.p.cr h.ok.rel.cr).mono fun _ _ h=>h
theorem holds20 (h:DK n0 base K w I x J y):Calls Tryz.prog 11 #[.pointer (some ⟨I.XC,0,none⟩)] w fun e w'=>∃ (A:Option Addr) (cap:Nat),e = .returned (.slice A y.hr.length cap)∧w'.ownsRow w.heap.size 51 3 (.slice A y.hr.length cap) y.hr.length (y.hr.flatMap Cr.enH3)∧Below w.heap.size w w':=by
 refine (Cr.holds_any h.p.cr (by have:=h.ok.hl; have:=h.ok.k; omega)).mono ?_
 rintro e w2 ⟨A,cap,l,rfl,hp,hs,hO,hb⟩
 obtain rfl:=Cr.holds_eq h.ok.rel.cr hp hs
 exact ⟨A,cap,rfl,hO,hb⟩
def Lev20 (lv:List (Int × Sk.Lv)) (is:List (Int × Int)) (w:World) (e:Ending) (w':World):Prop :=
 ∃ (A:Option Addr) (cap:Nat) (ids:List Int),e = .returned (.slice A ids.length cap)∧ids.length=is.length∧(∀ (k:Nat) (id:Int),ids[k]?=some id→∃ a:Sk.Lv,mget lv id=some a∧is[k]?=some (id,a.r)∧Sk.lvAt lv id=a∧a.i=id)∧w'.ownsRow w.heap.size 53 6 (.slice A ids.length cap) ids.length ((ids.map (Sk.lvAt lv)).flatMap Sk.enV6)∧Below w.heap.size w w'
theorem levels20 (h:DK n0 base K w I x J y):Calls Tryz.prog 12 #[.pointer (some ⟨I.XS,0,none⟩)] w (Lev20 x.lv y.is w):=by
 have hl:=h.ok.rel.sk.lenI
 refine (Sk.levels_any h.p.sk h.ok.gd.few).mono ?_
 rintro e w2 ⟨A,cap,ids,rfl,hp,hr,hO,hb⟩
 exact ⟨A,cap,ids,rfl,by have:=hp.length_eq; simp only [List.length_map] at this; omega,fun k id hk=>Sk.lev_at h.ok.rel.sk h.ok.gd hp hr hk,hO,hb⟩
def Gds20 (gs:List (Int × Sk.Gd)) (rs:List Sk.Gd) (w:World) (e:Ending) (w':World):Prop :=
 ∃ (A:Option Addr) (cap:Nat) (l:List Sk.Gd),e = .returned (.slice A l.length cap)∧l.length=rs.length∧(∀ (k:Nat) (d:Sk.Gd),l[k]?=some d→d.ls.length≤4∧∃ d':Sk.Gd,rs[k]?=some d'∧d'.o=d.o∧d'.st=d.st∧d'.ls=d.ls) ∧
  w'.ownsRow w.heap.size 156 3 (.slice A l.length cap) l.length (l.flatMap Sk.enG3)∧(∀ d ∈ l,Sk.LnRow w.heap.size w' d.b d.cap d.ls)∧Below w.heap.size w w'
theorem goods20 (h:DK n0 base K w I x J y):Calls Tryz.prog 46 #[.pointer (some ⟨I.XS,0,none⟩)] w (Gds20 x.gs y.rs w):=by
 have hl:=h.ok.rel.sk.lenG
 refine (Sk.all_any h.p.sk h.ok.gd.four (by have:=h.ok.gl; have:=h.ok.k; omega)).mono ?_
 rintro e w2 ⟨A,cap,l,rfl,hp,hs,hO,hL,hb⟩
 have ha:=Sk.all_at h.ok.rel.sk h.ok.gd hp hs
 refine ⟨A,cap,l,rfl, ?_,fun k d hk=>⟨?_,Sk.goods_at ha hk⟩,hO,hL,hb⟩
 ·have:=congrArg List.length ha
  simpa using this
 ·obtain ⟨q,hq,e⟩:=List.mem_map.1 (hp.mem_iff.1 (List.mem_map_of_mem (f:=Sk.bareG) (List.mem_of_getElem? hk)))
  have e3:q.2.ls=d.ls:=by have:=congrArg Sk.Gd.ls e; exact this
  rw [← e3]
  exact (h.ok.gd.four q hq).2
theorem accts20 (h:DK n0 base K w I x J y):Calls Tryz.prog 47 #[.pointer (some ⟨I.XM,0,none⟩)] w fun e w'=>∃ (A:Option Addr) (cap:Nat),e = .returned (.slice A y.L.length cap)∧w'.ownsRow w.heap.size 162 9 (.slice A y.L.length cap) y.L.length (y.L.flatMap Mo.enC9)∧Below w.heap.size w w':=by
 have hnd:=h.p.mo.bk.acs.nodup
 have hl:=h.ok.rel.mo.len h.ok.mo hnd
 refine (Mo.call_any h.p.mo.bk (by have:=h.ok.ll; have:=h.ok.k; omega)).mono ?_
 rintro e w2 ⟨A,cap,l,rfl,hp,hs,hO,_,hb⟩
 obtain rfl:=h.ok.rel.mo.told h.ok.mo hnd hp hs
 exact ⟨A,cap,rfl,hO,hb⟩
def Ods20 (rs:List Or.Od) (w:World) (e:Ending) (w':World):Prop :=
 ∃ (A:Option Addr) (cap:Nat) (l:List Or.Od),e = .returned (.slice A l.length cap)∧l.length=rs.length∧(∀ (k:Nat) (o:Or.Od),l[k]?=some o→o.ls.length≤4∧∃ r:Or.Od,rs[k]?=some r∧r.i=o.i∧r.c=o.c∧r.f=o.f∧r.ls=o.ls∧r.n=o.n∧r.t=o.t) ∧
  w'.ownsRow w.heap.size 166 6 (.slice A l.length cap) l.length (l.flatMap Or.enO6)∧(∀ o ∈ l,Or.LnRow w.heap.size w' o.b o.cap o.ls)∧Below w.heap.size w w'
theorem orders20 (h:DK n0 base K w I x J y):Calls Tryz.prog 48 #[.pointer (some ⟨I.XO,0,none⟩)] w (Ods20 y.ro w):=by
 have hnd:=h.p.od.ods.nodup
 refine (Or.all_any h.p.od h.few (fun p hp=>(h.p.og p hp).len)).mono ?_
 rintro e w2 ⟨A,cap,ids,l,rfl,hlen,hp,hr,hb,hO,hL,hbb⟩
 have ha:=Or.orders_eq h.ok.rel.od hnd (fun p hp=>(h.p.og p hp).i) hp hr hb
 refine ⟨A,cap,l,rfl, ?_,fun k o hk=>⟨?_,Or.bareR_at ha hk⟩,hO,hL,hbb⟩
 ·have:=congrArg List.length ha
  simpa using this
 ·have h1:(ids.map fun id=>Or.bare (Or.odAt x.os id))[k]?=some (Or.bare o):=by rw [← hb,List.getElem?_map,hk]; rfl
  rw [List.getElem?_map] at h1
  obtain ⟨id,hi,he⟩:=Option.map_eq_some_iff.1 h1
  obtain ⟨p,hp',rfl⟩:=List.mem_map.1 (hp.mem_iff.1 (List.mem_of_getElem? hi))
  unfold Or.odAt at he
  rw [mget_of_mem hnd (by exact hp')] at he
  have e3:p.2.ls=o.ls:=by have:=congrArg Or.Od.ls he; exact this
  rw [← e3]
  exact (h.p.og p hp').len.2
theorem entries20 (h:DK n0 base K w I x J y):Calls Tryz.prog 49 #[.pointer (some ⟨I.XI,0,none⟩)] w fun e w'=>∃ (A:Option Addr) (cap:Nat),e = .returned (.slice A y.re.length cap)∧w'.ownsRow w.heap.size 170 5 (.slice A y.re.length cap) y.re.length (y.re.flatMap In.enE5)∧Below w.heap.size w w':=by
 refine (In.list_any In.sortsEnt I.XI I.BI x.m w h.p.ib (by have:=h.ok.ml; have:=h.ok.k; omega)).mono ?_
 rintro e w2 ⟨v,l,rfl,hp,hs,hO,hb⟩
 obtain rfl:=h.ok.rel.ib.list hp hs
 obtain ⟨A,cap,rfl,_⟩:=own_slice hO
 exact ⟨A,cap,rfl,hO,hb⟩
theorem turn20 (h:DK n0 base K w I x J y):Calls Tryz.prog 50 #[.pointer (some ⟨I.XM,0,none⟩)] w fun e w'=>e = .returned (.int .i64 x.d)∧Below w.heap.size w w':=Mo.cturn_any h.p.mo.bk
end
end Go.Proofs.YtakaalldbnklcaaGreat
namespace Go.Proofs.YtakaalldbnklcaaGreat
open Go.RowKit Go.WideShapes Go.ChangeShapes Go.ChangeAt Go.Deep
set_option linter.unusedVariables false
def LinesPost20 (ls:List Or.Ln) (w:World) (e:Ending) (w':World):Prop :=
 ∃ (A:Option Addr) (cap:Nat),e = .returned (.slice A ls.length cap)∧w'.ownsRow w.heap.size 205 2 (.slice A ls.length cap) ls.length (ls.flatMap Or.enL)∧Below w.heap.size w w'
set_option maxRecDepth 100000 in
set_option maxHeartbeats 4000000 in
theorem lines20 (ls:List Or.Ln) (A:Option Addr) (cap:Nat) (w:World) (hR:Rd w A (ls.flatMap Or.enL)) (hl:ls.length * 16≤140737488351232) :
  Calls Tryz.prog 32 #[.slice A ls.length cap] w (LinesPost20 ls w):=by
 obtain ⟨i0,hi,hz0,hz1,hz2⟩:=info_parts Sk.info_rl
 go_enter Tryz.func32,Tryz.ntmps32
 go_wp2_with fail
 go_loopw [8,3] (fun i v wr=>∃ k:Nat,k≤ls.length∧i = .int .i64 k∧wr.ownsRow w.heap.size 205 2 v k ((ls.take k).flatMap Or.enL)∧Below w.heap.size w wr) (fun i _ _=>ls.length - nOf i)
 case atStart=>exact ⟨0,Nat.zero_le _,rfl,World.ownsRow_nil _ _ _ _,Below.refl _ _⟩
 case round =>
  obtain ⟨k,hk,rfl,hO,hb⟩:=hrel
  have hwz:w.heap.size≤wr.heap.size:=hb.size
  by_cases hlt:k < ls.length
  ·obtain ⟨x,hx⟩:∃ x,ls[k]?=some x:=⟨ls[k],List.getElem?_eq_getElem hlt⟩
   obtain ⟨b,off,hAA,hbs,hcc⟩:=(hR.below hb).at_ 2 Or.enL_len (by omega) hx
   have HT:=hid (show ls.take (k + 1)=ls.take k++[x] from by rw [List.take_add_one,hx]; rfl)
   obtain ⟨xi,xq⟩:=x
   have q0:wr.cell? ⟨b,off + k * 2,none⟩=some (.int .i64 xi):=hcc 0 _ rfl
   have q1:wr.cell? ⟨b,off + k * 2 + 1,none⟩=some (.int .i64 xq):=hcc 1 _ rfl
   have hO3:=hO.alloc (.cells #[.int .i64 xi,.int .i64 xq] 67)
   have HO:=hid hO3
   have hYB:=Blk.new wr 67 #[.int .i64 xi,.int .i64 xq]
   have r0:(wr.alloc (.cells #[.int .i64 xi,.int .i64 xq] 67)).cell? ⟨wr.heap.size,0,none⟩=some (.int .i64 xi):=hYB.cell 0
   have r1:(wr.alloc (.cells #[.int .i64 xi,.int .i64 xq] 67)).cell? ⟨wr.heap.size,1,none⟩=some (.int .i64 xq):=hYB.cell 1
   have hb3:=hid ((hb.alloc hb.size (.cells #[.int .i64 xi,.int .i64 xq] 67)).alloc (by simp; omega) (.cells #[.int .i64 xi,.int .i64 xq] 205))
   subst hAA
   clear hcc hx hbs hO hb hO3 hYB
   go_wp2_with (first
    | (at_builtin; refine wpList_push _ rfl _ _ 106 rfl w.heap.size 205 i0 _ 2 16 Tryz.underlying106 hi hz0 hz1 hz2 rfl (by decide) _ _ _ (by rfl) HO.out #[.int .i64 xi,.int .i64 xq] (wr.heap.size + 1) (by simp) (by rfl) (by rfl) (by rfl) (by unfold maxLen; omega) (by omega) (by simp; omega) ?_; intro v' w3 hO4 hg4))
   have hb4:=hb3.out.grown hg4 (by simp; omega) (fun k hk=>(HO.out.lt k hk).1)
   have hO5:w3.ownsRow w.heap.size 205 2 v' (k + 1) ((ls.take (k + 1)).flatMap Or.enL):=by
    rw [HT.out,List.flatMap_append]
    simpa [Or.enL] using hO4
   clear hO4 hg4 HO hb3 r0 r1
   go_roundw
   case rel=>exact ⟨k + 1,by omega,by go_num,hO5,hb4⟩
   case measure=>simp [nOf]; omega
  ·have hk':k=ls.length:=by omega
   subst hk'
   rw [List.take_length] at hO
   obtain ⟨A',cap',rfl,_⟩:=own_slice hO
   have HH:=hid (And.intro hO hb)
   clear hO hb hk hlt
   go_wp2_with fail
   go_ret
   exact ⟨A',cap',rfl,HH.out.1,HH.out.2⟩
theorem same_rln20 (x:Or.Ln) (w:World):(Op.equalIn 10000 205 (.agg #[.int .i64 x.i,.int .i64 x.q]) (.agg #[.int .i64 x.i,.int .i64 x.q])).run Tryz.prog w = .ok true w:=by
 refine agg_same (L:=[(3,0),(3,1)]) (by kernel_rfl) (by kernel_rfl) (by kernel_rfl) ?_ w
 intro q hq
 simp only [List.mem_cons,List.not_mem_nil,or_false] at hq
 rcases hq with rfl | rfl
 ·exact sameAt_int Tryz.underlying3 isAgg_int rfl
 ·exact sameAt_int Tryz.underlying3 isAgg_int rfl
theorem guard_rln20:Tryz.prog.eqGuardType Tryz.prog.depth 205=false:=by kernel_rfl
set_option maxRecDepth 100000 in
set_option maxHeartbeats 4000000 in
theorem same20 (ls:List Or.Ln) (A B:Option Addr) (ca cb:Nat) (w:World) (hA:Rd w A (ls.flatMap Or.enL)) (hB:Rd w B (ls.flatMap Or.enL)) (hl:ls.length≤4) :
  Calls Tryz.prog 52 #[.slice A ls.length ca,.slice B ls.length cb] w fun e w'=>e = .returned (.bool true)∧Below w.heap.size w w':=by
 have L:=hid (lines20 ls A ca w hA (by omega))
 have HB:=hid hB
 clear hA hB
 have t1:((ls.length:Int) != (ls.length:Int))=false:=by simp
 go_enter Tryz.func52,Tryz.ntmps52
 go_wp2_with fail
 refine L.out.mono ?_
 rintro e w1 ⟨C,cc,rfl,hO,hb1⟩
 have HC:=hid (own_rd hO)
 replace HB:=hid (HB.out.below hb1)
 have H0:=hid hb1
 clear L hO hb1
 go_wp2_with fail
 clear t1
 go_loopw [16] (fun i wr=>∃ k:Nat,k≤ls.length∧i = .int .i64 k∧Below w1.heap.size w1 wr) (fun i _=>ls.length - nOf i)
 case atStart=>exact ⟨0,Nat.zero_le _,rfl,Below.refl _ _⟩
 case round =>
  obtain ⟨k,hk,rfl,hb⟩:=hrel
  by_cases hlt:k < ls.length
  ·obtain ⟨y,hy⟩:∃ y,ls[k]?=some y:=⟨ls[k],List.getElem?_eq_getElem hlt⟩
   obtain ⟨b,off,hAA,_,hc1⟩:=(HB.out.below hb).at_ 2 Or.enL_len (by omega) hy
   obtain ⟨c,cf,hCC,_,hc2⟩:=(HC.out.below hb).at_ 2 Or.enL_len (by omega) hy
   obtain ⟨yi,yq⟩:=y
   have q0:wr.cell? ⟨b,off + k * 2,none⟩=some (.int .i64 yi):=hc1 0 _ rfl
   have q1:wr.cell? ⟨b,off + k * 2 + 1,none⟩=some (.int .i64 yq):=hc1 1 _ rfl
   have p0:wr.cell? ⟨c,cf + k * 2,none⟩=some (.int .i64 yi):=hc2 0 _ rfl
   have p1:wr.cell? ⟨c,cf + k * 2 + 1,none⟩=some (.int .i64 yq):=hc2 1 _ rfl
   have e3:=same_rln20 ⟨yi,yq⟩
   have e4:=guard_rln20
   have HBB:=hid hb
   subst hAA hCC
   clear hc1 hc2 hy hb
   go_wp2_with fail
   go_quiet (fail)
   have hb:=below_drewN HBB.out nq
   clear q0 q1 p0 p1 e3 e4 HBB
   go_wp2_with fail
   go_roundw
   case rel=>exact ⟨k + 1,by omega,by go_num,hb⟩
   case measure=>simp [nOf]; omega
  ·clear hk
   go_wp2_with fail
   go_ret
   exact ⟨rfl,bthen H0.out hb⟩
end Go.Proofs.YtakaalldbnklcaaGreat
namespace Go.Proofs.YtakaalldbnklcaaGreat
open Go.RowKit Go.WideShapes Go.ChangeShapes Go.ChangeAt Go.Deep
set_option linter.unusedVariables false
def toOr (x:Sk.Ln):Or.Ln:=⟨x.i,x.q⟩
theorem toOr_flat (l:List Sk.Ln):(l.map toOr).flatMap Or.enL=l.flatMap Sk.enL:=by
 rw [List.flatMap_map]
 rfl
theorem same20s (ls:List Sk.Ln) (A B:Option Addr) (ca cb:Nat) (w:World) (hA:Rd w A (ls.flatMap Sk.enL)) (hB:Rd w B (ls.flatMap Sk.enL)) (hl:ls.length≤4) :
  Calls Tryz.prog 52 #[.slice A ls.length ca,.slice B ls.length cb] w fun e w'=>e = .returned (.bool true)∧Below w.heap.size w w':=by
 have h:=same20 (ls.map toOr) A B ca cb w (by rw [toOr_flat]; exact hA) (by rw [toOr_flat]; exact hB) (by simpa using hl)
 rw [List.length_map] at h
 exact h
theorem same_pa20 (x0:Int) (x1:Int) (w:World):(Op.equalIn 10000 150 (.agg #[.int .i64 x0,.int .i64 x1]) (.agg #[.int .i64 x0,.int .i64 x1])).run Tryz.prog w = .ok true w:=by
 refine agg_same (L:=[(3,0),(2,1)]) (by kernel_rfl) (by kernel_rfl) (by kernel_rfl) ?_ w
 have ib:∀ w,(isAgg 4).run Tryz.prog w = .ok false w:=fun w=>by kernel_rfl
 have i64':∀ w,(isAgg 2).run Tryz.prog w = .ok false w:=fun w=>by kernel_rfl
 intro q hq
 simp only [List.mem_cons,List.not_mem_nil,or_false] at hq
 rcases hq with rfl | rfl
 ·exact sameAt_int Tryz.underlying3 isAgg_int rfl
 ·exact sameAt_int Tryz.underlying2 i64' rfl
theorem same_pa20_g:Tryz.prog.eqGuardType Tryz.prog.depth 150=false:=by kernel_rfl
theorem same_hd20 (x0:Int) (x1:Int) (x2:Int) (w:World):(Op.equalIn 10000 151 (.agg #[.int .i64 x0,.int .i64 x1,.int .i64 x2]) (.agg #[.int .i64 x0,.int .i64 x1,.int .i64 x2])).run Tryz.prog w = .ok true w:=by
 refine agg_same (L:=[(3,0),(3,1),(2,2)]) (by kernel_rfl) (by kernel_rfl) (by kernel_rfl) ?_ w
 have ib:∀ w,(isAgg 4).run Tryz.prog w = .ok false w:=fun w=>by kernel_rfl
 have i64':∀ w,(isAgg 2).run Tryz.prog w = .ok false w:=fun w=>by kernel_rfl
 intro q hq
 simp only [List.mem_cons,List.not_mem_nil,or_false] at hq
 rcases hq with rfl | rfl | rfl
 ·exact sameAt_int Tryz.underlying3 isAgg_int rfl
 ·exact sameAt_int Tryz.underlying3 isAgg_int rfl
 ·exact sameAt_int Tryz.underlying2 i64' rfl
theorem same_hd20_g:Tryz.prog.eqGuardType Tryz.prog.depth 151=false:=by kernel_rfl
theorem same_lv20 (x0:Int) (x1:Int) (x2:Int) (x3:Int) (x4:Int) (x5:Int) (w:World):(Op.equalIn 10000 152 (.agg #[.int .i64 x0,.int .i64 x1,.int .i64 x2,.int .i64 x3,.int .i64 x4,.int .i64 x5]) (.agg #[.int .i64 x0,.int .i64 x1,.int .i64 x2,.int .i64 x3,.int .i64 x4,.int .i64 x5])).run Tryz.prog w = .ok true w:=by
 refine agg_same (L:=[(3,0),(3,1),(3,2),(3,3),(3,4),(3,5)]) (by kernel_rfl) (by kernel_rfl) (by kernel_rfl) ?_ w
 have ib:∀ w,(isAgg 4).run Tryz.prog w = .ok false w:=fun w=>by kernel_rfl
 have i64':∀ w,(isAgg 2).run Tryz.prog w = .ok false w:=fun w=>by kernel_rfl
 intro q hq
 simp only [List.mem_cons,List.not_mem_nil,or_false] at hq
 rcases hq with rfl | rfl | rfl | rfl | rfl | rfl
 ·exact sameAt_int Tryz.underlying3 isAgg_int rfl
 ·exact sameAt_int Tryz.underlying3 isAgg_int rfl
 ·exact sameAt_int Tryz.underlying3 isAgg_int rfl
 ·exact sameAt_int Tryz.underlying3 isAgg_int rfl
 ·exact sameAt_int Tryz.underlying3 isAgg_int rfl
 ·exact sameAt_int Tryz.underlying3 isAgg_int rfl
theorem same_lv20_g:Tryz.prog.eqGuardType Tryz.prog.depth 152=false:=by kernel_rfl
theorem same_ca20 (x0:Int) (x1:Int) (x2:Int) (x3:Int) (x4:Int) (x5:Int) (x6:Int) (x7:Int) (x8:Int) (w:World):(Op.equalIn 10000 164 (.agg #[.int .i64 x0,.int .i64 x1,.int .i64 x2,.int .i64 x3,.int .i64 x4,.int .i64 x5,.int .i64 x6,.int .i64 x7,.int .i64 x8]) (.agg #[.int .i64 x0,.int .i64 x1,.int .i64 x2,.int .i64 x3,.int .i64 x4,.int .i64 x5,.int .i64 x6,.int .i64 x7,.int .i64 x8])).run Tryz.prog w = .ok true w:=by
 refine agg_same (L:=[(3,0),(3,1),(3,2),(3,3),(2,4),(2,5),(2,6),(2,7),(2,8)]) (by kernel_rfl) (by kernel_rfl) (by kernel_rfl) ?_ w
 have ib:∀ w,(isAgg 4).run Tryz.prog w = .ok false w:=fun w=>by kernel_rfl
 have i64':∀ w,(isAgg 2).run Tryz.prog w = .ok false w:=fun w=>by kernel_rfl
 intro q hq
 simp only [List.mem_cons,List.not_mem_nil,or_false] at hq
 rcases hq with rfl | rfl | rfl | rfl | rfl | rfl | rfl | rfl | rfl
 ·exact sameAt_int Tryz.underlying3 isAgg_int rfl
 ·exact sameAt_int Tryz.underlying3 isAgg_int rfl
 ·exact sameAt_int Tryz.underlying3 isAgg_int rfl
 ·exact sameAt_int Tryz.underlying3 isAgg_int rfl
 ·exact sameAt_int Tryz.underlying2 i64' rfl
 ·exact sameAt_int Tryz.underlying2 i64' rfl
 ·exact sameAt_int Tryz.underlying2 i64' rfl
 ·exact sameAt_int Tryz.underlying2 i64' rfl
 ·exact sameAt_int Tryz.underlying2 i64' rfl
theorem same_ca20_g:Tryz.prog.eqGuardType Tryz.prog.depth 164=false:=by kernel_rfl
theorem same_en20 (x0:Int) (x1:Int) (x2:Int) (x3:Int) (x4:Bool) (w:World):(Op.equalIn 10000 171 (.agg #[.int .i64 x0,.int .i64 x1,.int .i64 x2,.int .i64 x3,.bool x4]) (.agg #[.int .i64 x0,.int .i64 x1,.int .i64 x2,.int .i64 x3,.bool x4])).run Tryz.prog w = .ok true w:=by
 refine agg_same (L:=[(3,0),(3,1),(3,2),(3,3),(4,4)]) (by kernel_rfl) (by kernel_rfl) (by kernel_rfl) ?_ w
 have ib:∀ w,(isAgg 4).run Tryz.prog w = .ok false w:=fun w=>by kernel_rfl
 have i64':∀ w,(isAgg 2).run Tryz.prog w = .ok false w:=fun w=>by kernel_rfl
 intro q hq
 simp only [List.mem_cons,List.not_mem_nil,or_false] at hq
 rcases hq with rfl | rfl | rfl | rfl | rfl
 ·exact sameAt_int Tryz.underlying3 isAgg_int rfl
 ·exact sameAt_int Tryz.underlying3 isAgg_int rfl
 ·exact sameAt_int Tryz.underlying3 isAgg_int rfl
 ·exact sameAt_int Tryz.underlying3 isAgg_int rfl
 ·exact sameAt_bool Tryz.underlying4 ib rfl
theorem same_en20_g:Tryz.prog.eqGuardType Tryz.prog.depth 171=false:=by kernel_rfl
set_option maxRecDepth 100000 in
set_option maxHeartbeats 32000000 in
theorem books_any {n0 base K:Nat} {w:World} {I:DkI} {x:DkX} {J:RdI} {y:RdX} (h:DK n0 base K w I x J y) :
  Calls Tryz.prog 14 #[.pointer (some ⟨I.D,0,none⟩),.pointer (some ⟨J.R,0,none⟩)] w fun e w'=>e = .returned (.bool true)∧Below w.heap.size w w':=by
 obtain ⟨B1,d1,B2,d2,hc⟩:=h.r.cr
 obtain ⟨B3,d3,B4,d4,hs⟩:=h.r.sk
 obtain ⟨B5,d5,hm⟩:=h.r.mo
 obtain ⟨B0,d0,B6,d6,hor⟩:=h.r.od
 obtain ⟨B7,d7,hi⟩:=h.r.ib
 rw [h.ok.rel.md] at hm
 have HS:Hid (∀ w',Below w.heap.size w w'→w'.cell? ⟨I.D,0,none⟩=some (.pointer (some ⟨I.XC,0,none⟩))∧w'.cell? ⟨I.D,1,none⟩=some (.pointer (some ⟨I.XS,0,none⟩))∧w'.cell? ⟨I.D,2,none⟩=some (.pointer (some ⟨I.XM,0,none⟩))∧w'.cell? ⟨I.D,3,none⟩=some (.pointer (some ⟨I.XO,0,none⟩))∧w'.cell? ⟨I.D,4,none⟩=some (.pointer (some ⟨I.XI,0,none⟩))∧w'.cell? ⟨J.R,0,none⟩=some (.pointer (some ⟨J.RC,0,none⟩))∧w'.cell? ⟨J.R,1,none⟩=some (.pointer (some ⟨J.RS,0,none⟩))∧w'.cell? ⟨J.R,2,none⟩=some (.pointer (some ⟨J.RM,0,none⟩))∧w'.cell? ⟨J.R,3,none⟩=some (.pointer (some ⟨J.RO,0,none⟩))∧w'.cell? ⟨J.R,4,none⟩=some (.pointer (some ⟨J.RI,0,none⟩))∧w'.cell? ⟨J.RC,0,none⟩=some (.slice B1 y.ps.length d1)∧w'.cell? ⟨J.RC,1,none⟩=some (.slice B2 y.hr.length d2)∧w'.cell? ⟨J.RS,0,none⟩=some (.slice B3 y.is.length d3)∧w'.cell? ⟨J.RS,1,none⟩=some (.slice B4 y.rs.length d4)∧w'.cell? ⟨J.RM,0,none⟩=some (.slice B5 y.L.length d5)∧w'.cell? ⟨J.RM,1,none⟩=some (.int .i64 x.d)∧w'.cell? ⟨J.RO,1,none⟩=some (.slice B6 y.ro.length d6)∧w'.cell? ⟨J.RI,0,none⟩=some (.slice B7 y.re.length d7)):=hid (fun w' hb=>⟨(h.p.next hb).blk.cell 0,(h.p.next hb).blk.cell 1,(h.p.next hb).blk.cell 2,(h.p.next hb).blk.cell 3,(h.p.next hb).blk.cell 4,(h.r.next hb).blk.cell 0,(h.r.next hb).blk.cell 1,(h.r.next hb).blk.cell 2,(h.r.next hb).blk.cell 3,(h.r.next hb).blk.cell 4,(hc.next hb).blk.cell 0,(hc.next hb).blk.cell 1,(hs.next hb).blk.cell 0,(hs.next hb).blk.cell 1,(hm.blk.next hb).cell 0,(hm.blk.next hb).cell 1,(hor.next hb).blk.cell 1,(hi.next hb).blk.cell 0⟩)
 have HD:=hid h
 have HC:=hid hc
 have HK:=hid hs
 have HM:=hid (fun (w':World) (hb:Below w.heap.size w w')=>Mo.rstay (T:=[]) (M:=[]) (m0:=0) hm (.of_below hb) (by simp) (by simp))
 have HR:=hid hor
 have HI:=hid hi
 have hl1:y.ps.length≤64:=by have:=h.ok.rel.cr.few; have h2:y.ps.length=x.ac.length:=h.ok.rel.cr.pa.len; omega
 have hl2:y.hr.length≤1900000000000:=by have:=h.ok.hl; have:=h.ok.k; have h2:y.hr.length=x.hs.length:=h.ok.rel.cr.hd.len; omega
 have hl3:y.is.length≤64:=by have:=h.ok.rel.sk.lenI; have:=h.ok.gd.few; omega
 have hl4:y.rs.length≤1900000000000:=by have:=h.ok.rel.sk.lenG; have:=h.ok.gl; have:=h.ok.k; omega
 have hl5:y.L.length≤1900000000000:=by have:=h.ok.ll; have:=h.ok.k; omega
 have hl6:y.ro.length≤256:=h.ro
 have hl7:y.re.length≤1900000000000:=by have:=h.ok.rel.ib.len; have:=h.ok.ml; have:=h.ok.k; omega
 have hz0:Below w.heap.size w w.drew:=(Below.refl _ _).drew
 have s0:=HS.out _ hz0
 have t1:((y.ps.length:Int) != (y.ps.length:Int))=false:=by simp
 have t2:((y.hr.length:Int) != (y.hr.length:Int))=false:=by simp
 have t5:((y.L.length:Int) != (y.L.length:Int))=false:=by simp
 have t7:((y.re.length:Int) != (y.re.length:Int))=false:=by simp
 have t8:(x.d != x.d)=false:=by simp
 clear h hc hs hm hor hi
 go_enter Tryz.func14,Tryz.ntmps14
 go_upto_region 1 with fail
 go_cut [5,6,7,8,9,10,11] from 28 to 62 (fun v5 v6 v7 v8 v9 v10 v11 wx=>∃ (A1:Option Addr) (c1:Nat) (A2:Option Addr) (c2:Nat) (A3:Option Addr) (c3:Nat) (ids:List Int) (A4:Option Addr) (c4:Nat) (gl:List Sk.Gd) (A5:Option Addr) (c5:Nat) (A6:Option Addr) (c6:Nat) (ol:List Or.Od) (A7:Option Addr) (c7:Nat),v5 = .slice A1 y.ps.length c1∧v6 = .slice A2 y.hr.length c2∧v7 = .slice A3 ids.length c3∧v8 = .slice A4 gl.length c4∧v9 = .slice A5 y.L.length c5∧v10 = .slice A6 ol.length c6∧v11 = .slice A7 y.re.length c7∧Hid (Below w.heap.size w wx)∧Hid (Rd wx A1 (y.ps.flatMap Cr.enP))∧Hid (Rd wx A2 (y.hr.flatMap Cr.enH3))∧Hid (Rd wx A3 ((ids.map (Sk.lvAt x.lv)).flatMap Sk.enV6))∧Hid (Rd wx A4 (gl.flatMap Sk.enG3)∧∀ d ∈ gl,∃ b0,Sk.LnRow b0 wx d.b d.cap d.ls)∧Hid (Rd wx A5 (y.L.flatMap Mo.enC9))∧Hid (Rd wx A6 (ol.flatMap Or.enO6)∧∀ o ∈ ol,∃ b0,Or.LnRow b0 wx o.b o.cap o.ls)∧Hid (Rd wx A7 (y.re.flatMap In.enE5))∧Hid (ids.length=y.is.length∧∀ (k:Nat) (id:Int),ids[k]?=some id→∃ a:Sk.Lv,mget x.lv id=some a∧y.is[k]?=some (id,a.r)∧Sk.lvAt x.lv id=a∧a.i=id)∧Hid (gl.length=y.rs.length∧∀ (k:Nat) (d:Sk.Gd),gl[k]?=some d→d.ls.length≤4∧∃ d':Sk.Gd,y.rs[k]?=some d'∧d'.o=d.o∧d'.st=d.st∧d'.ls=d.ls)∧Hid (ol.length=y.ro.length∧∀ (k:Nat) (o:Or.Od),ol[k]?=some o→o.ls.length≤4∧∃ r:Or.Od,y.ro[k]?=some r∧r.i=o.i∧r.c=o.c∧r.f=o.f∧r.ls=o.ls∧r.n=o.n∧r.t=o.t))
 case first =>
  as_aux_lemma =>
  go_region_held3 (fun w'=>w'.cell? ⟨I.D,0,none⟩=some (.pointer (some ⟨I.XC,0,none⟩))∧w'.cell? ⟨I.D,1,none⟩=some (.pointer (some ⟨I.XS,0,none⟩))∧w'.cell? ⟨I.D,2,none⟩=some (.pointer (some ⟨I.XM,0,none⟩))∧w'.cell? ⟨I.D,3,none⟩=some (.pointer (some ⟨I.XO,0,none⟩))∧w'.cell? ⟨I.D,4,none⟩=some (.pointer (some ⟨I.XI,0,none⟩))∧w'.cell? ⟨J.R,0,none⟩=some (.pointer (some ⟨J.RC,0,none⟩))∧w'.cell? ⟨J.R,1,none⟩=some (.pointer (some ⟨J.RS,0,none⟩))∧w'.cell? ⟨J.R,2,none⟩=some (.pointer (some ⟨J.RM,0,none⟩))∧w'.cell? ⟨J.R,3,none⟩=some (.pointer (some ⟨J.RO,0,none⟩))∧w'.cell? ⟨J.R,4,none⟩=some (.pointer (some ⟨J.RI,0,none⟩))∧w'.cell? ⟨J.RC,0,none⟩=some (.slice B1 y.ps.length d1)∧w'.cell? ⟨J.RC,1,none⟩=some (.slice B2 y.hr.length d2)∧w'.cell? ⟨J.RS,0,none⟩=some (.slice B3 y.is.length d3)∧w'.cell? ⟨J.RS,1,none⟩=some (.slice B4 y.rs.length d4)∧w'.cell? ⟨J.RM,0,none⟩=some (.slice B5 y.L.length d5)∧w'.cell? ⟨J.RM,1,none⟩=some (.int .i64 x.d)∧w'.cell? ⟨J.RO,1,none⟩=some (.slice B6 y.ro.length d6)∧w'.cell? ⟨J.RI,0,none⟩=some (.slice B7 y.re.length d7))
   (first | exact s7 | exact s6 | exact s5 | exact s4 | exact s3 | exact s2 | exact s1 | exact s0)
   (first
    | (go_at_call 45; refine (parties20 (HD.out.next hz0)).mono ?_; rintro e w1 ⟨A1,c1,rfl,hO1,hb1⟩; have hz1:=bthen hz0 hb1; have s1:=HS.out _ hz1)
    | (go_at_call 11; refine (holds20 (HD.out.next hz1)).mono ?_; rintro e w2 ⟨A2,c2,rfl,hO2,hb2⟩; have hz2:=bthen hz1 hb2; have s2:=HS.out _ hz2)
    | (go_at_call 12; refine (levels20 (HD.out.next hz2)).mono ?_; rintro e w3 ⟨A3,c3,ids,rfl,hn3,hX3,hO3,hb3⟩; have hz3:=bthen hz2 hb3; have s3:=HS.out _ hz3; have t3:((ids.length:Int) != (y.is.length:Int))=false:=(by rw [hn3]; simp); replace hn3:=hid hn3)
    | (go_at_call 46; refine (goods20 (HD.out.next hz3)).mono ?_; rintro e w4 ⟨A4,c4,gl,rfl,hn4,hX4,hO4,hL4,hb4⟩; have hz4:=bthen hz3 hb4; have s4:=HS.out _ hz4; have t4:((gl.length:Int) != (y.rs.length:Int))=false:=(by rw [hn4]; simp); replace hn4:=hid hn4)
    | (go_at_call 47; refine (accts20 (HD.out.next hz4)).mono ?_; rintro e w5 ⟨A5,c5,rfl,hO5,hb5⟩; have hz5:=bthen hz4 hb5; have s5:=HS.out _ hz5)
    | (go_at_call 48; refine (orders20 (HD.out.next hz5)).mono ?_; rintro e w6 ⟨A6,c6,ol,rfl,hn6,hX6,hO6,hL6,hb6⟩; have hz6:=bthen hz5 hb6; have s6:=HS.out _ hz6; have t6:((ol.length:Int) != (y.ro.length:Int))=false:=(by rw [hn6]; simp); replace hn6:=hid hn6)
    | (go_at_call 49; refine (entries20 (HD.out.next hz6)).mono ?_; rintro e w7 ⟨A7,c7,rfl,hO7,hb7⟩; have hz7:=bthen hz6 hb7; have s7:=HS.out _ hz7))
  all_goals
   go_wp2_with fail
   go_meet
   exact ⟨A1,c1,A2,c2,A3,c3,ids,A4,c4,gl,A5,c5,A6,c6,ol,A7,c7,rfl,rfl,rfl,rfl,rfl,rfl,rfl,hid hz7,hid ((own_rd hO1).below (bthen hb2 (bthen hb3 (bthen hb4 (bthen hb5 (bthen hb6 hb7)))))),hid ((own_rd hO2).below (bthen hb3 (bthen hb4 (bthen hb5 (bthen hb6 hb7))))),hid ((own_rd hO3).below (bthen hb4 (bthen hb5 (bthen hb6 hb7)))),hid ⟨(own_rd hO4).below (bthen hb5 (bthen hb6 hb7)),fun d hd=>⟨_,(hL4 d hd).next (bthen hb5 (bthen hb6 hb7))⟩⟩,hid ((own_rd hO5).below (bthen hb6 hb7)),hid ⟨(own_rd hO6).below hb7,fun o ho=>⟨_,(hL6 o ho).next hb7⟩⟩,hid (own_rd hO7),hid ⟨hn3.out,hX3⟩,hid ⟨hn4.out,hX4⟩,hid ⟨hn6.out,hX6⟩⟩
 case rest =>
  obtain ⟨A1,c1,A2,c2,A3,c3,ids,A4,c4,gl,A5,c5,A6,c6,ol,A7,c7,rfl,rfl,rfl,rfl,rfl,rfl,rfl,HZ7,HR1,HR2,HR3,HR4,HR5,HR6,HR7,HX3,HX4,HX6⟩:=hcut
  clear s0 hz0
  obtain ⟨w7,hw7⟩:∃ w7,w7=wc:=⟨_,rfl⟩
  rw [← hw7] at HZ7 HR1 HR2 HR3 HR4 HR5 HR6 HR7 ⊢
  clear hw7
  have hl3':ids.length≤64:=by rw [HX3.out.1]; exact hl3
  have hl4':gl.length≤1900000000000:=by rw [HX4.out.1]; exact hl4
  have hl6':ol.length≤256:=by rw [HX6.out.1]; exact hl6
  have t3:((ids.length:Int) != (y.is.length:Int))=false:=by rw [HX3.out.1]; simp
  have t4:((gl.length:Int) != (y.rs.length:Int))=false:=by rw [HX4.out.1]; simp
  have t6:((ol.length:Int) != (y.ro.length:Int))=false:=by rw [HX6.out.1]; simp
  go_upto_region 2 with fail
  go_cut [166] from 63 to 165 (fun v wx=>v = .bool false∧Hid (Below w7.heap.size w7 wx))
  case first =>
   as_aux_lemma =>
   obtain ⟨C,hCd⟩:∃ C:World→Prop,∀ w',C w' ↔ Below w7.heap.size w7 w':=⟨_,fun _=>Iff.rfl⟩
   have hC:C w7.drew:=(hCd _).2 (Below.refl _ _).drew
   have HSC:=hid (fun p:In C=>HS.out _ (bthen HZ7.out ((hCd _).1 p.h)))
   have s0:∀ p:In C,p.w.cell? ⟨I.D,0,none⟩=some (.pointer (some ⟨I.XC,0,none⟩)):=fun p=>(HSC.out p).1
   have s1:∀ p:In C,p.w.cell? ⟨I.D,1,none⟩=some (.pointer (some ⟨I.XS,0,none⟩)):=fun p=>(HSC.out p).2.1
   have s2:∀ p:In C,p.w.cell? ⟨I.D,2,none⟩=some (.pointer (some ⟨I.XM,0,none⟩)):=fun p=>(HSC.out p).2.2.1
   have s3:∀ p:In C,p.w.cell? ⟨I.D,3,none⟩=some (.pointer (some ⟨I.XO,0,none⟩)):=fun p=>(HSC.out p).2.2.2.1
   have s4:∀ p:In C,p.w.cell? ⟨I.D,4,none⟩=some (.pointer (some ⟨I.XI,0,none⟩)):=fun p=>(HSC.out p).2.2.2.2.1
   have s5:∀ p:In C,p.w.cell? ⟨J.R,0,none⟩=some (.pointer (some ⟨J.RC,0,none⟩)):=fun p=>(HSC.out p).2.2.2.2.2.1
   have s6:∀ p:In C,p.w.cell? ⟨J.R,1,none⟩=some (.pointer (some ⟨J.RS,0,none⟩)):=fun p=>(HSC.out p).2.2.2.2.2.2.1
   have s7:∀ p:In C,p.w.cell? ⟨J.R,2,none⟩=some (.pointer (some ⟨J.RM,0,none⟩)):=fun p=>(HSC.out p).2.2.2.2.2.2.2.1
   have s8:∀ p:In C,p.w.cell? ⟨J.R,3,none⟩=some (.pointer (some ⟨J.RO,0,none⟩)):=fun p=>(HSC.out p).2.2.2.2.2.2.2.2.1
   have s9:∀ p:In C,p.w.cell? ⟨J.R,4,none⟩=some (.pointer (some ⟨J.RI,0,none⟩)):=fun p=>(HSC.out p).2.2.2.2.2.2.2.2.2.1
   have s10:∀ p:In C,p.w.cell? ⟨J.RC,0,none⟩=some (.slice B1 y.ps.length d1):=fun p=>(HSC.out p).2.2.2.2.2.2.2.2.2.2.1
   have s11:∀ p:In C,p.w.cell? ⟨J.RC,1,none⟩=some (.slice B2 y.hr.length d2):=fun p=>(HSC.out p).2.2.2.2.2.2.2.2.2.2.2.1
   have s12:∀ p:In C,p.w.cell? ⟨J.RS,0,none⟩=some (.slice B3 y.is.length d3):=fun p=>(HSC.out p).2.2.2.2.2.2.2.2.2.2.2.2.1
   have s13:∀ p:In C,p.w.cell? ⟨J.RS,1,none⟩=some (.slice B4 y.rs.length d4):=fun p=>(HSC.out p).2.2.2.2.2.2.2.2.2.2.2.2.2.1
   have s14:∀ p:In C,p.w.cell? ⟨J.RM,0,none⟩=some (.slice B5 y.L.length d5):=fun p=>(HSC.out p).2.2.2.2.2.2.2.2.2.2.2.2.2.2.1
   have s15:∀ p:In C,p.w.cell? ⟨J.RM,1,none⟩=some (.int .i64 x.d):=fun p=>(HSC.out p).2.2.2.2.2.2.2.2.2.2.2.2.2.2.2.1
   have s16:∀ p:In C,p.w.cell? ⟨J.RO,1,none⟩=some (.slice B6 y.ro.length d6):=fun p=>(HSC.out p).2.2.2.2.2.2.2.2.2.2.2.2.2.2.2.2.1
   have s17:∀ p:In C,p.w.cell? ⟨J.RI,0,none⟩=some (.slice B7 y.re.length d7):=fun p=>(HSC.out p).2.2.2.2.2.2.2.2.2.2.2.2.2.2.2.2.2
   have O:Hid (∀ p:In C,Calls Tryz.prog 50 #[.pointer (some ⟨I.XM,0,none⟩)] p.w fun e w'=>e = .returned (.int .i64 x.d)∧C w') :=
    hid (fun p=>(turn20 (HD.out.next (bthen HZ7.out ((hCd _).1 p.h)))).mono fun _ _ ⟨e1,e2⟩=>⟨e1,(hCd _).2 (bthen ((hCd _).1 p.h) e2)⟩)
   have HCd:=hid hCd
   clear hCd HSC
   refine wp_region_in C (by kernel_rfl) (ssa_lex (base:=63) (by kernel_rfl)) hC ?_
   intro hne
   clear hC
   repeat (first | go_big_quiet_step ((go_at_call 50; exact Calls.in_of (O.out _))) | quiet_step ((go_at_call 50; exact Calls.in_of (O.out _))))
   refine wpQuiet_nil ?_
   intro w8 hq
   have hb8:=(HCd.out _).1 hq
   clear s0 s1 s2 s3 s4 s5 s6 s7 s8 s9 s10 s11 s12 s13 s14 s15 s16 s17 O HCd hne hq
   go_wp2_with fail
   go_meet
   exact ⟨rfl,hid hb8⟩
  case rest =>
   obtain ⟨rfl,HZ8⟩:=hcut
   obtain ⟨w8,hw8⟩:∃ w8,w8=wc:=⟨_,rfl⟩
   rw [← hw8] at HZ8 ⊢
   clear hw8
   have HB8:=hid (bthen HZ7.out HZ8.out)
   replace HR1:=hid (HR1.out.below HZ8.out)
   replace HR2:=hid (HR2.out.below HZ8.out)
   replace HR3:=hid (HR3.out.below HZ8.out)
   replace HR4:=hid (And.intro (HR4.out.1.below HZ8.out) (fun d hd=>(HR4.out.2 d hd).imp (fun b0 hL=>hL.next HZ8.out)))
   replace HR5:=hid (HR5.out.below HZ8.out)
   replace HR6:=hid (And.intro (HR6.out.1.below HZ8.out) (fun o ho=>(HR6.out.2 o ho).imp (fun b0 hL=>hL.next HZ8.out)))
   replace HR7:=hid (HR7.out.below HZ8.out)
   clear HZ7 HZ8 HS t1 t2 t3 t4 t5 t6 t7 t8
   go_wp2_with fail
   go_loopw [169] (fun i wr=>∃ k:Nat,k≤y.ps.length∧i = .int .i64 k∧Below w8.heap.size w8 wr) (fun i _=>y.ps.length - nOf i)
   case atStart=>exact ⟨0,Nat.zero_le _,rfl,Below.refl _ _⟩
   case round =>
    obtain ⟨k,hk,rfl,hb⟩:=hrel
    by_cases hlt:k < y.ps.length
    ·obtain ⟨v,hv⟩:∃ v,y.ps[k]?=some v:=⟨y.ps[k],List.getElem?_eq_getElem hlt⟩
     obtain ⟨b,off,rfl,_,hcc⟩:=(HR1.out.below hb).at_ 2 Cr.enP_len (by omega) hv
     obtain ⟨v0,v1⟩:=v
     have q0:wr.cell? ⟨b,off + k * 2,none⟩=some (.int .i64 v0):=hcc 0 _ rfl
     have q1:wr.cell? ⟨b,off + k * 2 + 1,none⟩=some (.int .i64 v1):=hcc 1 _ rfl
     have hYB:=Blk.new wr 149 #[.int .i64 v0,.int .i64 v1]
     have hba:Below wr.heap.size wr (wr.alloc (.cells #[.int .i64 v0,.int .i64 v1] 149)):=(Below.refl _ _).alloc (Nat.le_refl _) _
     have HW:=hid (And.intro hYB (bthen hb hba))
     have HV:=hid hv
     clear hYB hba hcc hb hv
     go_upto_region 7 with fail
     clear q0 q1
     obtain ⟨wz,hwz⟩:∃ wz,wz=wr.alloc (.cells #[.int .i64 v0,.int .i64 v1] 149):=⟨_,rfl⟩
     obtain ⟨G,hG⟩:∃ G,G=wr.heap.size:=⟨_,rfl⟩
     obtain ⟨hYB,hbz⟩:=HW.out
     rw [← hwz] at hYB hbz ⊢
     rw [← hG] at hYB ⊢
     have hbw:=bthen HB8.out hbz
     have g0:wz.cell? ⟨G,0,none⟩=some (.int .i64 v0):=hYB.cell 0
     have g1:wz.cell? ⟨G,1,none⟩=some (.int .i64 v1):=hYB.cell 1
     have sR:=(HD.out.next hbw).r.blk.cell 0
     have sR':wz.cell? ⟨J.R,0,none⟩=some (.pointer (some ⟨J.RC,0,none⟩)):=sR
     have sC:wz.cell? ⟨J.RC,0,none⟩=some (.slice B1 y.ps.length d1):=(HC.out.next hbw).blk.cell 0
     obtain ⟨g,hBB,_,hpr⟩:=(HC.out.next hbw).elem1 HV.out
     rw [hBB] at sC
     have p0:wz.cell? ⟨g,k * 2,none⟩=some (.int .i64 v0):=hpr.2 0 _ rfl
     have p1:wz.cell? ⟨g,k * 2 + 1,none⟩=some (.int .i64 v1):=hpr.2 1 _ rfl
     have se:=same_pa20 v0 v1
     have gd:=same_pa20_g
     have HBZ:=hid hbz
     clear hYB hbz hbw hpr sR HW HV hwz hG
     go_quiet (fail)
     have hb:=below_drewN HBZ.out nq
     clear g0 p0 g1 p1 sR' sC se gd HBZ
     go_wp2_with fail
     go_roundw
     case rel=>exact ⟨k + 1,by omega,by go_num,hb⟩
     case measure=>simp [nOf]; omega
    ·clear hk
     go_wp2_with fail
     clear hlt
     go_loopw [193] (fun i wr=>∃ k:Nat,k≤y.hr.length∧i = .int .i64 k∧Below w8.heap.size w8 wr) (fun i _=>y.hr.length - nOf i)
     case atStart=>exact ⟨0,Nat.zero_le _,rfl,hb⟩
     case round =>
      clear hb
      obtain ⟨k,hk,rfl,hb⟩:=hrel
      by_cases hlt:k < y.hr.length
      ·obtain ⟨v,hv⟩:∃ v,y.hr[k]?=some v:=⟨y.hr[k],List.getElem?_eq_getElem hlt⟩
       obtain ⟨b,off,rfl,_,hcc⟩:=(HR2.out.below hb).at_ 3 Cr.enH3_len (by omega) hv
       obtain ⟨v0,v1,v2⟩:=v
       have q0:wr.cell? ⟨b,off + k * 3,none⟩=some (.int .i64 v0):=hcc 0 _ rfl
       have q1:wr.cell? ⟨b,off + k * 3 + 1,none⟩=some (.int .i64 v1):=hcc 1 _ rfl
       have q2:wr.cell? ⟨b,off + k * 3 + 2,none⟩=some (.int .i64 v2):=hcc 2 _ rfl
       have hYB:=Blk.new wr 51 #[.int .i64 v0,.int .i64 v1,.int .i64 v2]
       have hba:Below wr.heap.size wr (wr.alloc (.cells #[.int .i64 v0,.int .i64 v1,.int .i64 v2] 51)):=(Below.refl _ _).alloc (Nat.le_refl _) _
       have HW:=hid (And.intro hYB (bthen hb hba))
       have HV:=hid hv
       clear hYB hba hcc hb hv
       go_upto_region 13 with fail
       clear q0 q1 q2
       obtain ⟨wz,hwz⟩:∃ wz,wz=wr.alloc (.cells #[.int .i64 v0,.int .i64 v1,.int .i64 v2] 51):=⟨_,rfl⟩
       obtain ⟨G,hG⟩:∃ G,G=wr.heap.size:=⟨_,rfl⟩
       obtain ⟨hYB,hbz⟩:=HW.out
       rw [← hwz] at hYB hbz ⊢
       rw [← hG] at hYB ⊢
       have hbw:=bthen HB8.out hbz
       have g0:wz.cell? ⟨G,0,none⟩=some (.int .i64 v0):=hYB.cell 0
       have g1:wz.cell? ⟨G,1,none⟩=some (.int .i64 v1):=hYB.cell 1
       have g2:wz.cell? ⟨G,2,none⟩=some (.int .i64 v2):=hYB.cell 2
       have sR:=(HD.out.next hbw).r.blk.cell 0
       have sR':wz.cell? ⟨J.R,0,none⟩=some (.pointer (some ⟨J.RC,0,none⟩)):=sR
       have sC:wz.cell? ⟨J.RC,1,none⟩=some (.slice B2 y.hr.length d2):=(HC.out.next hbw).blk.cell 1
       obtain ⟨g,hBB,_,hpr⟩:=(HC.out.next hbw).elem2 HV.out
       rw [hBB] at sC
       have p0:wz.cell? ⟨g,k * 3,none⟩=some (.int .i64 v0):=hpr.2 0 _ rfl
       have p1:wz.cell? ⟨g,k * 3 + 1,none⟩=some (.int .i64 v1):=hpr.2 1 _ rfl
       have p2:wz.cell? ⟨g,k * 3 + 2,none⟩=some (.int .i64 v2):=hpr.2 2 _ rfl
       have se:=same_hd20 v0 v1 v2
       have gd:=same_hd20_g
       have HBZ:=hid hbz
       clear hYB hbz hbw hpr sR HW HV hwz hG
       go_quiet (fail)
       have hb:=below_drewN HBZ.out nq
       clear g0 p0 g1 p1 g2 p2 sR' sC se gd HBZ
       go_wp2_with fail
       go_roundw
       case rel=>exact ⟨k + 1,by omega,by go_num,hb⟩
       case measure=>simp [nOf]; omega
      ·clear hk
       go_wp2_with fail
       clear hlt
       go_loopw [219] (fun i wr=>∃ k:Nat,k≤ids.length∧i = .int .i64 k∧Below w8.heap.size w8 wr) (fun i _=>ids.length - nOf i)
       case atStart=>exact ⟨0,Nat.zero_le _,rfl,hb⟩
       case round =>
        clear hb
        obtain ⟨k,hk,rfl,hb⟩:=hrel
        by_cases hlt:k < ids.length
        ·obtain ⟨id,hid'⟩:∃ id,ids[k]?=some id:=⟨ids[k],List.getElem?_eq_getElem hlt⟩
         obtain ⟨a,ha,hy,hla,hai⟩:=HX3.out.2 k id hid'
         obtain ⟨b,off,rfl,_,hcc⟩:=(HR3.out.below hb).at_ (l:=ids.map (Sk.lvAt x.lv)) (k:=k) (x:=a) 6 Sk.enV6_len (by omega) (by rw [List.getElem?_map,hid', ← hla]; rfl)
         have hM:=HD.out.ok.rel.sk
         have hG':=HD.out.ok.gd
         have hsm:=hG'.sm id a ha
         have hlk:=hG'.lk id a ha
         have hLE:=fun w' (hb':Below w.heap.size w w')=>Sk.rlevelOf_any (HK.out.next hb') k id a.r hy hlk.2.2 (fun d hd=>⟨(hM.rsOk hG' d hd).1.1.2.2,(hM.rsOk hG' d hd).1.2,(hM.rsOk hG' d hd).2⟩) (by omega) (by omega)
         rw [hM.sums hG',hM.sums hG',hM.sums hG'] at hLE
         unfold Sk.lvC at hLE
         rw [← hsm.2.2.2.1, ← hsm.1, ← hsm.2.1, ← hsm.2.2.1] at hLE
         obtain ⟨ag,ai,ar,ah,aa,a5,at'⟩:=a
         simp only at hai hLE
         subst hai
         have q0:wr.cell? ⟨b,off + k * 6,none⟩=some (.int .i64 ai):=hcc 0 _ rfl
         have q1:wr.cell? ⟨b,off + k * 6 + 1,none⟩=some (.int .i64 ar):=hcc 1 _ rfl
         have q2:wr.cell? ⟨b,off + k * 6 + 2,none⟩=some (.int .i64 ah):=hcc 2 _ rfl
         have q3:wr.cell? ⟨b,off + k * 6 + 3,none⟩=some (.int .i64 aa):=hcc 3 _ rfl
         have q4:wr.cell? ⟨b,off + k * 6 + 4,none⟩=some (.int .i64 a5):=hcc 4 _ rfl
         have q5:wr.cell? ⟨b,off + k * 6 + 5,none⟩=some (.int .i64 at'):=hcc 5 _ rfl
         have hwb:Below wr.heap.size wr (wr.alloc (.cells #[.int .i64 ai,.int .i64 ar,.int .i64 ah,.int .i64 aa,.int .i64 a5,.int .i64 at'] 53)):=(Below.refl _ _).alloc (Nat.le_refl _) _
         have hYB:=Blk.new wr 53 #[.int .i64 ai,.int .i64 ar,.int .i64 ah,.int .i64 aa,.int .i64 a5,.int .i64 at']
         have hbz:=bthen hb hwb
         obtain ⟨wz,hwz⟩:∃ wz,wz=wr.alloc (.cells #[.int .i64 ai,.int .i64 ar,.int .i64 ah,.int .i64 aa,.int .i64 a5,.int .i64 at'] 53):=⟨_,rfl⟩
         obtain ⟨G,hG⟩:∃ G,G=wr.heap.size:=⟨_,rfl⟩
         have HW:=hid hwz
         have HG:=hid hG
         rw [← hwz] at hbz hYB
         rw [← hG] at hYB
         obtain ⟨C,hCd⟩:∃ C:World→Prop,∀ w',C w' ↔ Below w8.heap.size w8 w'∧Below wz.heap.size wz w':=⟨_,fun _=>Iff.rfl⟩
         have hC:C wz.drew:=(hCd _).2 ⟨hbz.drew,(Below.refl _ _).drew⟩
         have p0:∀ p:In C,p.w.cell? ⟨G,0,none⟩=some (.int .i64 ai):=fun p=>(hYB.next ((hCd _).1 p.h).2).cell 0
         have p1:∀ p:In C,p.w.cell? ⟨G,1,none⟩=some (.int .i64 ar):=fun p=>(hYB.next ((hCd _).1 p.h).2).cell 1
         have p2:∀ p:In C,p.w.cell? ⟨G,2,none⟩=some (.int .i64 ah):=fun p=>(hYB.next ((hCd _).1 p.h).2).cell 2
         have p3:∀ p:In C,p.w.cell? ⟨G,3,none⟩=some (.int .i64 aa):=fun p=>(hYB.next ((hCd _).1 p.h).2).cell 3
         have p4:∀ p:In C,p.w.cell? ⟨G,4,none⟩=some (.int .i64 a5):=fun p=>(hYB.next ((hCd _).1 p.h).2).cell 4
         have p5:∀ p:In C,p.w.cell? ⟨G,5,none⟩=some (.int .i64 at'):=fun p=>(hYB.next ((hCd _).1 p.h).2).cell 5
         have p6:∀ p:In C,p.w.cell? ⟨J.R,1,none⟩=some (.pointer (some ⟨J.RS,0,none⟩)):=fun p=>(HD.out.next (bthen HB8.out ((hCd _).1 p.h).1)).r.blk.cell 1
         have O:Hid (∀ p:In C,Calls Tryz.prog 51 #[.pointer (some ⟨J.RS,0,none⟩),.int .i64 k] p.w fun e w'=>e = .returned (.agg #[.int .i64 ai,.int .i64 ar,.int .i64 ah,.int .i64 aa,.int .i64 a5,.int .i64 at'])∧C w') :=
          hid (fun p=>(hLE _ (bthen HB8.out ((hCd _).1 p.h).1)).mono fun _ _ ⟨e1,e2⟩=>⟨e1,(hCd _).2 ⟨bthen ((hCd _).1 p.h).1 e2,bthen ((hCd _).1 p.h).2 e2⟩⟩)
         have hse:=same_lv20 ai ar ah aa a5 at'
         have hgd:=same_lv20_g
         have HCd:=hid hCd
         clear hCd hLE hwb hYB hbz hwz hG hsm hlk ha hy hla hcc hb hid' hM hG'
         go_wp2_with fail
         rw [← HW.out, ← HG.out]
         refine wp_region_in C (by kernel_rfl) (by kernel_rfl) hC ?_
         intro hne
         clear hC
         repeat (first | go_big_quiet_step ((go_at_call 51; exact Calls.in_of (O.out _))) | quiet_step ((go_at_call 51; exact Calls.in_of (O.out _))))
         refine wpQuiet_nil ?_
         intro wq hq
         have hb:=((HCd.out _).1 hq).1
         clear p0 p1 p2 p3 p4 p5 p6 q0 q1 q2 q3 q4 q5 O hne hq HCd hse hgd HW HG
         go_wp2_with fail
         go_roundw
         case rel=>exact ⟨k + 1,by omega,by go_num,hb⟩
         case measure=>simp [nOf]; omega
        ·clear hk
         go_wp2_with fail
         clear hlt
         go_loopw [247] (fun i wr=>∃ k:Nat,k≤gl.length∧i = .int .i64 k∧Below w8.heap.size w8 wr) (fun i _=>gl.length - nOf i)
         case atStart=>exact ⟨0,Nat.zero_le _,rfl,hb⟩
         case round =>
          clear hb
          obtain ⟨k,hk,rfl,hb⟩:=hrel
          by_cases hlt:k < gl.length
          ·obtain ⟨d,hd⟩:∃ d,gl[k]?=some d:=⟨gl[k],List.getElem?_eq_getElem hlt⟩
           obtain ⟨hl4d,d',hd',heq⟩:=HX4.out.2 k d hd
           obtain ⟨b,off,rfl,_,hcc⟩:=(HR4.out.1.below hb).at_ 3 Sk.enG3_len (by omega) hd
           have hmem:=List.mem_of_getElem? hd
           have hmem':=List.mem_of_getElem? hd'
           have hkr:k < y.rs.length:=(List.getElem?_eq_some_iff.1 hd').1
           have HLN:=hid (fun w' (hb':Below w8.heap.size w8 w')=>(HR4.out.2 d hmem).elim (fun b0 hL=>own_rd (hL.next hb').own))
           have HLR:=hid (fun w' (hb':Below w.heap.size w w')=>((HK.out.next hb').lns d' hmem').1)
           have HEL:=hid (fun w' (hb':Below w.heap.size w w')=>(HK.out.next hb').elem2 hd')
           obtain ⟨dg,dO,dst,db,dcap,dls⟩:=d
           obtain ⟨eg,eO,est,eb,ecap,els⟩:=d'
           simp only at heq hl4d HLN HLR
           obtain ⟨rfl,rfl,rfl⟩:=heq
           have q0:wr.cell? ⟨b,off + k * 3,none⟩=some (.int .i64 eO):=hcc 0 _ rfl
           have q1:wr.cell? ⟨b,off + k * 3 + 1,none⟩=some (.int .i64 est):=hcc 1 _ rfl
           have q2:wr.cell? ⟨b,off + k * 3 + 2,none⟩=some (.slice (some ⟨db,0,none⟩) els.length dcap):=hcc 2 _ rfl
           have hb1:Below wr.heap.size wr (wr.alloc (.cells #[.int .i64 eO,.int .i64 est,.slice (some ⟨db,0,none⟩) els.length dcap] 156)):=(Below.refl _ _).alloc (Nat.le_refl _) _
           have hYB:=Blk.new wr 156 #[.int .i64 eO,.int .i64 est,.slice (some ⟨db,0,none⟩) els.length dcap]
           have HW:=hid (And.intro hYB (bthen hb hb1))
           clear hYB hb1 hcc hb hd hd' hmem hmem'
           go_upto_region 25 with fail
           clear q0 q1 q2
           obtain ⟨wz,hwz⟩:∃ wz,wz=wr.alloc (.cells #[.int .i64 eO,.int .i64 est,.slice (some ⟨db,0,none⟩) els.length dcap] 156):=⟨_,rfl⟩
           obtain ⟨G,hG⟩:∃ G,G=wr.heap.size:=⟨_,rfl⟩
           obtain ⟨hYB,hbz⟩:=HW.out
           rw [← hwz] at hYB hbz ⊢
           rw [← hG] at hYB ⊢
           have hbw:=bthen HB8.out hbz
           have sR:wz.cell? ⟨J.R,1,none⟩=some (.pointer (some ⟨J.RS,0,none⟩)):=(HD.out.next hbw).r.blk.cell 1
           have sC:wz.cell? ⟨J.RS,1,none⟩=some (.slice B4 y.rs.length d4):=(HK.out.next hbw).blk.cell 1
           obtain ⟨g,hBB,_,hpr⟩:=HEL.out _ hbw
           rw [hBB] at sC
           have p0:wz.cell? ⟨g,k * 3,none⟩=some (.int .i64 eO):=hpr.2 0 _ rfl
           have p1:wz.cell? ⟨g,k * 3 + 1,none⟩=some (.int .i64 est):=hpr.2 1 _ rfl
           have p2:wz.cell? ⟨g,k * 3 + 2,none⟩=some (.slice (some ⟨eb,0,none⟩) els.length ecap):=hpr.2 2 _ rfl
           have lR:J.R < wz.heap.size:=(HD.out.next hbw).r.blk.lt
           have lRp:J.RS < wz.heap.size:=(HK.out.next hbw).blk.lt
           have lg:g < wz.heap.size:=hpr.1
           have hb2:Below wz.heap.size wz (wz.alloc (.cells #[.int .i64 eO,.int .i64 est,.slice (some ⟨eb,0,none⟩) els.length ecap] 158)):=(Below.refl _ _).alloc (Nat.le_refl _) _
           have hYB2:=Blk.new wz 158 #[.int .i64 eO,.int .i64 est,.slice (some ⟨eb,0,none⟩) els.length ecap]
           have HV:=hid (And.intro (hYB.next hb2) (And.intro hYB2 (bthen hbz hb2)))
           clear hYB hbz hbw hpr HW hwz hG hb2 hYB2 HEL hBB
           go_upto_region 26 with fail
           clear sR sC p0 p1 p2 lR lRp lg
           obtain ⟨wy,hwy⟩:∃ wy,wy=wz.alloc (.cells #[.int .i64 eO,.int .i64 est,.slice (some ⟨eb,0,none⟩) els.length ecap] 158):=⟨_,rfl⟩
           obtain ⟨G2,hG2⟩:∃ G2,G2=wz.heap.size:=⟨_,rfl⟩
           obtain ⟨hYB,hYB2,hby⟩:=HV.out
           rw [← hwy] at hYB hYB2 hby ⊢
           rw [← hG2] at hYB2 ⊢
           have g0:wy.cell? ⟨G,0,none⟩=some (.int .i64 eO):=hYB.cell 0
           have g1:wy.cell? ⟨G,1,none⟩=some (.int .i64 est):=hYB.cell 1
           have g2:wy.cell? ⟨G,2,none⟩=some (.slice (some ⟨db,0,none⟩) els.length dcap):=hYB.cell 2
           have e0:wy.cell? ⟨G2,0,none⟩=some (.int .i64 eO):=hYB2.cell 0
           have e1:wy.cell? ⟨G2,1,none⟩=some (.int .i64 est):=hYB2.cell 1
           have e2:wy.cell? ⟨G2,2,none⟩=some (.slice (some ⟨eb,0,none⟩) els.length ecap):=hYB2.cell 2
           have r0:(eO != eO)=false:=by simp
           have r1:(est != est)=false:=by simp
           have SL:=hid (same20s els (some ⟨db,0,none⟩) (some ⟨eb,0,none⟩) dcap ecap wy (HLN.out _ hby) (HLR.out _ (bthen HB8.out hby)) hl4d)
           have HBY:=hid hby
           clear hYB hYB2 hby HV hwy hG2 HLN HLR
           go_wp2_with fail
           refine SL.out.mono ?_
           rintro e w9 ⟨rfl,hb9⟩
           have hb:=bthen HBY.out hb9
           clear g0 e0 g1 e1 g2 e2 r0 r1 SL HBY hb9
           go_wp2_with fail
           go_roundw
           case rel=>exact ⟨k + 1,by omega,by go_num,hb⟩
           case measure=>simp [nOf]; omega
          ·clear hk
           go_wp2_with fail
           clear hlt
           go_loopw [285] (fun i wr=>∃ k:Nat,k≤y.L.length∧i = .int .i64 k∧Below w8.heap.size w8 wr) (fun i _=>y.L.length - nOf i)
           case atStart=>exact ⟨0,Nat.zero_le _,rfl,hb⟩
           case round =>
            clear hb
            obtain ⟨k,hk,rfl,hb⟩:=hrel
            by_cases hlt:k < y.L.length
            ·obtain ⟨v,hv⟩:∃ v,y.L[k]?=some v:=⟨y.L[k],List.getElem?_eq_getElem hlt⟩
             obtain ⟨b,off,rfl,_,hcc⟩:=(HR5.out.below hb).at_ 9 Mo.enC9_len (by omega) hv
             obtain ⟨v0,v1,v2,v3,v4,v5,v6,v7,v8⟩:=v
             have q0:wr.cell? ⟨b,off + k * 9,none⟩=some (.int .i64 v0):=hcc 0 _ rfl
             have q1:wr.cell? ⟨b,off + k * 9 + 1,none⟩=some (.int .i64 v1):=hcc 1 _ rfl
             have q2:wr.cell? ⟨b,off + k * 9 + 2,none⟩=some (.int .i64 v2):=hcc 2 _ rfl
             have q3:wr.cell? ⟨b,off + k * 9 + 3,none⟩=some (.int .i64 v3):=hcc 3 _ rfl
             have q4:wr.cell? ⟨b,off + k * 9 + 4,none⟩=some (.int .i64 v4):=hcc 4 _ rfl
             have q5:wr.cell? ⟨b,off + k * 9 + 5,none⟩=some (.int .i64 v5):=hcc 5 _ rfl
             have q6:wr.cell? ⟨b,off + k * 9 + 6,none⟩=some (.int .i64 v6):=hcc 6 _ rfl
             have q7:wr.cell? ⟨b,off + k * 9 + 7,none⟩=some (.int .i64 v7):=hcc 7 _ rfl
             have q8:wr.cell? ⟨b,off + k * 9 + 8,none⟩=some (.int .i64 v8):=hcc 8 _ rfl
             have hYB:=Blk.new wr 162 #[.int .i64 v0,.int .i64 v1,.int .i64 v2,.int .i64 v3,.int .i64 v4,.int .i64 v5,.int .i64 v6,.int .i64 v7,.int .i64 v8]
             have hba:Below wr.heap.size wr (wr.alloc (.cells #[.int .i64 v0,.int .i64 v1,.int .i64 v2,.int .i64 v3,.int .i64 v4,.int .i64 v5,.int .i64 v6,.int .i64 v7,.int .i64 v8] 162)):=(Below.refl _ _).alloc (Nat.le_refl _) _
             have HW:=hid (And.intro hYB (bthen hb hba))
             have HV:=hid hv
             clear hYB hba hcc hb hv
             go_upto_region 32 with fail
             clear q0 q1 q2 q3 q4 q5 q6 q7 q8
             obtain ⟨wz,hwz⟩:∃ wz,wz=wr.alloc (.cells #[.int .i64 v0,.int .i64 v1,.int .i64 v2,.int .i64 v3,.int .i64 v4,.int .i64 v5,.int .i64 v6,.int .i64 v7,.int .i64 v8] 162):=⟨_,rfl⟩
             obtain ⟨G,hG⟩:∃ G,G=wr.heap.size:=⟨_,rfl⟩
             obtain ⟨hYB,hbz⟩:=HW.out
             rw [← hwz] at hYB hbz ⊢
             rw [← hG] at hYB ⊢
             have hbw:=bthen HB8.out hbz
             have g0:wz.cell? ⟨G,0,none⟩=some (.int .i64 v0):=hYB.cell 0
             have g1:wz.cell? ⟨G,1,none⟩=some (.int .i64 v1):=hYB.cell 1
             have g2:wz.cell? ⟨G,2,none⟩=some (.int .i64 v2):=hYB.cell 2
             have g3:wz.cell? ⟨G,3,none⟩=some (.int .i64 v3):=hYB.cell 3
             have g4:wz.cell? ⟨G,4,none⟩=some (.int .i64 v4):=hYB.cell 4
             have g5:wz.cell? ⟨G,5,none⟩=some (.int .i64 v5):=hYB.cell 5
             have g6:wz.cell? ⟨G,6,none⟩=some (.int .i64 v6):=hYB.cell 6
             have g7:wz.cell? ⟨G,7,none⟩=some (.int .i64 v7):=hYB.cell 7
             have g8:wz.cell? ⟨G,8,none⟩=some (.int .i64 v8):=hYB.cell 8
             have sR:=(HD.out.next hbw).r.blk.cell 2
             have sR':wz.cell? ⟨J.R,2,none⟩=some (.pointer (some ⟨J.RM,0,none⟩)):=sR
             have sC:wz.cell? ⟨J.RM,0,none⟩=some (.slice B5 y.L.length d5):=(HM.out _ hbw).blk.cell 0
             obtain ⟨g,hBB,_,hpr⟩:=(HM.out _ hbw).elem HV.out
             rw [hBB] at sC
             have p0:wz.cell? ⟨g,k * 9,none⟩=some (.int .i64 v0):=hpr.2 0 _ rfl
             have p1:wz.cell? ⟨g,k * 9 + 1,none⟩=some (.int .i64 v1):=hpr.2 1 _ rfl
             have p2:wz.cell? ⟨g,k * 9 + 2,none⟩=some (.int .i64 v2):=hpr.2 2 _ rfl
             have p3:wz.cell? ⟨g,k * 9 + 3,none⟩=some (.int .i64 v3):=hpr.2 3 _ rfl
             have p4:wz.cell? ⟨g,k * 9 + 4,none⟩=some (.int .i64 v4):=hpr.2 4 _ rfl
             have p5:wz.cell? ⟨g,k * 9 + 5,none⟩=some (.int .i64 v5):=hpr.2 5 _ rfl
             have p6:wz.cell? ⟨g,k * 9 + 6,none⟩=some (.int .i64 v6):=hpr.2 6 _ rfl
             have p7:wz.cell? ⟨g,k * 9 + 7,none⟩=some (.int .i64 v7):=hpr.2 7 _ rfl
             have p8:wz.cell? ⟨g,k * 9 + 8,none⟩=some (.int .i64 v8):=hpr.2 8 _ rfl
             have se:=same_ca20 v0 v1 v2 v3 v4 v5 v6 v7 v8
             have gd:=same_ca20_g
             have HBZ:=hid hbz
             clear hYB hbz hbw hpr sR HW HV hwz hG
             go_quiet (fail)
             have hb:=below_drewN HBZ.out nq
             clear g0 p0 g1 p1 g2 p2 g3 p3 g4 p4 g5 p5 g6 p6 g7 p7 g8 p8 sR' sC se gd HBZ
             go_wp2_with fail
             go_roundw
             case rel=>exact ⟨k + 1,by omega,by go_num,hb⟩
             case measure=>simp [nOf]; omega
            ·clear hk
             go_wp2_with fail
             clear hlt
             go_loopw [323] (fun i wr=>∃ k:Nat,k≤ol.length∧i = .int .i64 k∧Below w8.heap.size w8 wr) (fun i _=>ol.length - nOf i)
             case atStart=>exact ⟨0,Nat.zero_le _,rfl,hb⟩
             case round =>
              clear hb
              obtain ⟨k,hk,rfl,hb⟩:=hrel
              by_cases hlt:k < ol.length
              ·obtain ⟨d,hd⟩:∃ d,ol[k]?=some d:=⟨ol[k],List.getElem?_eq_getElem hlt⟩
               obtain ⟨hl4d,d',hd',heq⟩:=HX6.out.2 k d hd
               obtain ⟨b,off,rfl,_,hcc⟩:=(HR6.out.1.below hb).at_ 6 Or.enO6_len (by omega) hd
               have hmem:=List.mem_of_getElem? hd
               have hmem':=List.mem_of_getElem? hd'
               have hkr:k < y.ro.length:=(List.getElem?_eq_some_iff.1 hd').1
               have HLN:=hid (fun w' (hb':Below w8.heap.size w8 w')=>(HR6.out.2 d hmem).elim (fun b0 hL=>own_rd (hL.next hb').own))
               have HLR:=hid (fun w' (hb':Below w.heap.size w w')=>((HR.out.next hb').lns d' hmem').1)
               have HEL:=hid (fun w' (hb':Below w.heap.size w w')=>(HR.out.next hb').elem2 hd')
               obtain ⟨dI,dC,dF,db,dcap,dls,dN,dT⟩:=d
               obtain ⟨eI,eC,eF,eb,ecap,els,eN,eT⟩:=d'
               simp only at heq hl4d HLN HLR
               obtain ⟨rfl,rfl,rfl,rfl,rfl,rfl⟩:=heq
               have q0:wr.cell? ⟨b,off + k * 6,none⟩=some (.int .i64 eI):=hcc 0 _ rfl
               have q1:wr.cell? ⟨b,off + k * 6 + 1,none⟩=some (.int .i64 eC):=hcc 1 _ rfl
               have q2:wr.cell? ⟨b,off + k * 6 + 2,none⟩=some (.string eF):=hcc 2 _ rfl
               have q3:wr.cell? ⟨b,off + k * 6 + 3,none⟩=some (.slice (some ⟨db,0,none⟩) els.length dcap):=hcc 3 _ rfl
               have q4:wr.cell? ⟨b,off + k * 6 + 4,none⟩=some (.int .i64 eN):=hcc 4 _ rfl
               have q5:wr.cell? ⟨b,off + k * 6 + 5,none⟩=some (.int .i64 eT):=hcc 5 _ rfl
               have hb1:Below wr.heap.size wr (wr.alloc (.cells #[.int .i64 eI,.int .i64 eC,.string eF,.slice (some ⟨db,0,none⟩) els.length dcap,.int .i64 eN,.int .i64 eT] 166)):=(Below.refl _ _).alloc (Nat.le_refl _) _
               have hYB:=Blk.new wr 166 #[.int .i64 eI,.int .i64 eC,.string eF,.slice (some ⟨db,0,none⟩) els.length dcap,.int .i64 eN,.int .i64 eT]
               have HW:=hid (And.intro hYB (bthen hb hb1))
               clear hYB hb1 hcc hb hd hd' hmem hmem'
               go_upto_region 38 with fail
               clear q0 q1 q2 q3 q4 q5
               obtain ⟨wz,hwz⟩:∃ wz,wz=wr.alloc (.cells #[.int .i64 eI,.int .i64 eC,.string eF,.slice (some ⟨db,0,none⟩) els.length dcap,.int .i64 eN,.int .i64 eT] 166):=⟨_,rfl⟩
               obtain ⟨G,hG⟩:∃ G,G=wr.heap.size:=⟨_,rfl⟩
               obtain ⟨hYB,hbz⟩:=HW.out
               rw [← hwz] at hYB hbz ⊢
               rw [← hG] at hYB ⊢
               have hbw:=bthen HB8.out hbz
               have sR:wz.cell? ⟨J.R,3,none⟩=some (.pointer (some ⟨J.RO,0,none⟩)):=(HD.out.next hbw).r.blk.cell 3
               have sC:wz.cell? ⟨J.RO,1,none⟩=some (.slice B6 y.ro.length d6):=(HR.out.next hbw).blk.cell 1
               obtain ⟨g,hBB,_,hpr⟩:=HEL.out _ hbw
               rw [hBB] at sC
               have p0:wz.cell? ⟨g,k * 6,none⟩=some (.int .i64 eI):=hpr.2 0 _ rfl
               have p1:wz.cell? ⟨g,k * 6 + 1,none⟩=some (.int .i64 eC):=hpr.2 1 _ rfl
               have p2:wz.cell? ⟨g,k * 6 + 2,none⟩=some (.string eF):=hpr.2 2 _ rfl
               have p3:wz.cell? ⟨g,k * 6 + 3,none⟩=some (.slice (some ⟨eb,0,none⟩) els.length ecap):=hpr.2 3 _ rfl
               have p4:wz.cell? ⟨g,k * 6 + 4,none⟩=some (.int .i64 eN):=hpr.2 4 _ rfl
               have p5:wz.cell? ⟨g,k * 6 + 5,none⟩=some (.int .i64 eT):=hpr.2 5 _ rfl
               have lR:J.R < wz.heap.size:=(HD.out.next hbw).r.blk.lt
               have lRp:J.RO < wz.heap.size:=(HR.out.next hbw).blk.lt
               have lg:g < wz.heap.size:=hpr.1
               have hb2:Below wz.heap.size wz (wz.alloc (.cells #[.int .i64 eI,.int .i64 eC,.string eF,.slice (some ⟨eb,0,none⟩) els.length ecap,.int .i64 eN,.int .i64 eT] 168)):=(Below.refl _ _).alloc (Nat.le_refl _) _
               have hYB2:=Blk.new wz 168 #[.int .i64 eI,.int .i64 eC,.string eF,.slice (some ⟨eb,0,none⟩) els.length ecap,.int .i64 eN,.int .i64 eT]
               have HV:=hid (And.intro (hYB.next hb2) (And.intro hYB2 (bthen hbz hb2)))
               clear hYB hbz hbw hpr HW hwz hG hb2 hYB2 HEL hBB
               go_upto_region 39 with fail
               clear sR sC p0 p1 p2 p3 p4 p5 lR lRp lg
               obtain ⟨wy,hwy⟩:∃ wy,wy=wz.alloc (.cells #[.int .i64 eI,.int .i64 eC,.string eF,.slice (some ⟨eb,0,none⟩) els.length ecap,.int .i64 eN,.int .i64 eT] 168):=⟨_,rfl⟩
               obtain ⟨G2,hG2⟩:∃ G2,G2=wz.heap.size:=⟨_,rfl⟩
               obtain ⟨hYB,hYB2,hby⟩:=HV.out
               rw [← hwy] at hYB hYB2 hby ⊢
               rw [← hG2] at hYB2 ⊢
               have g0:wy.cell? ⟨G,0,none⟩=some (.int .i64 eI):=hYB.cell 0
               have g1:wy.cell? ⟨G,1,none⟩=some (.int .i64 eC):=hYB.cell 1
               have g2:wy.cell? ⟨G,2,none⟩=some (.string eF):=hYB.cell 2
               have g3:wy.cell? ⟨G,3,none⟩=some (.slice (some ⟨db,0,none⟩) els.length dcap):=hYB.cell 3
               have g4:wy.cell? ⟨G,4,none⟩=some (.int .i64 eN):=hYB.cell 4
               have g5:wy.cell? ⟨G,5,none⟩=some (.int .i64 eT):=hYB.cell 5
               have e0:wy.cell? ⟨G2,0,none⟩=some (.int .i64 eI):=hYB2.cell 0
               have e1:wy.cell? ⟨G2,1,none⟩=some (.int .i64 eC):=hYB2.cell 1
               have e2:wy.cell? ⟨G2,2,none⟩=some (.string eF):=hYB2.cell 2
               have e3:wy.cell? ⟨G2,3,none⟩=some (.slice (some ⟨eb,0,none⟩) els.length ecap):=hYB2.cell 3
               have e4:wy.cell? ⟨G2,4,none⟩=some (.int .i64 eN):=hYB2.cell 4
               have e5:wy.cell? ⟨G2,5,none⟩=some (.int .i64 eT):=hYB2.cell 5
               have r0:(eI != eI)=false:=by simp
               have r1:(eC != eC)=false:=by simp
               have r2:(eF.toList == eF.toList)=true:=by simp
               have r3:(eN != eN)=false:=by simp
               have r4:(eT != eT)=false:=by simp
               have SL:=hid (same20 els (some ⟨db,0,none⟩) (some ⟨eb,0,none⟩) dcap ecap wy (HLN.out _ hby) (HLR.out _ (bthen HB8.out hby)) hl4d)
               have HBY:=hid hby
               clear hYB hYB2 hby HV hwy hG2 HLN HLR
               go_wp2_with fail
               refine SL.out.mono ?_
               rintro e w9 ⟨rfl,hb9⟩
               have hb:=bthen HBY.out hb9
               clear g0 e0 g1 e1 g2 e2 g3 e3 g4 e4 g5 e5 r0 r1 r2 r3 r4 SL HBY hb9
               go_wp2_with fail
               go_roundw
               case rel=>exact ⟨k + 1,by omega,by go_num,hb⟩
               case measure=>simp [nOf]; omega
              ·clear hk
               go_wp2_with fail
               clear hlt
               go_loopw [382] (fun i wr=>∃ k:Nat,k≤y.re.length∧i = .int .i64 k∧Below w8.heap.size w8 wr) (fun i _=>y.re.length - nOf i)
               case atStart=>exact ⟨0,Nat.zero_le _,rfl,hb⟩
               case round =>
                clear hb
                obtain ⟨k,hk,rfl,hb⟩:=hrel
                by_cases hlt:k < y.re.length
                ·obtain ⟨v,hv⟩:∃ v,y.re[k]?=some v:=⟨y.re[k],List.getElem?_eq_getElem hlt⟩
                 obtain ⟨b,off,rfl,_,hcc⟩:=(HR7.out.below hb).at_ 5 In.enE5_len (by omega) hv
                 obtain ⟨v0,v1,v2,v3,v4⟩:=v
                 have q0:wr.cell? ⟨b,off + k * 5,none⟩=some (.int .i64 v0):=hcc 0 _ rfl
                 have q1:wr.cell? ⟨b,off + k * 5 + 1,none⟩=some (.int .i64 v1):=hcc 1 _ rfl
                 have q2:wr.cell? ⟨b,off + k * 5 + 2,none⟩=some (.int .i64 v2):=hcc 2 _ rfl
                 have q3:wr.cell? ⟨b,off + k * 5 + 3,none⟩=some (.int .i64 v3):=hcc 3 _ rfl
                 have q4:wr.cell? ⟨b,off + k * 5 + 4,none⟩=some (.bool v4):=hcc 4 _ rfl
                 have hYB:=Blk.new wr 170 #[.int .i64 v0,.int .i64 v1,.int .i64 v2,.int .i64 v3,.bool v4]
                 have hba:Below wr.heap.size wr (wr.alloc (.cells #[.int .i64 v0,.int .i64 v1,.int .i64 v2,.int .i64 v3,.bool v4] 170)):=(Below.refl _ _).alloc (Nat.le_refl _) _
                 have HW:=hid (And.intro hYB (bthen hb hba))
                 have HV:=hid hv
                 clear hYB hba hcc hb hv
                 go_upto_region 45 with fail
                 clear q0 q1 q2 q3 q4
                 obtain ⟨wz,hwz⟩:∃ wz,wz=wr.alloc (.cells #[.int .i64 v0,.int .i64 v1,.int .i64 v2,.int .i64 v3,.bool v4] 170):=⟨_,rfl⟩
                 obtain ⟨G,hG⟩:∃ G,G=wr.heap.size:=⟨_,rfl⟩
                 obtain ⟨hYB,hbz⟩:=HW.out
                 rw [← hwz] at hYB hbz ⊢
                 rw [← hG] at hYB ⊢
                 have hbw:=bthen HB8.out hbz
                 have g0:wz.cell? ⟨G,0,none⟩=some (.int .i64 v0):=hYB.cell 0
                 have g1:wz.cell? ⟨G,1,none⟩=some (.int .i64 v1):=hYB.cell 1
                 have g2:wz.cell? ⟨G,2,none⟩=some (.int .i64 v2):=hYB.cell 2
                 have g3:wz.cell? ⟨G,3,none⟩=some (.int .i64 v3):=hYB.cell 3
                 have g4:wz.cell? ⟨G,4,none⟩=some (.bool v4):=hYB.cell 4
                 have sR:=(HD.out.next hbw).r.blk.cell 4
                 have sR':wz.cell? ⟨J.R,4,none⟩=some (.pointer (some ⟨J.RI,0,none⟩)):=sR
                 have sC:wz.cell? ⟨J.RI,0,none⟩=some (.slice B7 y.re.length d7):=(HI.out.next hbw).blk.cell 0
                 obtain ⟨g,hBB,_,hpr⟩:=(HI.out.next hbw).elem HV.out
                 rw [hBB] at sC
                 have p0:wz.cell? ⟨g,k * 5,none⟩=some (.int .i64 v0):=hpr.2 0 _ rfl
                 have p1:wz.cell? ⟨g,k * 5 + 1,none⟩=some (.int .i64 v1):=hpr.2 1 _ rfl
                 have p2:wz.cell? ⟨g,k * 5 + 2,none⟩=some (.int .i64 v2):=hpr.2 2 _ rfl
                 have p3:wz.cell? ⟨g,k * 5 + 3,none⟩=some (.int .i64 v3):=hpr.2 3 _ rfl
                 have p4:wz.cell? ⟨g,k * 5 + 4,none⟩=some (.bool v4):=hpr.2 4 _ rfl
                 have se:=same_en20 v0 v1 v2 v3 v4
                 have gd:=same_en20_g
                 have HBZ:=hid hbz
                 clear hYB hbz hbw hpr sR HW HV hwz hG
                 go_quiet (fail)
                 have hb:=below_drewN HBZ.out nq
                 clear g0 p0 g1 p1 g2 p2 g3 p3 g4 p4 sR' sC se gd HBZ
                 go_wp2_with fail
                 go_roundw
                 case rel=>exact ⟨k + 1,by omega,by go_num,hb⟩
                 case measure=>simp [nOf]; omega
                ·clear hk
                 go_wp2_with fail
                 clear hlt
                 go_ret
                 exact ⟨rfl,bthen HB8.out hb⟩
end Go.Proofs.YtakaalldbnklcaaGreat
