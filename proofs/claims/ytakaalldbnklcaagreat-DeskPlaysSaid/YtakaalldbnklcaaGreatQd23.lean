/-
  The desk and the document's desk: the calls ahead of the requests (customers, items, orders, receipts), at both.
  Layer 20: a script's operations as an argument.
  Layer 20: the laws' word 'step': one call, at the desk and at the document's.
  Requests at a desk, plainly: what comes again, what was barred, what is done and undone. No program runs here.
  Layer 20: wakes (a hold of 90), on the desk with all its books.
  Layer 20: both desks new; the walk of DeskPlays.
  Layer 20: a script of operations as an argument.
-/
import Derived.Test.YtakaalldbnklcaaGreatQd3
import Derived.Test.YtakaalldbnklcaaGreatQd10
import Derived.Test.YtakaalldbnklcaaGreatQd11
import Derived.Test.YtakaalldbnklcaaGreatQd12
import Derived.Test.YtakaalldbnklcaaGreatQd17
import Derived.Test.YtakaalldbnklcaaGreatQd18
import Derived.Test.YtakaalldbnklcaaGreatQd20
import Derived.Test.YtakaalldbnklcaaGreatQd21
import Derived.Test.YtakaalldbnklcaaGreatQd22
import Derived.Deep.RegionHeld3
import Derived.BigRegion
namespace Go.Proofs.YtakaalldbnklcaaGreat
open Go.RowKit Go.WideShapes Go.ChangeShapes Go.ChangeAt Go.Deep
set_option linter.unusedVariables false
section
variable {n0 base K:Nat} {w w1 w':World} {I:DkI} {x x':DkX} {J:RdI} {y y':RdX}
def Mid (n0 base K:Nat) (w:World) (I:DkI) (x x':DkX) (J:RdI) (y:RdX) (F:FuncId) (args:Array Value) (w1:World):Prop :=
 x'.m=x.m∧PD n0 K w1 I x'∧RD n0 base w1 J y∧Touch (KindIn n0 w TP I.maps) w w1∧∀ w2,Below w1.heap.size w1 w2→Calls Tryz.prog F args w2 fun e w3=>(∃ v,e = .returned v)∧∃ y',DK n0 base K w3 I x' J y'∧Touch (KindIn n0 w2 TD []) w2 w3
theorem Mid.of {F:FuncId} {args:Array Value} (h:DK n0 base K w I x J y) (hm:x'.m=x.m) (hh:x'.hs=x.hs) (hP:PD n0 K w1 I x') (hT:Touch (KindIn n0 w TP I.maps) w w1) (hoo:OrOk x')
  (hC:∀ w2,Below w1.heap.size w1 w2→RD n0 base w2 J y→Calls Tryz.prog F args w2 fun e w3=>(∃ v,e = .returned v)∧∃ y',RD n0 base w3 J y'∧Rel x' y'∧Touch (KindIn n0 w2 TD []) w2 w3∧y'.L.length≤K):Mid n0 base K w I x x' J y F args w1:=by
 have hR1:=h.r.far hT
 refine ⟨hm,hP,hR1,hT,fun w2 hb => ?_⟩
 refine (hC w2 hb (hR1.next hb)).mono ?_
 rintro e w3 ⟨hv,y',hR3,hrel,hT3,hL⟩
 have hP3:=(hP.next hb).far hT3
 refine ⟨hv,y',⟨hP3,hR3,⟨hrel,hP3.gd,hP3.mo.gd,hP3.gl,by rw [hh]; exact h.ok.hl,by rw [hm]; exact h.ok.ml,hL,h.ok.k⟩,hoo⟩,hT3⟩
theorem rd_same {e:Ending} {w2 w3:World} (h:RD n0 base w2 J y) (hrel:Rel x' y) (hL:y.L.length≤K) (he:∃ v,e = .returned v) (hb:Below w2.heap.size w2 w3):(∃ v,e = .returned v)∧∃ y',RD n0 base w3 J y'∧Rel x' y'∧Touch (KindIn n0 w2 TD []) w2 w3∧y'.L.length≤K :=
 ⟨he,y,h.next hb,hrel,.of_below hb,hL⟩
theorem dk_cust (h:DK n0 base K w I x J y) (id l:Int) :
  Calls Tryz.prog 16 #[.pointer (some ⟨I.XC,0,none⟩),.int .i64 id,.int .i64 l] w fun e w1=>(∃ v,e = .returned v)∧∃ x',Mid n0 base K w I x x' J y 25 #[.pointer (some ⟨J.RC,0,none⟩),.int .i64 id,.int .i64 l] w1:=by
 by_cases hok:Cr.custOk id l
 ·refine (Cr.customer_yes h.p.cr h.p.lo.2.2 id l hok).mono ?_
  rintro e w1 ⟨g,rfl,_,hI,hT⟩
  obtain ⟨hP,hT2⟩:=h.p.credit hI hT
  refine ⟨⟨_,rfl⟩,{ x with ac:=Cr.custAc x.ac id l g },Mid.of h rfl rfl hP hT2 ⟨h.oo.pr,h.oo.ids⟩ fun w2 hb hR => ?_⟩
  obtain ⟨A1,c1,A2,c2,hc⟩:=hR.cr
  have hM:=h.ok.rel.cr
  have hf:=hM.few
  have hpl:y.ps.length=x.ac.length:=hM.pa.len
  refine (Cr.rcust_yes hc hM.pa.sorted id l hok (by omega) hR.lo.2).mono ?_
  rintro e w3 ⟨A1',c1',rfl,hI3,hT3⟩
  obtain ⟨hR3,hT4⟩:=hR.credit ⟨_,_,_,_,hI3⟩ (Cr.rk1 hc hT3 ⟨hR.lo.1.1,hR.lo.1.2.1⟩)
  exact ⟨⟨_,rfl⟩,_,hR3,{ h.ok.rel with cr:=hM.cust h.p.cr.has hok g },hT4,h.ok.ll⟩
 ·refine (Cr.customer_no h.p.cr id l hok).mono ?_
  rintro e w1 ⟨rfl,rfl⟩
  refine ⟨⟨_,rfl⟩,x,Mid.of h rfl rfl h.p (.refl _ _) h.oo fun w2 hb hR => ?_⟩
  refine (Cr.rcust_no id l hok _).mono ?_
  rintro e w3 ⟨rfl,rfl⟩
  exact rd_same hR h.ok.rel h.ok.ll ⟨_,rfl⟩ (Below.refl _ _)
theorem OrOk.items (h:OrOk x) (hd:(x.pr.map (·.1)).Nodup):x.pr.length≤64:=by
 have h1:(x.pr.map (·.1)).length≤64:=Or.keys_few hd (fun k hk=>by
  obtain ⟨p,hp⟩:=mget_key hk
  have:=h.pr k p hp
  exact ⟨this.1,this.2.1⟩)
 simpa using h1
theorem dk_price (h:DK n0 base K w I x J y) (id p:Int) :
  Calls Tryz.prog 17 #[.pointer (some ⟨I.XO,0,none⟩),.int .i64 id,.int .i64 p] w fun e w1=>(∃ v,e = .returned v)∧∃ x',Mid n0 base K w I x x' J y 26 #[.pointer (some ⟨J.RO,0,none⟩),.int .i64 id,.int .i64 p] w1:=by
 by_cases hok:Or.itemOk id p
 ·refine (Or.item_yes h.p.od id p hok).mono ?_
  rintro e w1 ⟨rfl,hI,hT⟩
  obtain ⟨hP,hT2⟩:=h.p.orders hI h.p.og hT
  refine ⟨⟨_,rfl⟩,{ x with pr:=mset x.pr id p },Mid.of h rfl rfl hP hT2 ⟨?_,h.oo.ids⟩ fun w2 hb hR => ?_⟩
  ·intro id' p' hm
   rw [mget_mset] at hm
   split at hm
   ·rename_i e
    injection hm with hm
    subst e hm
    exact hok
   ·exact h.oo.pr id' p' hm
  ·obtain ⟨A1,c1,A2,c2,hc⟩:=hR.od
   have hM:=h.ok.rel.od
   have hf:=h.oo.items h.p.od.prs.nodup
   have hpl:y.its.length=x.pr.length:=hM.its.len
   refine (Or.rset_yes hc hM.sortI id p hok (by omega) hR.lo.2).mono ?_
   rintro e w3 ⟨A1',c1',rfl,hI3,hT3⟩
   obtain ⟨hR3,hT4⟩:=hR.orders ⟨_,_,_,_,hI3⟩ (Or.rk1 hc hT3 ⟨hR.lo.1.1,hR.lo.1.2.2.2.2.1⟩)
   exact ⟨⟨_,rfl⟩,_,hR3,{ h.ok.rel with od:=hM.setI id p _ rfl },hT4,h.ok.ll⟩
 ·refine (Or.item_no h.p.od id p hok).mono ?_
  rintro e w1 ⟨rfl,rfl⟩
  refine ⟨⟨_,rfl⟩,x,Mid.of h rfl rfl h.p (.refl _ _) h.oo fun w2 hb hR => ?_⟩
  refine (Or.rset_no id p hok _).mono ?_
  rintro e w3 ⟨rfl,rfl⟩
  exact rd_same hR h.ok.rel h.ok.ll ⟨_,rfl⟩ (Below.refl _ _)
theorem dk_item (h:DK n0 base K w I x J y) (id:Int) :
  Calls Tryz.prog 27 #[.pointer (some ⟨I.XS,0,none⟩),.int .i64 id] w fun e w1=>(∃ v,e = .returned v)∧∃ x',Mid n0 base K w I x x' J y 28 #[.pointer (some ⟨J.RS,0,none⟩),.int .i64 id] w1:=by
 refine (Sk.item_step2 h.p.sk h.p.gd h.p.lo.2.2 id).mono ?_
 rintro e w1 ⟨lv',gs',rfl,hI,hG,hX,hOl,hT⟩
 have hgs:gs'=x.gs:=hX.1
 obtain ⟨hP,hT2⟩:=h.p.stock (K':=K) hI hG (by rw [hgs]; exact h.p.gl) hT hOl
 refine ⟨⟨_,rfl⟩,{ x with lv:=lv',gs:=gs' },Mid.of h rfl rfl hP hT2 ⟨h.oo.pr,h.oo.ids⟩ fun w2 hb hR => ?_⟩
 obtain ⟨A1,c1,A2,c2,hc⟩:=hR.sk
 refine (Sk.ritem_step hc h.ok.rel.sk h.p.gd hR.lo.2 id).mono ?_
 rintro e w3 ⟨A1',c1',is',A2',c2',rs',rfl,hI3,hX3,hT3⟩
 obtain ⟨hR3,hT4⟩:=hR.stock ⟨_,_,_,_,hI3⟩ (Sk.rk hc hT3 ⟨hR.lo.1.1,hR.lo.1.2.2.1⟩)
 exact ⟨⟨_,rfl⟩,_,hR3,{ h.ok.rel with sk:=hX3 _ _ hX },hT4,h.ok.ll⟩
theorem dk_recv (h:DK n0 base K w I x J y) (id q:Int) :
  Calls Tryz.prog 29 #[.pointer (some ⟨I.XS,0,none⟩),.int .i64 id,.int .i64 q] w fun e w1=>(∃ v,e = .returned v)∧∃ x',Mid n0 base K w I x x' J y 30 #[.pointer (some ⟨J.RS,0,none⟩),.int .i64 id,.int .i64 q] w1:=by
 refine (Sk.recv_step h.p.sk h.p.gd (by have:=h.p.gl; have:=h.ok.k; omega) id q).mono ?_
 rintro e w1 ⟨lv',gs',rfl,hI,hG,hX,_,hT⟩
 have hgs:gs'=x.gs:=hX.1
 obtain ⟨hP,hT2⟩:=h.p.stock (K':=K) hI hG (by rw [hgs]; exact h.p.gl) hT (Sk.RecvR.old hX _)
 refine ⟨⟨_,rfl⟩,{ x with lv:=lv',gs:=gs' },Mid.of h rfl rfl hP hT2 ⟨h.oo.pr,h.oo.ids⟩ fun w2 hb hR => ?_⟩
 obtain ⟨A1,c1,A2,c2,hc⟩:=hR.sk
 refine (Sk.rrecv_step hc h.ok.rel.sk h.p.gd id q).mono ?_
 rintro e w3 ⟨A1',c1',is',A2',c2',rs',rfl,hI3,hX3,hT3⟩
 obtain ⟨hR3,hT4⟩:=hR.stock ⟨_,_,_,_,hI3⟩ (Sk.rk hc hT3 ⟨hR.lo.1.1,hR.lo.1.2.2.1⟩)
 exact ⟨⟨_,rfl⟩,_,hR3,{ h.ok.rel with sk:=hX3 _ _ hX },hT4,h.ok.ll⟩
theorem dk_rcpt (h:DK n0 base K w I x J y) (hK:K + 1≤1900000000000) (o c n:Int) (hi:I64 n) :
  Calls Tryz.prog 33 #[.pointer (some ⟨I.XM,0,none⟩),.int .i64 o,.int .i64 c,.int .i64 n] w fun e w1=>(∃ v,e = .returned v)∧∃ x',Mid n0 base (K + 1) w I x x' J y 34 #[.pointer (some ⟨J.RM,0,none⟩),.int .i64 o,.int .i64 c,.int .i64 n] w1:=by
 refine (Mo.crcv_any h.p.mo h.p.lo.2.2 o c n hi).mono ?_
 rintro e w1 ⟨rfl,ca',hI,hF,hT,_⟩
 obtain ⟨hP,hT2⟩:=h.p.money hI hT
 refine ⟨⟨_,rfl⟩,{ x with ca:=ca',d:=(Mo.rcvR (Mo.cfind x.ca) x.d o c n).d },Mid.of (h.up (Nat.le_succ K) hK) rfl rfl (hP.mono (Nat.le_succ K)) hT2 ⟨h.oo.pr,h.oo.ids⟩ fun w2 hb hR => ?_⟩
 obtain ⟨A,cap,hm⟩:=hR.mo
 have hmd:=h.ok.rel.md
 have hll:=h.ok.ll
 rw [hmd] at hm
 refine (Mo.rrcv_any hm h.ok.rel.mo h.ok.mo.good (by omega) hR.lo.2 o c n).mono ?_
 rintro e w3 ⟨rfl,A',cap',L',hI3,hC,hLn,hT3⟩
 obtain ⟨hR3,hT4⟩:=hR.money ⟨_,_,hI3⟩ (Mo.rk hm hT3 ⟨hR.lo.1.1,hR.lo.1.2.2.2.1⟩)
 exact ⟨⟨_,rfl⟩,_,hR3,{ h.ok.rel with mo:=by show Mo.RelC (Mo.cfind ca') L'; rw [hF]; exact hC,md:=rfl },hT4,Nat.le_trans hLn (Nat.succ_le_succ hll)⟩
theorem errL_zero {pr:List (Int × Int)} {os:List (Int × Or.Od)} {id c:Int} {f:ByteArray} {ls:List Or.Ln} (h:Or.errL pr os id c f ls=0):Or.OrdOk id c f ls∧Or.knowB pr ls=true∧mget os id=none:=by
 unfold Or.errL at h
 split at h
 ·rename_i h1
  split at h
  ·rename_i h2
   split at h
   ·cases h
   ·rename_i h3
    refine ⟨h1,h2, ?_⟩
    cases hm:mget os id with
    | none=>rfl
    | some o=>rw [hm] at h3; exact absurd rfl h3
  ·cases h
 ·cases h
theorem odG_new {pr:List (Int × Int)} {id c:Int} {f:ByteArray} {ls:List Or.Ln} (hp:Or.PrOk pr) (ho:Or.OrdOk id c f ls) (hk:Or.knowB pr ls=true) {o:Or.Od} (h1:o.i=id) (h2:o.ls=ls) (h3:o.n=Or.netT (Or.prL pr ls)) (h4:o.t=Or.taxT (Or.prL pr ls)):OdG id o:=by
 have hf:=Or.prL_fits hp ho hk
 have h5:=ho.1.2.2.2.2.2
 unfold Or.netT at h3
 unfold Or.taxT at h4
 rw [if_pos hf] at h3 h4
 unfold Or.fits at hf
 simp only [Bool.and_eq_true,decide_eq_true_eq] at hf
 have hs:=Or.sums_bd _ hf.2
 obtain ⟨⟨l1,l2⟩,_⟩:=hf
 refine ⟨h1,by rw [h2]; exact h5, ?_⟩
 rw [h3,h4]
 generalize (Or.prL pr ls).length=m at hs l1 l2
 omega
theorem dk_add (h:DK n0 base K w I x J y) (id c:Int) (f:ByteArray) (A:Option Addr) (cap:Nat) (ls:List Or.Ln) (hfs:f.size≤maxLen) (hR:Rd w A (ls.flatMap Or.enL)) (hcap:ls.length≤cap) (hcm:cap≤maxLen) :
  Calls Tryz.prog 18 #[.pointer (some ⟨I.XO,0,none⟩),.int .i64 id,.int .i64 c,.string f,.slice A ls.length cap] w fun e w1=>(∃ v,e = .returned v)∧∃ x',x'.m=x.m∧PD n0 K w1 I x'∧RD n0 base w1 J y∧Touch (KindIn n0 w TP I.maps) w w1 ∧
   ∀ w2 (A2:Option Addr) (cap2:Nat),Below w1.heap.size w1 w2→Rd w2 A2 (ls.flatMap Or.enL)→Calls Tryz.prog 31 #[.pointer (some ⟨J.RO,0,none⟩),.int .i64 id,.int .i64 c,.string f,.slice A2 ls.length cap2] w2 fun e w3=>(∃ v,e = .returned v)∧∃ y',DK n0 base K w3 I x' J y'∧Touch (KindIn n0 w2 TD []) w2 w3:=by
 have hits:y.its.length≤64:=by
  have h1:=h.oo.items h.p.od.prs.nodup
  have h2:y.its.length=x.pr.length:=h.ok.rel.od.its.len
  omega
 have hro:=h.ro
 by_cases hz:Or.errL x.pr x.os id c f ls=0
 ·obtain ⟨hok,hkn,hno⟩:=errL_zero hz
  refine (Or.add_yes h.p.od h.oo.pr id c f A cap ls hfs hR hcap hcm h.p.lo.2.2 hz).mono ?_
  rintro e w1 ⟨o,rfl,hI,h1,h2,h3,h4,h5,h6,hT⟩
  obtain ⟨hP,hT2⟩:=h.p.orders hI (fun p hp=>by
   rcases mem_mset hp with rfl | ⟨hp,_⟩
   ·exact odG_new h.oo.pr hok hkn h1 h4 h5 h6
   ·exact h.p.og p hp) hT
  have hM:∀ w2 (A2:Option Addr) (cap2:Nat),Rd w2 A2 (ls.flatMap Or.enL)→Below w1.heap.size w1 w2→RD n0 base w2 J y→Calls Tryz.prog 31 #[.pointer (some ⟨J.RO,0,none⟩),.int .i64 id,.int .i64 c,.string f,.slice A2 ls.length cap2] w2 fun e w3=>(∃ v,e = .returned v)∧∃ y',RD n0 base w3 J y'∧Rel { x with os:=mset x.os id o } y'∧Touch (KindIn n0 w2 TD []) w2 w3∧y'.L.length≤K:=by
   intro w2 A2 cap2 hR2 hb hD
   obtain ⟨B1,c1,B2,c2,hc⟩:=hD.od
   refine (Or.radd_ok hc h.ok.rel.od id c f A2 cap2 ls hfs hR2 hok (by omega) (by omega) hD.lo.2).mono ?_
   rintro e w3 (⟨hne,_⟩ | ⟨_,o2,A2',c2',rfl,hI3,⟨g1,g2,g3,g4,g5,g6,_⟩,hT3⟩)
   ·exact absurd hz hne
   ·obtain ⟨hR3,hT4⟩:=hD.orders ⟨_,_,_,_,hI3⟩ (Or.rk2 hc hT3 ⟨hD.lo.1.1,hD.lo.1.2.2.2.2.1⟩)
    refine ⟨⟨_,rfl⟩,_,hR3,{ h.ok.rel with od:=h.ok.rel.od.addO hno g1 ?_ },hT4,h.ok.ll⟩
    unfold Or.bare
    rw [g1,g2,g3,g4,g5,g6,h1,h2,h3,h4,h5,h6]
  have hoo:OrOk { x with os:=mset x.os id o }:=⟨h.oo.pr,fun p hp=>by
   rcases mem_mset hp with rfl | ⟨hp,_⟩
   ·exact ⟨hok.1.1,hok.1.2.1⟩
   ·exact h.oo.ids p hp⟩
  have hMid:∀ (A2:Option Addr) (cap2:Nat) w2,Rd w2 A2 (ls.flatMap Or.enL)→Below w1.heap.size w1 w2→Calls Tryz.prog 31 #[.pointer (some ⟨J.RO,0,none⟩),.int .i64 id,.int .i64 c,.string f,.slice A2 ls.length cap2] w2 fun e w3=>(∃ v,e = .returned v)∧∃ y',DK n0 base K w3 I { x with os:=mset x.os id o } J y'∧Touch (KindIn n0 w2 TD []) w2 w3:=by
   intro A2 cap2 w2 hR2 hb
   have hR1:=h.r.far hT2
   refine (hM w2 A2 cap2 hR2 hb (hR1.next hb)).mono ?_
   rintro e w3 ⟨hv,y',hR3,hrel,hT3,hL⟩
   have hP3:=(hP.next hb).far hT3
   refine ⟨hv,y',⟨hP3,hR3,⟨hrel,hP3.gd,hP3.mo.gd,hP3.gl,h.ok.hl,h.ok.ml,hL,h.ok.k⟩,hoo⟩,hT3⟩
  exact ⟨⟨_,rfl⟩,{ x with os:=mset x.os id o },rfl,hP,h.r.far hT2,hT2,fun w2 A2 cap2 hb hR2=>hMid A2 cap2 w2 hR2 hb⟩
 ·refine (Or.add_no h.p.od id c f A cap ls hfs hR hcap hcm hz).mono ?_
  rintro e w1 ⟨rfl,hb1⟩
  refine ⟨⟨_,rfl⟩,x,rfl,h.p.next hb1,h.r.next hb1,.of_below hb1,fun w2 A2 cap2 hb hR2 => ?_⟩
  have hD:=(h.next hb1).next hb
  have fin:∀ (e:Ending) (w3:World),(∃ v,e = .returned v)→Below w2.heap.size w2 w3→(∃ v,e = .returned v)∧∃ y',DK n0 base K w3 I x J y'∧Touch (KindIn n0 w2 TD []) w2 w3:=fun e w3 he hb3=>⟨he,y,hD.next hb3,.of_below hb3⟩
  by_cases hh:Or.headOk id c f ls.length
  ·by_cases hok:Or.OrdOk id c f ls
   ·obtain ⟨B1,c1,B2,c2,hc⟩:=hD.r.od
    refine (Or.radd_ok hc h.ok.rel.od id c f A2 cap2 ls hfs hR2 hok (by omega) (by omega) hD.r.lo.2).mono ?_
    rintro e w3 (⟨_,rfl,hb3⟩ | ⟨h0,_⟩)
    ·exact fin _ _ ⟨_,rfl⟩ hb3
    ·exact absurd h0 hz
   ·refine (Or.radd_bad id c f A2 cap2 ls _ hfs hR2 hh hok).mono ?_
    rintro e w3 ⟨rfl,hb3⟩
    exact fin _ _ ⟨_,rfl⟩ hb3
  ·refine (Or.radd_head id c f A2 cap2 ls _ hfs hh).mono ?_
   rintro e w3 ⟨rfl,hb3⟩
   exact fin _ _ ⟨_,rfl⟩ hb3
end
end Go.Proofs.YtakaalldbnklcaaGreat
namespace Go.Proofs.YtakaalldbnklcaaGreat
open Go.RowKit Go.WideShapes Go.ChangeShapes Go.ChangeAt Go.Deep
set_option linter.unusedVariables false
structure DOp where
 kd:Int
 ky:Int
 st:Int
 tr:Int
 vb:ByteArray
 un:Bool
 A:Option Addr
 cap:Nat
 ls:List Or.Ln
instance:Inhabited DOp:=⟨⟨0,0,0,0,ByteArray.empty,false,none,0,[]⟩⟩
def enDo (x:DOp):List Value:=[.int .i64 x.kd,.int .i64 x.ky,.int .i64 x.st,.int .i64 x.tr,.string x.vb,.bool x.un,.slice x.A x.ls.length x.cap]
theorem enDo_len (x:DOp):(enDo x).length=7:=rfl
def i64L (x:Or.Ln):Prop:=I64 x.i∧I64 x.q
structure OkDo (w:World) (x:DOp):Prop where
 rd:Rd w x.A (x.ls.flatMap Or.enL)
 l64:∀ y ∈ x.ls,i64L y
 len:x.ls.length * 16≤140737488351232
 room:x.ls.length≤x.cap
 cap:x.cap≤maxLen
 verb:x.vb.size≤maxLen
 i64:I64 x.kd∧I64 x.ky∧I64 x.st∧I64 x.tr
theorem OkDo.next {w w':World} {x:DOp} (h:OkDo w x) (hb:Below w.heap.size w w'):OkDo w' x:=⟨h.rd.below hb,h.l64,h.len,h.room,h.cap,h.verb,h.i64⟩
theorem decLn (vs:List Value) (hl:vs.length=2) (h:∀ j,j < 2→∃ (u:Value) (k:SK),vs[j]?=some u∧([SK.int .i64,.int .i64]:List SK)[j]?=some k∧k.ok u):∃ x:Or.Ln,vs=Or.enL x∧i64L x:=by
 obtain ⟨⟨a,n⟩,h1,h2⟩:=dec2 vs hl h
 exact ⟨⟨a,n⟩,h1,h2⟩
theorem flatLn:Flat Tryz.prog 67 [.int .i64,.int .i64]:=flat_struct Tryz.underlying67 (by kernel_rfl) (by kernel_rfl) (by kernel_rfl)
theorem bytesLn:Tryz.prog.bytesOf 67=16:=by kernel_rfl
section
variable {H:Type} {enc:TypeId × Value→H} {w:World} {base:Nat} {spare:Nat→Bool} {held:Bool}
theorem open_lns {fuel:Nat} {cs:List Value} {x:DataW H × List MemPlace} (h:DataW.trod enc Tryz.prog w base spare held fuel 29 cs=some x) (hw:Reach Tryz.prog 29 x.1) :
  ∃ (A:Option Addr) (cap:Nat) (l:List Or.Ln),cs=[.slice A l.length cap]∧Rd w A (l.flatMap Or.enL)∧(∀ x ∈ l,i64L x)∧l.length * 16≤140737488351232∧l.length≤cap∧cap≤maxLen:=by
 obtain ⟨A,len,cap,xs,rfl,hlc,hcm,hxl,hR,hall,hd⟩:=open_flat Tryz.underlying29 flatLn (by decide) h
 obtain ⟨l,rfl,rfl,ok⟩:=flat_list (ks:=[.int .i64,.int .i64]) (en:=Or.enL) (ok:=i64L) decLn len xs hxl hall
 refine ⟨A,cap,l,rfl,hR,ok, ?_,hlc,hcm⟩
 rcases hd with hd | ⟨elems,sp,hd,hel⟩
 ·omega
 ·have:=hw _ (by rw [hd]; exact weights_len Tryz.underlying29)
  rw [bytesLn] at this
  simp only [reachBytes] at this
  omega
theorem open_dop (fuel:Nat) (cs:List Value) (x:DataW H × List MemPlace) (hl:cs.length=7) (h:DataW.trod enc Tryz.prog w base spare held fuel 31 cs=some x) (hw:Reach Tryz.prog 31 x.1) :
  ∃ p:DOp,cs=enDo p∧OkDo w p:=by
 obtain ⟨n,ys,hx,hyl,hf⟩:=open_fields Tryz.underlying31 (by kernel_rfl) hl h
 obtain ⟨u0,y0,c0,e0,t0⟩:=hf 0 _ rfl
 obtain ⟨u1,y1,c1,e1,t1⟩:=hf 1 _ rfl
 obtain ⟨u2,y2,c2,e2,t2⟩:=hf 2 _ rfl
 obtain ⟨u3,y3,c3,e3,t3⟩:=hf 3 _ rfl
 obtain ⟨u4,y4,c4,e4,t4⟩:=hf 4 _ rfl
 obtain ⟨u5,y5,c5,e5,t5⟩:=hf 5 _ rfl
 obtain ⟨u6,y6,c6,e6,t6⟩:=hf 6 _ rfl
 obtain ⟨k0,hv0,_,hw0⟩:=DataW.trod_int Tryz.underlying3 t0
 obtain ⟨k1,hv1,_,hw1⟩:=DataW.trod_int Tryz.underlying3 t1
 obtain ⟨k2,hv2,_,hw2⟩:=DataW.trod_int Tryz.underlying3 t2
 obtain ⟨k3,hv3,_,hw3⟩:=DataW.trod_int Tryz.underlying3 t3
 obtain ⟨k4,hv4,_,hw4⟩:=DataW.trod_string Tryz.underlying9 t4
 obtain ⟨k5,hv5,_⟩:=DataW.trod_bool Tryz.underlying4 t5
 simp only [List.cons.injEq,and_true] at hv0 hv1 hv2 hv3 hv4 hv5
 subst hv0 hv1 hv2 hv3 hv4 hv5
 obtain ⟨A,cap,l,hc,hR,ok,hlen,hroom,hcm⟩:=open_lns t6 (fun y hy=>hw y (by rw [hx]; exact weights_field (j:=6) Tryz.underlying31 rfl (by rw [List.getElem?_map,e6]; rfl) hy))
 simp only [List.cons.injEq,and_true] at hc
 subst hc
 match cs,hl with
 | [a,b,c,d,e,f,g],_ =>
  simp at c0 c1 c2 c3 c4 c5 c6
  subst c0 c1 c2 c3 c4 c5 c6
  exact ⟨⟨k0,k1,k2,k3,k4,k5,A,cap,l⟩,rfl,hR,ok,hlen,hroom,hcm,hw4,hw0,hw1,hw2,hw3⟩
end
end Go.Proofs.YtakaalldbnklcaaGreat
namespace Go.Proofs.YtakaalldbnklcaaGreat
open Go.RowKit Go.WideShapes Go.ChangeShapes Go.ChangeAt Go.Deep
set_option linter.unusedVariables false
def StepR (o:DOp) (x x':DkX) (a:Bool × Int × Bool × Bool):Prop :=
 (o.kd=1∧DoR o.ky o.st o.tr o.vb o.un x x' a)∨(o.kd ≠ 1∧x'.m=x.m∧a=(false,0,false,false))
def TPD:List TypeId:=TP++TD
def StepPost20 (n0 base K:Nat) (I:DkI) (x:DkX) (J:RdI) (o:DOp) (w:World) (e:Ending) (w':World):Prop :=
 ∃ (a:Bool × Int × Bool × Bool) (x':DkX) (y':RdX),e = .returned (.tuple #[vAns a.1 a.2.1 a.2.2.1 a.2.2.2,.bool true])∧DK n0 base K w' I x' J y'∧StepR o x x' a∧Touch (KindIn n0 w TPD I.maps) w w'
section
variable {n0 base K:Nat} {w w1 w' w2:World} {I:DkI} {x x':DkX} {J:RdI} {y y':RdX}
theorem Touch.tp {M:List Nat} (h:Touch (KindIn n0 w TP M) w w'):Touch (KindIn n0 w TPD M) w w':=h.mono (fun k hk=>hk.mono (fun t ht=>List.mem_append_left _ ht) (fun m hm=>hm))
theorem Touch.td {M:List Nat} (h:Touch (KindIn n0 w TD []) w w'):Touch (KindIn n0 w TPD M) w w':=h.mono (fun k hk=>hk.mono (fun t ht=>List.mem_append_right _ ht) (fun m hm=>by cases hm))
structure OpA (w:World) (o:DOp) (G A:Nat):Prop where
 g:Blk w G 31 #[.int .i64 o.kd,.int .i64 o.ky,.int .i64 o.st,.int .i64 o.tr,.string o.vb,.bool o.un,.slice o.A o.ls.length o.cap]
 a:Blk w A 33 #[.bool false,.int .i64 0,.bool false,.bool false]
theorem saleB_len20:(⟨#[115,97,108,101]⟩:ByteArray).size≤maxLen:=by unfold maxLen; decide
theorem DK.answer {G:Nat} {cs:Array Value} (h:DK n0 base K w I x J y) (hB:Blk w G 33 cs) (hT:Touch (· = G) w w'):DK n0 base K w' I x J y :=
 have hk:Touch (KindIn 0 w [33] []) w w':=hT.kind (fun k _ hk=>by rw [hk]; exact KindIn.of_blk hB (List.mem_singleton.2 rfl) (Nat.zero_le _))
 ⟨h.p.away hk (by decide) (fun m _=>by simp),h.r.away hk (by decide),h.ok,h.oo⟩
theorem OpA.next {o:DOp} {G A:Nat} (h:OpA w o G A) (hb:Below w.heap.size w w'):OpA w' o G A:=⟨h.g.next hb,h.a.next hb⟩
theorem OpA.tp {o:DOp} {G A:Nat} {M:List Nat} (h:OpA w o G A) (hT:Touch (KindIn n0 w TP M) w w'):OpA w' o G A:=⟨hT.blk h.g (KindIn.not_blk h.g (by decide)),hT.blk h.a (KindIn.not_blk h.a (by decide))⟩
theorem OpA.td {o:DOp} {G A:Nat} (h:OpA w o G A) (hT:Touch (KindIn n0 w TD []) w w'):OpA w' o G A:=⟨hT.blk h.g (KindIn.not_blk h.g (by decide)),hT.blk h.a (KindIn.not_blk h.a (by decide))⟩
end
set_option maxRecDepth 100000 in
set_option maxHeartbeats 16000000 in
theorem step_any {n0 base K:Nat} {w:World} {I:DkI} {x:DkX} {J:RdI} {y:RdX} (h:DK n0 base K w I x J y) (hK:K + 1≤1900000000000) (o:DOp) (ho:OkDo w o) (hlow:∀ w',Touch (fun k=>n0≤k) w w'→Rd w' o.A (o.ls.flatMap Or.enL)) :
  Calls Tryz.prog 10 #[.pointer (some ⟨I.D,0,none⟩),.pointer (some ⟨J.R,0,none⟩),.agg #[.int .i64 o.kd,.int .i64 o.ky,.int .i64 o.st,.int .i64 o.tr,.string o.vb,.bool o.un,.slice o.A o.ls.length o.cap]] w (StepPost20 n0 base (K + 1) I x J o w):=by
 have hwa:Below w.heap.size w (w.alloc (.cells #[.int .i64 o.kd,.int .i64 o.ky,.int .i64 o.st,.int .i64 o.tr,.string o.vb,.bool o.un,.slice o.A o.ls.length o.cap] 31)):=(Below.refl _ _).alloc (Nat.le_refl _) _
 have hwb:Below w.heap.size w ((w.alloc (.cells #[.int .i64 o.kd,.int .i64 o.ky,.int .i64 o.st,.int .i64 o.tr,.string o.vb,.bool o.un,.slice o.A o.ls.length o.cap] 31)).alloc (.cells #[.bool false,.int .i64 0,.bool false,.bool false] 33)):=hwa.alloc (by simp) _
 have hg:=(Blk.new w 31 #[.int .i64 o.kd,.int .i64 o.ky,.int .i64 o.st,.int .i64 o.tr,.string o.vb,.bool o.un,.slice o.A o.ls.length o.cap]).alloc (.cells #[.bool false,.int .i64 0,.bool false,.bool false] 33)
 have ha:=Blk.new (w.alloc (.cells #[.int .i64 o.kd,.int .i64 o.ky,.int .i64 o.st,.int .i64 o.tr,.string o.vb,.bool o.un,.slice o.A o.ls.length o.cap] 31)) 33 #[.bool false,.int .i64 0,.bool false,.bool false]
 rw [World.size_alloc] at ha
 have HN:=hid h.p.lo.2.2
 have H:=hid (h.next hwb)
 have HO:=hid (ho.next hwb)
 have HLOW:=hid hlow
 have HWB:=hid (show Touch (KindIn n0 w TPD I.maps) w _ from .of_below hwb)
 go_enter Tryz.func10,Tryz.ntmps10
 clear h ho hlow hwa hwb
 obtain ⟨G,hG⟩:∃ G,G=w.heap.size:=⟨_,rfl⟩
 obtain ⟨W,hW⟩:∃ W,W=(w.alloc (.cells #[.int .i64 o.kd,.int .i64 o.ky,.int .i64 o.st,.int .i64 o.tr,.string o.vb,.bool o.un,.slice o.A o.ls.length o.cap] 31)).alloc (.cells #[.bool false,.int .i64 0,.bool false,.bool false] 33):=⟨_,rfl⟩
 rw [← hG] at hg ha
 rw [← hW] at hg ha H HO HWB
 have HA:=hid (OpA.mk hg ha)
 have HTB:=HWB
 clear HWB
 go_upto_region 1 with fail
 rw [← hW, ← hG]
 have HGN:=hid (show w.heap.size≤G + 1 by omega)
 clear hW hg ha
 obtain ⟨kd,ky,st,tr,vb,un,A,cap,ls⟩:=o
 simp only at H HO HA HLOW HTB ⊢
 have hg:=HA.out.g
 have g0:W.cell? ⟨G,0,none⟩=some (.int .i64 kd):=hg.cell 0
 have lG:=hg.lt
 clear hg hG
 go_upto_block 0 with fail
 clear g0 lG
 by_cases h1:kd=1
 ·subst h1
  as_aux_lemma =>
  have K1:=hid (dk_do H.out hK ky st tr HO.out.i64.2.1 vb un)
  have hg:=HA.out.g
  have g1:W.cell? ⟨G,1,none⟩=some (.int .i64 ky):=hg.cell 1
  have g2:W.cell? ⟨G,2,none⟩=some (.int .i64 st):=hg.cell 2
  have g3:W.cell? ⟨G,3,none⟩=some (.int .i64 tr):=hg.cell 3
  have g4:W.cell? ⟨G,4,none⟩=some (.string vb):=hg.cell 4
  have g5:W.cell? ⟨G,5,none⟩=some (.bool un):=hg.cell 5
  have lG:=hg.lt
  clear hg
  go_wp2_with fail
  refine K1.out.mono ?_
  rintro e w1 ⟨⟨a1,a2,a3,a4⟩,x1,rfl,hP,hR,hD,hT,hN⟩
  simp only at hN ⊢
  clear g1 g2 g3 g4 g5 lG K1
  have hba:Below w1.heap.size w1 (w1.alloc (.cells #[.bool a1,.int .i64 a2,.bool a3,.bool a4] 33)):=(Below.refl _ _).alloc (Nat.le_refl _) _
  have hB8:=Blk.new w1 33 #[.bool a1,.int .i64 a2,.bool a3,.bool a4]
  have K2:=hid (hN _ hba)
  have hA1:=(HA.out.tp hT).next hba
  have hlt8:=(HA.out.tp hT).a.lt
  have HTT:=hid (And.intro ((Touch.kinds HTB.out hT.tp).trans (.of_below (S:=fun _=>False) hba) (fun k hk=>hk.elim)) (And.intro hP (And.intro hR hD)))
  clear hP hR hD hT hN hba
  obtain ⟨G8,hG8⟩:∃ G8,G8=w1.heap.size:=⟨_,rfl⟩
  obtain ⟨W8,hW8⟩:∃ W8,W8=w1.alloc (.cells #[.bool a1,.int .i64 a2,.bool a3,.bool a4] 33):=⟨_,rfl⟩
  rw [← hG8] at hB8
  rw [← hW8] at hB8 K2 hA1 HTT
  simp only [vAns]
  go_upto_region 4 with fail
  rw [← hW8, ← hG8]
  have n8:G + 1 < G8:=by rw [hG8]; exact hlt8
  clear hG8 hW8 hlt8
  have hg:=hA1.g
  have g1:W8.cell? ⟨G,1,none⟩=some (.int .i64 ky):=hg.cell 1
  have g2:W8.cell? ⟨G,2,none⟩=some (.int .i64 st):=hg.cell 2
  have g3:W8.cell? ⟨G,3,none⟩=some (.int .i64 tr):=hg.cell 3
  have g4:W8.cell? ⟨G,4,none⟩=some (.string vb):=hg.cell 4
  have g5:W8.cell? ⟨G,5,none⟩=some (.bool un):=hg.cell 5
  have lG:=hg.lt
  have HAA:=hid (And.intro hA1 hB8)
  clear hg hA1 hB8
  go_wp2_with fail
  refine K2.out.mono ?_
  rintro e w3 ⟨rfl,y',hDK,hT3⟩
  simp only [vAns]
  clear g1 g2 g3 g4 g5 lG K2
  have hba:Below w3.heap.size w3 (w3.alloc (.cells #[.bool a1,.int .i64 a2,.bool a3,.bool a4] 59)):=(Below.refl _ _).alloc (Nat.le_refl _) _
  have hB9:=Blk.new w3 59 #[.bool a1,.int .i64 a2,.bool a3,.bool a4]
  have hB8:=(hT3.blk HAA.out.2 (KindIn.not_blk HAA.out.2 (by decide))).next hba
  have hA3:=(HAA.out.1.td hT3).next hba
  have HD:=hid (And.intro (hDK.next hba) ((Touch.kinds HTT.out.1 hT3.td).trans (.of_below (S:=fun _=>False) hba) (fun k hk=>hk.elim)))
  have HDR:=hid HTT.out.2.2.2
  have hlt9:=(HAA.out.1.td hT3).a.lt
  have HN3:=hid hDK.p.lo.2.2
  clear hDK hT3 hba HAA HTT
  obtain ⟨G9,hG9⟩:∃ G9,G9=w3.heap.size:=⟨_,rfl⟩
  obtain ⟨W9,hW9⟩:∃ W9,W9=w3.alloc (.cells #[.bool a1,.int .i64 a2,.bool a3,.bool a4] 59):=⟨_,rfl⟩
  rw [← hG9] at hB9
  rw [← hW9] at hB9 hB8 hA3 HD
  go_upto_region 5 with fail
  rw [← hW9, ← hG9]
  have n9:G + 1 < G9:=by rw [hG9]; exact hlt9
  clear hG9 hW9 hlt9
  have p0:W9.cell? ⟨G8,0,none⟩=some (.bool a1):=hB8.cell 0
  have p1:W9.cell? ⟨G8,1,none⟩=some (.int .i64 a2):=hB8.cell 1
  have p2:W9.cell? ⟨G8,2,none⟩=some (.bool a3):=hB8.cell 2
  have p3:W9.cell? ⟨G8,3,none⟩=some (.bool a4):=hB8.cell 3
  have q0:W9.cell? ⟨G9,0,none⟩=some (.bool a1):=hB9.cell 0
  have q1:W9.cell? ⟨G9,1,none⟩=some (.int .i64 a2):=hB9.cell 1
  have q2:W9.cell? ⟨G9,2,none⟩=some (.bool a3):=hB9.cell 2
  have q3:W9.cell? ⟨G9,3,none⟩=some (.bool a4):=hB9.cell 3
  have e1:(a1 == a1)=true:=by simp
  have e2:(a2 == a2)=true:=by simp
  have e3:(a3 == a3)=true:=by simp
  have e4:(a4 == a4)=true:=by simp
  have ha:=hA3.a
  have r0:W9.cell? ⟨G + 1,0,none⟩=some (.bool false):=ha.cell 0
  have r1:W9.cell? ⟨G + 1,1,none⟩=some (.int .i64 0):=ha.cell 1
  have r2:W9.cell? ⟨G + 1,2,none⟩=some (.bool false):=ha.cell 2
  have r3:W9.cell? ⟨G + 1,3,none⟩=some (.bool false):=ha.cell 3
  have f0:=ha.free 0
  have f1:=ha.free 1
  have f2:=ha.free 2
  have f3:=ha.free 3
  have lA:=ha.lt
  have l8:=hB8.lt
  have l9:=hB9.lt
  have H9:=hid (And.intro ha HD.out)
  clear ha hA3 hB8 hB9 HD H HO HA HLOW HN3 HN
  go_region
  go_wp2_with fail
  have hT:=(((Touch.setCell W9 (G + 1) 0 (.bool a1)).then (Touch.setCell _ (G + 1) 1 (.int .i64 a2))).then (Touch.setCell _ (G + 1) 2 (.bool a3))).then (Touch.setCell _ (G + 1) 3 (.bool a4))
  have hB:=(((H9.out.1.set_ 0 (.bool a1)).set_ 1 (.int .i64 a2)).set_ 2 (.bool a3)).set_ 3 (.bool a4)
  have HF:=hid (And.intro (H9.out.2.1.answer H9.out.1 hT.drew) (H9.out.2.2.trans hT.drew (fun k hk => .inr (by rw [hk]; exact HGN.out))))
  replace hB:=hB.next (Below.refl _ _).drew
  generalize ((((W9.setCell ⟨G + 1,0,none⟩ (.bool a1)).setCell ⟨G + 1,1,none⟩ (.int .i64 a2)).setCell ⟨G + 1,2,none⟩ (.bool a3)).setCell ⟨G + 1,3,none⟩ (.bool a4)).drew=wf at *
  have e0:wf.cell? ⟨G + 1,0,none⟩=some (.bool a1):=hB.cell 0
  have e1:wf.cell? ⟨G + 1,1,none⟩=some (.int .i64 a2):=hB.cell 1
  have e2:wf.cell? ⟨G + 1,2,none⟩=some (.bool a3):=hB.cell 2
  have e3:wf.cell? ⟨G + 1,3,none⟩=some (.bool a4):=hB.cell 3
  refine bodyPost_ret (v:=.tuple #[vAns a1 a2 a3 a4,.bool true]) (by simp [results,Tryz.results10,go_sem,e0,e1,e2,e3]; rfl) rfl ⟨(a1,a2,a3,a4),x1,y',rfl,HF.out.1,.inl ⟨rfl,HDR.out⟩,HF.out.2⟩
 ·go_cut [] (fun wx=>∃ (x':DkX) (y':RdX),Hid (DK n0 base (K + 1) wx I x' J y'∧x'.m=x.m∧Touch (KindIn n0 w TPD I.maps) w wx∧OpA wx ⟨kd,ky,st,tr,vb,un,A,cap,ls⟩ G (G + 1)))
  case first =>
   have b1:decide (kd=1)=false:=decide_eq_false h1
   have HC:=hid (And.intro H.out (And.intro HA.out HTB.out))
   clear H HA
   by_cases h2:kd=2
   ·subst h2
    clear b1 h1
    have K1:=hid (fun w' (hb:Below W.heap.size W w')=>dk_cust (HC.out.1.next hb) ky tr)
    go_upto_region 7 with fail
    have c0:W.drew.cell? ⟨I.D,0,none⟩=some (.pointer (some ⟨I.XC,0,none⟩))∧W.drew.cell? ⟨G,1,none⟩=some (.int .i64 ky)∧W.drew.cell? ⟨G,3,none⟩=some (.int .i64 tr):=⟨(HC.out.1.next (Below.refl _ _).drew).p.blk.cell 0,(HC.out.2.1.next (Below.refl _ _).drew).g.cell 1,(HC.out.2.1.next (Below.refl _ _).drew).g.cell 3⟩
    go_region_held3 (fun w'=>w'.cell? ⟨I.D,0,none⟩=some (.pointer (some ⟨I.XC,0,none⟩))∧w'.cell? ⟨G,1,none⟩=some (.int .i64 ky)∧w'.cell? ⟨G,3,none⟩=some (.int .i64 tr)) (first | exact c1 | exact c0) ((go_at_call 16; refine (K1.out _ (Below.refl _ _).drew).mono ?_; rintro e w1 ⟨⟨v,rfl⟩,x2,hm,hP,hR,hT,hN⟩; have hA1:=(HC.out.2.1.next (Below.refl _ _).drew).tp hT; have c1:w1.cell? ⟨I.D,0,none⟩=some (.pointer (some ⟨I.XC,0,none⟩))∧w1.cell? ⟨G,1,none⟩=some (.int .i64 ky)∧w1.cell? ⟨G,3,none⟩=some (.int .i64 tr):=⟨hP.blk.cell 0,hA1.g.cell 1,hA1.g.cell 3⟩))
    all_goals
     have HM:=hid (And.intro hm (And.intro hP (And.intro hR (And.intro hA1 (And.intro (Touch.kinds HC.out.2.2.drew hT.tp) hN)))))
     clear c0 c1 K1 hm hP hR hA1 hT hN HC
     go_upto_region 8 with fail
     have c0:w1.drew.cell? ⟨J.R,0,none⟩=some (.pointer (some ⟨J.RC,0,none⟩))∧w1.drew.cell? ⟨G,1,none⟩=some (.int .i64 ky)∧w1.drew.cell? ⟨G,3,none⟩=some (.int .i64 tr):=⟨(HM.out.2.2.1.next (Below.refl _ _).drew).blk.cell 0,(HM.out.2.2.2.1.next (Below.refl _ _).drew).g.cell 1,(HM.out.2.2.2.1.next (Below.refl _ _).drew).g.cell 3⟩
     go_region_held3 (fun w'=>w'.cell? ⟨J.R,0,none⟩=some (.pointer (some ⟨J.RC,0,none⟩))∧w'.cell? ⟨G,1,none⟩=some (.int .i64 ky)∧w'.cell? ⟨G,3,none⟩=some (.int .i64 tr)) (first | exact c1 | exact c0) ((go_at_call 25; refine (HM.out.2.2.2.2.2 _ (Below.refl _ _).drew).mono ?_; rintro e w3 ⟨⟨v,rfl⟩,y2,hDK,hT⟩; have hA1:=(HM.out.2.2.2.1.next (Below.refl _ _).drew).td hT; have c1:w3.cell? ⟨J.R,0,none⟩=some (.pointer (some ⟨J.RC,0,none⟩))∧w3.cell? ⟨G,1,none⟩=some (.int .i64 ky)∧w3.cell? ⟨G,3,none⟩=some (.int .i64 tr):=⟨hDK.r.blk.cell 0,hA1.g.cell 1,hA1.g.cell 3⟩))
     all_goals
      have HC:=hid (And.intro hDK (And.intro hA1 (Touch.kinds HM.out.2.2.2.2.1.drew hT.td)))
      have HMM:=hid HM.out.1
      clear c0 c1 hDK hA1 hT HM
      obtain ⟨W2,hW2⟩:∃ W2,W2=w3:=⟨_,rfl⟩
      rw [← hW2] at HC ⊢
      clear hW2
      go_wp2_with fail
      go_meet
      exact ⟨x2,y2,hid ⟨HC.out.1.up (Nat.le_succ K) hK,HMM.out,HC.out.2.2,HC.out.2.1⟩⟩
   ·have b2 : decide (kd=2)=false:=decide_eq_false h2
    by_cases h3:kd=3
    ·subst h3
     clear b1 h1 h2 b2
     have K1:=hid (fun w' (hb:Below W.heap.size W w')=>dk_price (HC.out.1.next hb) ky tr)
     go_upto_region 10 with fail
     have c0:W.drew.cell? ⟨I.D,3,none⟩=some (.pointer (some ⟨I.XO,0,none⟩))∧W.drew.cell? ⟨G,1,none⟩=some (.int .i64 ky)∧W.drew.cell? ⟨G,3,none⟩=some (.int .i64 tr):=⟨(HC.out.1.next (Below.refl _ _).drew).p.blk.cell 3,(HC.out.2.1.next (Below.refl _ _).drew).g.cell 1,(HC.out.2.1.next (Below.refl _ _).drew).g.cell 3⟩
     go_region_held3 (fun w'=>w'.cell? ⟨I.D,3,none⟩=some (.pointer (some ⟨I.XO,0,none⟩))∧w'.cell? ⟨G,1,none⟩=some (.int .i64 ky)∧w'.cell? ⟨G,3,none⟩=some (.int .i64 tr)) (first | exact c1 | exact c0) ((go_at_call 17; refine (K1.out _ (Below.refl _ _).drew).mono ?_; rintro e w1 ⟨⟨v,rfl⟩,x31,hm,hP,hR,hT,hN⟩; have hA1:=(HC.out.2.1.next (Below.refl _ _).drew).tp hT; have c1:w1.cell? ⟨I.D,3,none⟩=some (.pointer (some ⟨I.XO,0,none⟩))∧w1.cell? ⟨G,1,none⟩=some (.int .i64 ky)∧w1.cell? ⟨G,3,none⟩=some (.int .i64 tr):=⟨hP.blk.cell 3,hA1.g.cell 1,hA1.g.cell 3⟩))
     all_goals
      have HM:=hid (And.intro hm (And.intro hP (And.intro hR (And.intro hA1 (And.intro (Touch.kinds HC.out.2.2.drew hT.tp) hN)))))
      clear c0 c1 K1 hm hP hR hA1 hT hN HC
      go_upto_region 11 with fail
      have c0:w1.drew.cell? ⟨J.R,3,none⟩=some (.pointer (some ⟨J.RO,0,none⟩))∧w1.drew.cell? ⟨G,1,none⟩=some (.int .i64 ky)∧w1.drew.cell? ⟨G,3,none⟩=some (.int .i64 tr):=⟨(HM.out.2.2.1.next (Below.refl _ _).drew).blk.cell 3,(HM.out.2.2.2.1.next (Below.refl _ _).drew).g.cell 1,(HM.out.2.2.2.1.next (Below.refl _ _).drew).g.cell 3⟩
      go_region_held3 (fun w'=>w'.cell? ⟨J.R,3,none⟩=some (.pointer (some ⟨J.RO,0,none⟩))∧w'.cell? ⟨G,1,none⟩=some (.int .i64 ky)∧w'.cell? ⟨G,3,none⟩=some (.int .i64 tr)) (first | exact c1 | exact c0) ((go_at_call 26; refine (HM.out.2.2.2.2.2 _ (Below.refl _ _).drew).mono ?_; rintro e w3 ⟨⟨v,rfl⟩,y31,hDK,hT⟩; have hA1:=(HM.out.2.2.2.1.next (Below.refl _ _).drew).td hT; have c1:w3.cell? ⟨J.R,3,none⟩=some (.pointer (some ⟨J.RO,0,none⟩))∧w3.cell? ⟨G,1,none⟩=some (.int .i64 ky)∧w3.cell? ⟨G,3,none⟩=some (.int .i64 tr):=⟨hDK.r.blk.cell 3,hA1.g.cell 1,hA1.g.cell 3⟩))
      all_goals
       have HC:=hid (And.intro hDK (And.intro hA1 (Touch.kinds HM.out.2.2.2.2.1.drew hT.td)))
       have HMM:=hid HM.out.1
       clear c0 c1 hDK hA1 hT HM
       obtain ⟨W31,hW31⟩:∃ W31,W31=w3:=⟨_,rfl⟩
       rw [← hW31] at HC ⊢
       clear hW31
       have K1:=hid (fun w' (hb:Below W31.heap.size W31 w')=>dk_item (HC.out.1.next hb) ky)
       go_upto_region 12 with fail
       have c0:W31.drew.cell? ⟨I.D,1,none⟩=some (.pointer (some ⟨I.XS,0,none⟩))∧W31.drew.cell? ⟨G,1,none⟩=some (.int .i64 ky):=⟨(HC.out.1.next (Below.refl _ _).drew).p.blk.cell 1,(HC.out.2.1.next (Below.refl _ _).drew).g.cell 1⟩
       go_region_held3 (fun w'=>w'.cell? ⟨I.D,1,none⟩=some (.pointer (some ⟨I.XS,0,none⟩))∧w'.cell? ⟨G,1,none⟩=some (.int .i64 ky)) (first | exact c1 | exact c0) ((go_at_call 27; refine (K1.out _ (Below.refl _ _).drew).mono ?_; rintro e w1 ⟨⟨v,rfl⟩,x32,hm,hP,hR,hT,hN⟩; have hA1:=(HC.out.2.1.next (Below.refl _ _).drew).tp hT; have c1:w1.cell? ⟨I.D,1,none⟩=some (.pointer (some ⟨I.XS,0,none⟩))∧w1.cell? ⟨G,1,none⟩=some (.int .i64 ky):=⟨hP.blk.cell 1,hA1.g.cell 1⟩))
       all_goals
        have HM:=hid (And.intro (hm.trans HMM.out) (And.intro hP (And.intro hR (And.intro hA1 (And.intro (Touch.kinds HC.out.2.2.drew hT.tp) hN)))))
        clear c0 c1 K1 hm hP hR hA1 hT hN HC HMM
        go_upto_region 13 with fail
        have c0:w1.drew.cell? ⟨J.R,1,none⟩=some (.pointer (some ⟨J.RS,0,none⟩))∧w1.drew.cell? ⟨G,1,none⟩=some (.int .i64 ky):=⟨(HM.out.2.2.1.next (Below.refl _ _).drew).blk.cell 1,(HM.out.2.2.2.1.next (Below.refl _ _).drew).g.cell 1⟩
        go_region_held3 (fun w'=>w'.cell? ⟨J.R,1,none⟩=some (.pointer (some ⟨J.RS,0,none⟩))∧w'.cell? ⟨G,1,none⟩=some (.int .i64 ky)) (first | exact c1 | exact c0) ((go_at_call 28; refine (HM.out.2.2.2.2.2 _ (Below.refl _ _).drew).mono ?_; rintro e w3 ⟨⟨v,rfl⟩,y32,hDK,hT⟩; have hA1:=(HM.out.2.2.2.1.next (Below.refl _ _).drew).td hT; have c1:w3.cell? ⟨J.R,1,none⟩=some (.pointer (some ⟨J.RS,0,none⟩))∧w3.cell? ⟨G,1,none⟩=some (.int .i64 ky):=⟨hDK.r.blk.cell 1,hA1.g.cell 1⟩))
        all_goals
         have HC:=hid (And.intro hDK (And.intro hA1 (Touch.kinds HM.out.2.2.2.2.1.drew hT.td)))
         have HMM:=hid HM.out.1
         clear c0 c1 hDK hA1 hT HM
         obtain ⟨W32,hW32⟩:∃ W32,W32=w3:=⟨_,rfl⟩
         rw [← hW32] at HC ⊢
         clear hW32
         have K1:=hid (fun w' (hb:Below W32.heap.size W32 w')=>dk_recv (HC.out.1.next hb) ky st)
         go_upto_region 14 with fail
         have c0:W32.drew.cell? ⟨I.D,1,none⟩=some (.pointer (some ⟨I.XS,0,none⟩))∧W32.drew.cell? ⟨G,1,none⟩=some (.int .i64 ky)∧W32.drew.cell? ⟨G,2,none⟩=some (.int .i64 st):=⟨(HC.out.1.next (Below.refl _ _).drew).p.blk.cell 1,(HC.out.2.1.next (Below.refl _ _).drew).g.cell 1,(HC.out.2.1.next (Below.refl _ _).drew).g.cell 2⟩
         go_region_held3 (fun w'=>w'.cell? ⟨I.D,1,none⟩=some (.pointer (some ⟨I.XS,0,none⟩))∧w'.cell? ⟨G,1,none⟩=some (.int .i64 ky)∧w'.cell? ⟨G,2,none⟩=some (.int .i64 st)) (first | exact c1 | exact c0) ((go_at_call 29; refine (K1.out _ (Below.refl _ _).drew).mono ?_; rintro e w1 ⟨⟨v,rfl⟩,x33,hm,hP,hR,hT,hN⟩; have hA1:=(HC.out.2.1.next (Below.refl _ _).drew).tp hT; have c1:w1.cell? ⟨I.D,1,none⟩=some (.pointer (some ⟨I.XS,0,none⟩))∧w1.cell? ⟨G,1,none⟩=some (.int .i64 ky)∧w1.cell? ⟨G,2,none⟩=some (.int .i64 st):=⟨hP.blk.cell 1,hA1.g.cell 1,hA1.g.cell 2⟩))
         all_goals
          have HM:=hid (And.intro (hm.trans HMM.out) (And.intro hP (And.intro hR (And.intro hA1 (And.intro (Touch.kinds HC.out.2.2.drew hT.tp) hN)))))
          clear c0 c1 K1 hm hP hR hA1 hT hN HC HMM
          go_upto_region 15 with fail
          have c0:w1.drew.cell? ⟨J.R,1,none⟩=some (.pointer (some ⟨J.RS,0,none⟩))∧w1.drew.cell? ⟨G,1,none⟩=some (.int .i64 ky)∧w1.drew.cell? ⟨G,2,none⟩=some (.int .i64 st):=⟨(HM.out.2.2.1.next (Below.refl _ _).drew).blk.cell 1,(HM.out.2.2.2.1.next (Below.refl _ _).drew).g.cell 1,(HM.out.2.2.2.1.next (Below.refl _ _).drew).g.cell 2⟩
          go_region_held3 (fun w'=>w'.cell? ⟨J.R,1,none⟩=some (.pointer (some ⟨J.RS,0,none⟩))∧w'.cell? ⟨G,1,none⟩=some (.int .i64 ky)∧w'.cell? ⟨G,2,none⟩=some (.int .i64 st)) (first | exact c1 | exact c0) ((go_at_call 30; refine (HM.out.2.2.2.2.2 _ (Below.refl _ _).drew).mono ?_; rintro e w3 ⟨⟨v,rfl⟩,y33,hDK,hT⟩; have hA1:=(HM.out.2.2.2.1.next (Below.refl _ _).drew).td hT; have c1:w3.cell? ⟨J.R,1,none⟩=some (.pointer (some ⟨J.RS,0,none⟩))∧w3.cell? ⟨G,1,none⟩=some (.int .i64 ky)∧w3.cell? ⟨G,2,none⟩=some (.int .i64 st):=⟨hDK.r.blk.cell 1,hA1.g.cell 1,hA1.g.cell 2⟩))
          all_goals
           have HC:=hid (And.intro hDK (And.intro hA1 (Touch.kinds HM.out.2.2.2.2.1.drew hT.td)))
           have HMM:=hid HM.out.1
           clear c0 c1 hDK hA1 hT HM
           obtain ⟨W33,hW33⟩:∃ W33,W33=w3:=⟨_,rfl⟩
           rw [← hW33] at HC ⊢
           clear hW33
           go_wp2_with fail
           go_meet
           exact ⟨x33,y33,hid ⟨HC.out.1.up (Nat.le_succ K) hK,HMM.out,HC.out.2.2,HC.out.2.1⟩⟩
    ·have b3:decide (kd=3)=false:=decide_eq_false h3
     by_cases h4:kd=4
     ·subst h4
      clear b1 h1 h2 b2 h3 b3
      have K1:=hid (dk_add (HC.out.1.next (Below.refl _ _).drew) ky st ⟨#[115,97,108,101]⟩ A cap ls saleB_len20 ((HO.out.rd).below (Below.refl _ _).drew) HO.out.room HO.out.cap)
      go_upto_region 17 with fail
      have c0:W.drew.cell? ⟨I.D,3,none⟩=some (.pointer (some ⟨I.XO,0,none⟩))∧W.drew.cell? ⟨G,1,none⟩=some (.int .i64 ky)∧W.drew.cell? ⟨G,2,none⟩=some (.int .i64 st)∧W.drew.cell? ⟨G,6,none⟩=some (.slice A ls.length cap):=⟨(HC.out.1.next (Below.refl _ _).drew).p.blk.cell 3,(HC.out.2.1.next (Below.refl _ _).drew).g.cell 1,(HC.out.2.1.next (Below.refl _ _).drew).g.cell 2,(HC.out.2.1.next (Below.refl _ _).drew).g.cell 6⟩
      go_region_held3 (fun w'=>w'.cell? ⟨I.D,3,none⟩=some (.pointer (some ⟨I.XO,0,none⟩))∧w'.cell? ⟨G,1,none⟩=some (.int .i64 ky)∧w'.cell? ⟨G,2,none⟩=some (.int .i64 st)∧w'.cell? ⟨G,6,none⟩=some (.slice A ls.length cap)) (first | exact c1 | exact c0) ((go_at_call 18; refine K1.out.mono ?_; rintro e w1 ⟨⟨v,rfl⟩,x4,hm,hP,hR,hT,hN⟩; have hA1:=(HC.out.2.1.next (Below.refl _ _).drew).tp hT; have c1:w1.cell? ⟨I.D,3,none⟩=some (.pointer (some ⟨I.XO,0,none⟩))∧w1.cell? ⟨G,1,none⟩=some (.int .i64 ky)∧w1.cell? ⟨G,2,none⟩=some (.int .i64 st)∧w1.cell? ⟨G,6,none⟩=some (.slice A ls.length cap):=⟨hP.blk.cell 3,hA1.g.cell 1,hA1.g.cell 2,hA1.g.cell 6⟩))
      all_goals
       have hR1:=HLOW.out _ ((Touch.kinds HC.out.2.2.drew hT.tp).mono (fun k hk=>hk.1))
       have L1:=hid (lines20 ls A cap w1.drew (hR1.below (Below.refl _ _).drew) HO.out.len)
       have HM:=hid (And.intro hm (And.intro hP (And.intro hR (And.intro hA1 (And.intro (Touch.kinds HC.out.2.2.drew hT.tp) hN)))))
       clear c0 c1 K1 hm hP hR hA1 hT hN HC hR1
       go_upto_region 18 with fail
       have c0:w1.drew.cell? ⟨J.R,3,none⟩=some (.pointer (some ⟨J.RO,0,none⟩))∧w1.drew.cell? ⟨G,1,none⟩=some (.int .i64 ky)∧w1.drew.cell? ⟨G,2,none⟩=some (.int .i64 st)∧w1.drew.cell? ⟨G,6,none⟩=some (.slice A ls.length cap):=⟨(HM.out.2.2.1.next (Below.refl _ _).drew).blk.cell 3,(HM.out.2.2.2.1.next (Below.refl _ _).drew).g.cell 1,(HM.out.2.2.2.1.next (Below.refl _ _).drew).g.cell 2,(HM.out.2.2.2.1.next (Below.refl _ _).drew).g.cell 6⟩
       go_region_held3 (fun w'=>w'.cell? ⟨J.R,3,none⟩=some (.pointer (some ⟨J.RO,0,none⟩))∧w'.cell? ⟨G,1,none⟩=some (.int .i64 ky)∧w'.cell? ⟨G,2,none⟩=some (.int .i64 st)∧w'.cell? ⟨G,6,none⟩=some (.slice A ls.length cap)) (first | exact c2 | exact c1 | exact c0) ((first
        | (go_at_call 32; refine L1.out.mono ?_; rintro e w2 ⟨A2,cap2,rfl,hO2,hb2⟩; have c1:w2.cell? ⟨J.R,3,none⟩=some (.pointer (some ⟨J.RO,0,none⟩))∧w2.cell? ⟨G,1,none⟩=some (.int .i64 ky)∧w2.cell? ⟨G,2,none⟩=some (.int .i64 st)∧w2.cell? ⟨G,6,none⟩=some (.slice A ls.length cap):=⟨((HM.out.2.2.1.next (Below.refl _ _).drew).next hb2).blk.cell 3,((HM.out.2.2.2.1.next (Below.refl _ _).drew).next hb2).g.cell 1,((HM.out.2.2.2.1.next (Below.refl _ _).drew).next hb2).g.cell 2,((HM.out.2.2.2.1.next (Below.refl _ _).drew).next hb2).g.cell 6⟩)
        | (go_at_call 31; refine (HM.out.2.2.2.2.2 _ A2 cap2 (bthen (Below.refl _ _).drew hb2) (own_rd hO2)).mono ?_; rintro e w3 ⟨⟨v,rfl⟩,y4,hDK,hT⟩; have hA1:=((HM.out.2.2.2.1.next (Below.refl _ _).drew).next hb2).td hT; have c2:w3.cell? ⟨J.R,3,none⟩=some (.pointer (some ⟨J.RO,0,none⟩))∧w3.cell? ⟨G,1,none⟩=some (.int .i64 ky)∧w3.cell? ⟨G,2,none⟩=some (.int .i64 st)∧w3.cell? ⟨G,6,none⟩=some (.slice A ls.length cap):=⟨hDK.r.blk.cell 3,hA1.g.cell 1,hA1.g.cell 2,hA1.g.cell 6⟩)))
       all_goals
        have HC:=hid (And.intro hDK (And.intro hA1 (Touch.kinds (HM.out.2.2.2.2.1.drew.trans (.of_below (S:=fun _=>False) hb2) (fun k hk=>hk.elim)) hT.td)))
        have HMM:=hid HM.out.1
        clear c0 c1 c2 hDK hA1 hT HM hb2 hO2 L1
        go_wp2_with fail
        go_meet
        exact ⟨x4,y4,hid ⟨HC.out.1.up (Nat.le_succ K) hK,HMM.out,HC.out.2.2,HC.out.2.1⟩⟩
     ·have b4:decide (kd=4)=false:=decide_eq_false h4
      by_cases h5:kd=5
      ·subst h5
       clear b1 h1 h2 b2 h3 b3 h4 b4
       have K1:=hid (fun w' (hb:Below W.heap.size W w')=>dk_rcpt (HC.out.1.next hb) hK ky st tr HO.out.i64.2.2.2)
       go_upto_region 20 with fail
       have c0:W.drew.cell? ⟨I.D,2,none⟩=some (.pointer (some ⟨I.XM,0,none⟩))∧W.drew.cell? ⟨G,1,none⟩=some (.int .i64 ky)∧W.drew.cell? ⟨G,2,none⟩=some (.int .i64 st)∧W.drew.cell? ⟨G,3,none⟩=some (.int .i64 tr):=⟨(HC.out.1.next (Below.refl _ _).drew).p.blk.cell 2,(HC.out.2.1.next (Below.refl _ _).drew).g.cell 1,(HC.out.2.1.next (Below.refl _ _).drew).g.cell 2,(HC.out.2.1.next (Below.refl _ _).drew).g.cell 3⟩
       go_region_held3 (fun w'=>w'.cell? ⟨I.D,2,none⟩=some (.pointer (some ⟨I.XM,0,none⟩))∧w'.cell? ⟨G,1,none⟩=some (.int .i64 ky)∧w'.cell? ⟨G,2,none⟩=some (.int .i64 st)∧w'.cell? ⟨G,3,none⟩=some (.int .i64 tr)) (first | exact c1 | exact c0) ((go_at_call 33; refine (K1.out _ (Below.refl _ _).drew).mono ?_; rintro e w1 ⟨⟨v,rfl⟩,x5,hm,hP,hR,hT,hN⟩; have hA1:=(HC.out.2.1.next (Below.refl _ _).drew).tp hT; have c1:w1.cell? ⟨I.D,2,none⟩=some (.pointer (some ⟨I.XM,0,none⟩))∧w1.cell? ⟨G,1,none⟩=some (.int .i64 ky)∧w1.cell? ⟨G,2,none⟩=some (.int .i64 st)∧w1.cell? ⟨G,3,none⟩=some (.int .i64 tr):=⟨hP.blk.cell 2,hA1.g.cell 1,hA1.g.cell 2,hA1.g.cell 3⟩))
       all_goals
        have HM:=hid (And.intro hm (And.intro hP (And.intro hR (And.intro hA1 (And.intro (Touch.kinds HC.out.2.2.drew hT.tp) hN)))))
        clear c0 c1 K1 hm hP hR hA1 hT hN HC
        go_upto_region 21 with fail
        have c0:w1.drew.cell? ⟨J.R,2,none⟩=some (.pointer (some ⟨J.RM,0,none⟩))∧w1.drew.cell? ⟨G,1,none⟩=some (.int .i64 ky)∧w1.drew.cell? ⟨G,2,none⟩=some (.int .i64 st)∧w1.drew.cell? ⟨G,3,none⟩=some (.int .i64 tr):=⟨(HM.out.2.2.1.next (Below.refl _ _).drew).blk.cell 2,(HM.out.2.2.2.1.next (Below.refl _ _).drew).g.cell 1,(HM.out.2.2.2.1.next (Below.refl _ _).drew).g.cell 2,(HM.out.2.2.2.1.next (Below.refl _ _).drew).g.cell 3⟩
        go_region_held3 (fun w'=>w'.cell? ⟨J.R,2,none⟩=some (.pointer (some ⟨J.RM,0,none⟩))∧w'.cell? ⟨G,1,none⟩=some (.int .i64 ky)∧w'.cell? ⟨G,2,none⟩=some (.int .i64 st)∧w'.cell? ⟨G,3,none⟩=some (.int .i64 tr)) (first | exact c1 | exact c0) ((go_at_call 34; refine (HM.out.2.2.2.2.2 _ (Below.refl _ _).drew).mono ?_; rintro e w3 ⟨⟨v,rfl⟩,y5,hDK,hT⟩; have hA1:=(HM.out.2.2.2.1.next (Below.refl _ _).drew).td hT; have c1:w3.cell? ⟨J.R,2,none⟩=some (.pointer (some ⟨J.RM,0,none⟩))∧w3.cell? ⟨G,1,none⟩=some (.int .i64 ky)∧w3.cell? ⟨G,2,none⟩=some (.int .i64 st)∧w3.cell? ⟨G,3,none⟩=some (.int .i64 tr):=⟨hDK.r.blk.cell 2,hA1.g.cell 1,hA1.g.cell 2,hA1.g.cell 3⟩))
        all_goals
         have HC:=hid (And.intro hDK (And.intro hA1 (Touch.kinds HM.out.2.2.2.2.1.drew hT.td)))
         have HMM:=hid HM.out.1
         clear c0 c1 hDK hA1 hT HM
         obtain ⟨W5,hW5⟩:∃ W5,W5=w3:=⟨_,rfl⟩
         rw [← hW5] at HC ⊢
         clear hW5
         go_wp2_with fail
         go_meet
         exact ⟨x5,y5,hid ⟨HC.out.1,HMM.out,HC.out.2.2,HC.out.2.1⟩⟩
      ·have b5:decide (kd=5)=false:=decide_eq_false h5
       go_wp2_with fail
       go_meet
       exact ⟨x,y,hid ⟨HC.out.1.up (Nat.le_succ K) hK,rfl,HC.out.2.2,HC.out.2.1⟩⟩
  case rest =>
   obtain ⟨x',y',HF⟩:=hcut
   clear H HO HA HLOW
   have ha:=HF.out.2.2.2.a
   have r0:wc.cell? ⟨G + 1,0,none⟩=some (.bool false):=ha.cell 0
   have r1:wc.cell? ⟨G + 1,1,none⟩=some (.int .i64 0):=ha.cell 1
   have r2:wc.cell? ⟨G + 1,2,none⟩=some (.bool false):=ha.cell 2
   have r3:wc.cell? ⟨G + 1,3,none⟩=some (.bool false):=ha.cell 3
   have f0:=ha.free 0
   have f1:=ha.free 1
   have f2:=ha.free 2
   have f3:=ha.free 3
   have lA:=ha.lt
   have HX:=hid ha
   clear ha
   go_wp2_with fail
   have hT:=(((Touch.setCell wc (G + 1) 0 (.bool false)).then (Touch.setCell _ (G + 1) 1 (.int .i64 0))).then (Touch.setCell _ (G + 1) 2 (.bool false))).then (Touch.setCell _ (G + 1) 3 (.bool false))
   have hB:=(((HX.out.set_ 0 (.bool false)).set_ 1 (.int .i64 0)).set_ 2 (.bool false)).set_ 3 (.bool false)
   have HG:=hid (And.intro (HF.out.1.answer HX.out hT) (HF.out.2.2.1.trans hT (fun k hk => .inr (by rw [hk]; exact HGN.out))))
   generalize (((wc.setCell ⟨G + 1,0,none⟩ (.bool false)).setCell ⟨G + 1,1,none⟩ (.int .i64 0)).setCell ⟨G + 1,2,none⟩ (.bool false)).setCell ⟨G + 1,3,none⟩ (.bool false)=wf at *
   have e0:wf.cell? ⟨G + 1,0,none⟩=some (.bool false):=hB.cell 0
   have e1:wf.cell? ⟨G + 1,1,none⟩=some (.int .i64 0):=hB.cell 1
   have e2:wf.cell? ⟨G + 1,2,none⟩=some (.bool false):=hB.cell 2
   have e3:wf.cell? ⟨G + 1,3,none⟩=some (.bool false):=hB.cell 3
   refine bodyPost_ret (v:=.tuple #[vAns false 0 false false,.bool true]) (by simp [results,Tryz.results10,go_sem,e0,e1,e2,e3]; rfl) rfl ⟨(false,0,false,false),x',y',rfl,HG.out.1,.inr ⟨h1,HF.out.2.1,rfl⟩,HG.out.2⟩
end Go.Proofs.YtakaalldbnklcaaGreat
namespace Go.Proofs.YtakaalldbnklcaaGreat
open Go.RowKit Go.WideShapes Go.ChangeShapes Go.ChangeAt Go.Deep
set_option linter.unusedVariables false
section
variable {x x' x1 x2 x3:DkX}
theorem entAt_put (m:List ((Int × Int) × In.Ent)) (p q:Int × Int) (e:In.Ent):In.entAt (mset m p e) q=if q=p then e else In.entAt m q:=by
 unfold In.entAt
 rw [mget_mset]
 split <;> rfl
theorem ask_bar {e:In.Ent} (h:e.b=true) (t:Int) (u:Bool):In.askF e t u=(1,if u=true then 0 else 151):=by
 unfold In.askF; cases u <;> simp [h]
def Seen (m:List ((Int × Int) × In.Ent)) (k s t:Int) (u:Bool) (a:Bool × Int × Bool × Bool):Prop :=
 (u=true→(In.entAt m (k,s)).b=true∧(a.1=true→a.2.1=0)) ∧
 (u=false→(In.entAt m (k,s)).b=true∨t < 1∨t < (In.entAt m (k,s)).t∨(t=(In.entAt m (k,s)).t∧(a.1=true→a.2.1=(In.entAt m (k,s)).c)))
theorem Seen.ask {m:List ((Int × Int) × In.Ent)} {k s t:Int} {u:Bool} {a:Bool × Int × Bool × Bool} (h:Seen m k s t u a) :
  (In.askF (In.entAt m (k,s)) t u).1 ≠ 0∧((In.askF (In.entAt m (k,s)) t u).1=1→a.1=true→(In.askF (In.entAt m (k,s)) t u).2=a.2.1∨(In.askF (In.entAt m (k,s)) t u).2=151):=by
 unfold Seen at h
 generalize In.entAt m (k,s)=e at h ⊢
 obtain ⟨h1,h2⟩:=h
 cases u with
 | true =>
  obtain ⟨hb,hc⟩:=h1 rfl
  rw [ask_bar hb]
  exact ⟨by decide,fun _ ha => .inl (hc ha).symm⟩
 | false =>
  cases hb:e.b with
  | true =>
   rw [ask_bar hb]
   exact ⟨by decide,fun _ _ => .inr rfl⟩
  | false =>
   unfold In.askF
   simp only [Bool.false_eq_true,if_false,hb]
   rcases h2 rfl with h3 | h3 | h3 | ⟨h3,h4⟩
   ·rw [hb] at h3; cases h3
   ·rw [if_pos h3]
    exact ⟨by decide,fun h=>by cases h⟩
   ·by_cases h5:t < 1
    ·rw [if_pos h5]
     exact ⟨by decide,fun h=>by cases h⟩
    ·rw [if_neg h5,if_pos h3]
     exact ⟨by decide,fun h=>by cases h⟩
   ·by_cases h5:t < 1
    ·rw [if_pos h5]
     exact ⟨by decide,fun h=>by cases h⟩
    ·rw [if_neg h5,if_neg (by omega),if_pos h3]
     exact ⟨(fun h=>by cases h),fun _ ha => .inl (h4 ha).symm⟩
theorem DoR.inbox {k s t:Int} {vb:ByteArray} {u:Bool} {a:Bool × Int × Bool × Bool} (h:DoR k s t vb u x x' a) :
  (x'.m=x.m∧(In.askF (In.entAt x.m (k,s)) t u).1 ≠ 0)∨((In.askF (In.entAt x.m (k,s)) t u).1=0∧∃ c,(u=true→c=0)∧a.1=true∧a.2.1=c∧x'.m=mset x.m (k,s) (In.keepE (In.entAt x.m (k,s)) k s t u c)):=by
 rcases h with ⟨h1,rfl,rfl⟩ | ⟨h1,rfl,rfl⟩ | ⟨h1,rfl,rfl,x1,_,rfl⟩ | ⟨h1,rfl,p,c,x1,_,rfl,rfl⟩
 ·exact .inl ⟨rfl,by rw [h1]; decide⟩
 ·exact .inl ⟨rfl,by rw [h1]; decide⟩
 ·exact .inr ⟨h1,0,fun _=>rfl,rfl,rfl,rfl⟩
 ·exact .inr ⟨h1,c,(fun h=>by cases h),rfl,rfl,rfl⟩
theorem fresh_is {e:In.Ent} {t:Int} {u:Bool} (h:(In.askF e t u).1=0):e.b=false∧(u=false→1≤t∧e.t < t):=by
 unfold In.askF at h
 cases u with
 | true =>
  simp only [if_true] at h
  split at h
  ·cases h
  ·rename_i hb
   exact ⟨by simpa using hb,fun h=>by cases h⟩
 | false =>
  simp only [Bool.false_eq_true,if_false] at h
  split at h
  ·cases h
  ·rename_i hb
   refine ⟨by simpa using hb,fun _ => ?_⟩
   split at h
   ·cases h
   ·split at h
    ·cases h
    ·split at h
     ·cases h
     ·omega
theorem DoR.seen {k s t:Int} {vb:ByteArray} {u:Bool} {a:Bool × Int × Bool × Bool} (h:DoR k s t vb u x x' a):Seen x'.m k s t u a:=by
 rcases h.inbox with ⟨hm,hq⟩ | ⟨hq,c,hc,ha,hac,hm⟩
 ·rw [hm]
  have ho:=h.old hq
  unfold Seen
  generalize In.entAt x.m (k,s)=e at hq ho ⊢
  obtain ⟨_,_,_,hd,hcode⟩:=ho
  cases hb:e.b with
  | true =>
   rw [ask_bar hb] at hcode
   exact ⟨fun hu=>⟨rfl,fun ht=>by rw [hcode ht,hu]; rfl⟩,fun _ => .inl rfl⟩
  | false =>
   cases u with
   | true=>exact absurd (by unfold In.askF; simp [hb]) hq
   | false =>
    refine ⟨(fun h=>by cases h),fun _ => .inr ?_⟩
    unfold In.askF at hq hcode hd
    simp only [Bool.false_eq_true,if_false,hb] at hq hcode hd
    by_cases h5:t < 1
    ·exact .inl h5
    ·rw [if_neg h5] at hq hcode hd
     by_cases h6:t < e.t
     ·exact .inr (.inl h6)
     ·rw [if_neg h6] at hq hcode hd
      by_cases h7:t=e.t
      ·rw [if_pos h7] at hcode
       exact .inr (.inr ⟨h7,hcode⟩)
      ·rw [if_neg h7] at hq
       exact absurd rfl hq
 ·obtain ⟨hb,hf⟩:=fresh_is hq
  rw [hm]
  unfold Seen
  rw [entAt_put,if_pos rfl]
  unfold In.keepE
  cases u with
  | true=>exact ⟨fun _=>⟨rfl,fun _=>by rw [hac]; exact hc rfl⟩,fun h=>by cases h⟩
  | false=>exact ⟨(fun h=>by cases h),fun _ => .inr (.inr (.inr ⟨rfl,fun _=>hac⟩))⟩
theorem Seen.step {k s t k' s' t':Int} {vb:ByteArray} {u u':Bool} {a a':Bool × Int × Bool × Bool} (h:Seen x.m k s t u a) (hd:DoR k' s' t' vb u' x x' a'):Seen x'.m k s t u a:=by
 rcases hd.inbox with ⟨hm,_⟩ | ⟨hq,c,_,_,_,hm⟩
 ·rw [hm]; exact h
 ·obtain ⟨hb,hf⟩:=fresh_is hq
  rw [hm]
  unfold Seen at h ⊢
  rw [entAt_put]
  by_cases he:(k,s)=(k',s')
  ·injection he with e1 e2
   subst e1 e2
   rw [if_pos rfl]
   generalize In.entAt x.m (k,s)=e at h hb hf ⊢
   obtain ⟨h1,h2⟩:=h
   unfold In.keepE
   cases u' with
   | true=>exact ⟨fun hu=>⟨rfl,(h1 hu).2⟩,fun _ => .inl rfl⟩
   | false =>
    have hf':=hf rfl
    refine ⟨fun hu=>(by have:=(h1 hu).1; rw [hb] at this; cases this),fun hu => ?_⟩
    rcases h2 hu with h3 | h3 | h3 | ⟨h3,_⟩
    ·rw [hb] at h3; cases h3
    ·exact .inr (.inl h3)
    ·exact .inr (.inr (.inl (show t < t' by omega)))
    ·exact .inr (.inr (.inl (show t < t' by omega)))
  ·rw [if_neg he]
   exact h
def NoEnt (m:List ((Int × Int) × In.Ent)) (k s:Int):Prop:=mget m (k,s)=none
theorem NoEnt.at_ {m:List ((Int × Int) × In.Ent)} {k s:Int} (h:NoEnt m k s):In.entAt m (k,s)=⟨0,0,0,0,false⟩:=by
 unfold NoEnt at h
 unfold In.entAt
 rw [h]
 rfl
theorem NoEnt.step {k s k' s' t':Int} {vb:ByteArray} {u':Bool} {a':Bool × Int × Bool × Bool} (h:NoEnt x.m k s) (hd:DoR k' s' t' vb u' x x' a') (hne:(k,s) ≠ (k',s')):NoEnt x'.m k s:=by
 rcases hd.inbox with ⟨hm,_⟩ | ⟨hq,c,_,_,_,hm⟩
 ·rw [hm]; exact h
 ·rw [hm]
  unfold NoEnt at h ⊢
  rw [mget_mset,if_neg hne]
  exact h
theorem NoEnt.bar {k s:Int} {vb:ByteArray} {a:Bool × Int × Bool × Bool} (h:NoEnt x.m k s) (hd:DoR k s 0 vb true x x' a):a=(true,0,false,false)∧(In.entAt x'.m (k,s)).b=true:=by
 have he:=h.at_
 rcases hd with ⟨h1,_⟩ | ⟨h1,_⟩ | ⟨h1,_,rfl,x1,hx,rfl⟩ | ⟨h1,h2,_⟩
 ·rw [he] at h1; exact absurd h1 (by decide)
 ·rw [he] at h1; exact absurd h1 (by decide)
 ·refine ⟨rfl, ?_⟩
  show (In.entAt (mset x.m (k,s) _) (k,s)).b=true
  rw [entAt_put,if_pos rfl]
  rfl
 ·cases h2
theorem barred_ask {m:List ((Int × Int) × In.Ent)} {k s:Int} (h:(In.entAt m (k,s)).b=true) (t:Int) (u:Bool):(In.askF (In.entAt m (k,s)) t u).1=1∧(In.askF (In.entAt m (k,s)) t u).2=if u=true then 0 else 151:=by
 rw [ask_bar h]
 exact ⟨rfl,rfl⟩
structure Alike (x x':DkX):Prop where
 hs:x'.hs=x.hs
 ks:x'.lv.map (·.1)=x.lv.map (·.1)
 lv:∀ id,mget x'.lv id=mget x.lv id
theorem Alike.refl (x:DkX):Alike x x:=⟨rfl,rfl,fun _=>rfl⟩
theorem Alike.trans (h:Alike x x1) (h2:Alike x1 x2):Alike x x2:=⟨h2.hs.trans h.hs,h2.ks.trans h.ks,fun id=>(h2.lv id).trans (h.lv id)⟩
theorem free_alloc (a:Sk.Lv) (q:Int):Sk.freeL (Sk.allocL a q) q=a:=by
 obtain ⟨g,i,r,h,al,s,t⟩:=a
 unfold Sk.freeL Sk.allocL
 simp only [Sk.Lv.mk.injEq,true_and,and_true]
 omega
theorem alike_pair {key s:Int} {v0 v1:ByteArray} {a1 a2:Bool × Int × Bool × Bool} (hv:(svc v0=1∧svc v1=2)∨(svc v0=3∧svc v1=4)) (hnd:(x.lv.map (·.1)).Nodup) (hn:NoEnt x.m key s) (h1:DoR key s 1 v0 false x x1 a1) (h2:DoR key s 0 v1 true x1 x2 a2) :
  a1.1=true∧Alike x x2∧(In.entAt x2.m (key,s)).b=true:=by
 have he:=hn.at_
 rcases h1 with ⟨h,_⟩ | ⟨h,_⟩ | ⟨_,h,_⟩ | ⟨_,_,p,c,y1,hr,rfl,rfl⟩
 ·rw [he] at h; exact absurd h (by decide)
 ·rw [he] at h; exact absurd h (by decide)
 ·cases h
 ·refine ⟨rfl, ?_⟩
  have he1:In.entAt (mset x.m (key,s) (In.keepE (In.entAt x.m (key,s)) key s 1 false c)) (key,s)=⟨key,s,1,c,false⟩:=by
   rw [entAt_put,if_pos rfl,he]
   rfl
  rcases h2 with ⟨h,_⟩ | ⟨h,_⟩ | ⟨_,_,_,y2,hx,rfl⟩ | ⟨_,h,_⟩
  ·simp only at h; rw [he1] at h; cases h
  ·simp only at h; rw [he1] at h; cases h
  ·refine ⟨?_,by
    show (In.entAt (mset _ (key,s) _) (key,s)).b=true
    rw [entAt_put,if_pos rfl]
    rfl⟩
   simp only at hx
   rw [he1] at hx
   rcases hx with ⟨hdn,p2,c2,hr2⟩ | ⟨hdn,rfl⟩
   ·-- it was done: the code is 0
    have hc:c=0:=by
     unfold In.doneF at hdn
     simp at hdn
     exact hdn
    subst hc
    rcases hr with ⟨_,_,hc,_⟩ | ⟨_,_,_,hc,_⟩ | ⟨hs0,o,ho,hS⟩
    ·cases hc
    ·cases hc
    ·have hos:y1.os=x.os:=hS.keeps.2.2
     rcases hr2 with ⟨h,_⟩ | ⟨_,h,_⟩ | ⟨_,o2,ho2,hS2⟩
     ·rcases hv with ⟨_,hv⟩ | ⟨_,hv⟩ <;> omega
     ·simp only at h; rw [hos,ho] at h; cases h
     ·simp only at ho2
      rw [hos,ho] at ho2
      injection ho2 with ho2
      subst ho2
      rcases hv with ⟨v1',v2'⟩ | ⟨v1',v2'⟩
      ·rw [v1'] at hS
       rw [v2'] at hS2
       obtain ⟨_,hc,ac',hs',hH,rfl⟩:=hS.inv1
       obtain ⟨_,_,ac2,hs2,hR,rfl⟩:=hS2.inv2
       rcases hH with ⟨h,_⟩ | ⟨hz,a,ha,_,rfl,rfl⟩
       ·exact absurd hc.symm h
       ·have hno:mget x.hs o.i=none:=by
         unfold Cr.holdR at hz
         split at hz
         ·rw [ha] at hz
          simp only at hz
          cases hm:mget x.hs o.i with
          | none=>rfl
          | some d=>rw [hm] at hz; simp at hz
         ·cases hz
        rcases hR with ⟨h,_⟩ | ⟨d,b,hd,hb,rfl,rfl⟩
        ·simp only [mget_mset,if_true] at h
         cases h
        ·refine ⟨?_,rfl,fun _=>rfl⟩
         show mdel (mset x.hs o.i _) o.i=x.hs
         rw [Sk.mdel_mset]
         exact mdel_none (fun hin=>by obtain ⟨b,hb⟩:=mget_key hin; rw [hno] at hb; cases hb)
      ·rw [v1'] at hS
       rw [v2'] at hS2
       obtain ⟨_,hc,lv',gs',hA,rfl⟩:=hS.inv3
       obtain ⟨_,_,lv2,gs2,hF,rfl⟩:=hS2.inv4
       rcases hA with ⟨h,_⟩ | ⟨_,_,_,rfl,d,⟨d1,d2,d3⟩,rfl⟩
       ·exact absurd hc.symm h
       ·have hmg:mget (mset x.gs o.i d) o.i=some d:=by rw [mget_mset,if_pos rfl]
        rcases hF with ⟨h,_⟩ | ⟨_,d',hd',hs',rfl,rfl⟩
        ·exact absurd d2 (h d hmg)
        ·simp only at hd'
         rw [hmg] at hd'
         injection hd' with hd'
         subst hd'
         have hk1:(Sk.mvL Sk.allocL x.lv (o.ls.map toSk)).map (·.1)=x.lv.map (·.1):=Sk.mvL_keys (f:=Sk.allocL) (fun _ _=>rfl) hnd
         refine ⟨rfl, ?_,fun id => ?_⟩
         ·show (Sk.mvL Sk.freeL (Sk.mvL Sk.allocL x.lv (o.ls.map toSk)) d.ls).map (·.1)=_
          rw [Sk.mvL_keys (f:=Sk.freeL) (fun _ _=>rfl) (by rw [hk1]; exact hnd),hk1]
         ·show mget (Sk.mvL Sk.freeL (Sk.mvL Sk.allocL x.lv (o.ls.map toSk)) d.ls) id=_
          rw [Sk.mvL_all Sk.freeL_0 Sk.freeL_a,Sk.mvL_all Sk.allocL_0 Sk.allocL_a,d3]
          cases mget x.lv id with
          | none=>rfl
          | some a=>simp only [Option.map_some,free_alloc]
   ·-- it was refused: nothing turned
    have hc:c ≠ 0:=by
     intro e
     subst e
     cases hdn
    rcases hr with ⟨_,_,_,rfl⟩ | ⟨_,_,_,_,rfl⟩ | ⟨hs0,o,ho,hS⟩
    ·exact ⟨rfl,rfl,fun _=>rfl⟩
    ·exact ⟨rfl,rfl,fun _=>rfl⟩
    ·rcases hv with ⟨v1',_⟩ | ⟨v1',_⟩
     ·rw [v1'] at hS
      obtain ⟨_,hcc,ac',hs',hH,rfl⟩:=hS.inv1
      rcases hH with ⟨_,rfl,rfl⟩ | ⟨hz,_⟩
      ·exact ⟨rfl,rfl,fun _=>rfl⟩
      ·exact absurd (hcc.trans hz) hc
     ·rw [v1'] at hS
      obtain ⟨_,hcc,lv',gs',hA,rfl⟩:=hS.inv3
      rcases hA with ⟨_,rfl,rfl⟩ | ⟨hz,_⟩
      ·exact ⟨rfl,rfl,fun _=>rfl⟩
      ·exact absurd (hcc.trans hz) hc
  ·cases h
end
end Go.Proofs.YtakaalldbnklcaaGreat
namespace Go.Proofs.YtakaalldbnklcaaGreat
open Go.RowKit Go.WideShapes Go.ChangeShapes Go.ChangeAt Go.Deep
set_option linter.unusedVariables false
def saleB:ByteArray:=⟨#[115,97,108,101]⟩
theorem isW_saleB:Or.isW saleB=true:=by decide
theorem saleB_len:saleB.size≤maxLen:=by unfold maxLen; decide
theorem one_rd20 (w:World) (i q:Int):Rd (w.alloc (.cells #[.int .i64 i,.int .i64 q] 67)) (some ⟨w.heap.size,0,none⟩) ([(⟨i,q⟩:Or.Ln)].flatMap Or.enL):=by
 right
 refine ⟨w.heap.size,0,rfl,by simp,fun j u hu => ?_⟩
 have hb:=Blk.new w 67 #[.int .i64 i,.int .i64 q]
 rw [Nat.zero_add,hb.cell j]
 simpa [Or.enL] using hu
theorem ordOk_wk:Or.OrdOk 7 1 saleB [⟨1,1⟩]:=by
 refine ⟨⟨by omega,by omega,by omega,by omega,isW_saleB,by simp,by simp⟩,fun k x hx => ?_⟩
 cases k with
 | zero=>simp at hx; subst hx; exact ⟨by decide,by decide,rfl⟩
 | succ k=>simp at hx
theorem tot_75:Or.netT [(1,75)]=75∧Or.taxT [(1,75)]=15:=by decide
section
variable {n0:Nat} {w w':World} {I:DkI} {x:DkX}
def xw1 (g:Nat):DkX:={ x0 with ac:=[(1,⟨g,100,0⟩)] }
def xw2 (g:Nat):DkX:={ xw1 g with pr:=[(1,75)] }
def xw3 (g:Nat) (o:Or.Od):DkX:={ xw2 g with os:=[(7,o)] }
theorem wk_cust (h:PD n0 0 w I x0):Calls Tryz.prog 16 #[.pointer (some ⟨I.XC,0,none⟩),.int .i64 1,.int .i64 100] w fun e w'=>∃ g,e = .returned (.int .i64 0)∧PD n0 0 w' I (xw1 g)∧Below n0 w w':=by
 refine (Cr.customer_yes h.cr h.lo.2.2 1 100 (by unfold Cr.custOk; omega)).mono ?_
 rintro e w1 ⟨g,rfl,_,hI,hT⟩
 obtain ⟨hP,hT2⟩:=h.credit hI hT
 exact ⟨g,rfl,hP,hT2.low h.lo.2.2⟩
theorem wk_item {g:Nat} (h:PD n0 0 w I (xw1 g)):Calls Tryz.prog 17 #[.pointer (some ⟨I.XO,0,none⟩),.int .i64 1,.int .i64 75] w fun e w'=>e = .returned (.int .i64 0)∧PD n0 0 w' I (xw2 g)∧Below n0 w w':=by
 refine (Or.item_yes h.od 1 75 (by unfold Or.itemOk; omega)).mono ?_
 rintro e w1 ⟨rfl,hI,hT⟩
 obtain ⟨hP,hT2⟩:=h.orders hI h.og hT
 exact ⟨rfl,hP,hT2.low h.lo.2.2⟩
theorem prOk_wk:Or.PrOk [(1,75)]:=fun id p hm=>by
 simp only [mget,List.find?_cons] at hm
 by_cases e:(1:Int)=id
 ·subst e
  simp at hm
  omega
 ·simp [e] at hm
theorem wk_add {g:Nat} (h:PD n0 0 w I (xw2 g)) (A:Option Addr) (hR:Rd w A ([(⟨1,1⟩:Or.Ln)].flatMap Or.enL)):Calls Tryz.prog 18 #[.pointer (some ⟨I.XO,0,none⟩),.int .i64 7,.int .i64 1,.string saleB,.slice A 1 1] w fun e w'=>∃ o,e = .returned (.int .i64 0)∧PD n0 0 w' I (xw3 g o)∧Below n0 w w'∧o.i=7∧o.c=1∧o.n=75∧o.t=15:=by
 have hz:Or.errL (xw2 g).pr (xw2 g).os 7 1 saleB [⟨1,1⟩]=0:=Or.errL_ok ordOk_wk rfl rfl
 have hpr:Or.prL (xw2 g).pr [⟨1,1⟩]=[(1,75)]:=rfl
 refine (Or.add_yes h.od prOk_wk 7 1 saleB A 1 [⟨1,1⟩] saleB_len hR (by simp) (by unfold maxLen; omega) h.lo.2.2 hz).mono ?_
 rintro e w' ⟨o,rfl,hI,h1,h2,h3,h4,h5,h6,hT⟩
 obtain ⟨hP,hT2⟩:=h.orders hI (fun p hp=>by
  rcases mem_mset hp with rfl | ⟨hp,_⟩
  ·exact odG_new prOk_wk ordOk_wk rfl h1 h4 h5 h6
  ·cases hp) hT
 rw [hpr,tot_75.1] at h5
 rw [hpr,tot_75.2] at h6
 exact ⟨o,rfl,hP,hT2.low h.lo.2.2,h1,h2,h5,h6⟩
theorem wk_plain {g:Nat} {o:Or.Od} (h1:o.i=7) (h2:o.c=1) (h3:o.n=75) (h4:o.t=15) {x':DkX} {a:Bool × Int × Bool × Bool} (h:DoR 7 0 1 vb0 false (xw3 g o) x' a) :
  a=(true,0,false,false)∧Cr.expF x'.ac 1=(100,90,true)∧In.askF (In.entAt x'.m (7,0)) 1 false=(1,0):=by
 have he:In.entAt (xw3 g o).m (7,0)=⟨0,0,0,0,false⟩:=rfl
 have hi2:a.2.1=0→In.askF (In.entAt x'.m (7,0)) 1 false=(1,0):=by
  intro hcode
  rcases h.inbox with ⟨_,hq⟩ | ⟨_,c,_,_,hc,hm⟩
  ·rw [he] at hq
   exact absurd rfl hq
  ·rw [hm,entAt_put,if_pos rfl,he, ← hc,hcode]
   rfl
 rcases h with ⟨h,_⟩ | ⟨h,_⟩ | ⟨_,h,_⟩ | ⟨_,_,p,c,y1,hr,rfl,rfl⟩
 ·rw [he] at h; exact absurd h (by decide)
 ·rw [he] at h; exact absurd h (by decide)
 ·cases h
 ·rcases hr with ⟨h,_⟩ | ⟨_,h,_⟩ | ⟨_,o',ho,hS⟩
  ·exact absurd h (by decide)
  ·have ho2:mget (xw3 g o).os (absK 7)=some o:=rfl
   rw [ho2] at h
   cases h
  ·have ho2:mget (xw3 g o).os (absK 7)=some o:=rfl
   rw [ho2] at ho
   injection ho with ho
   subst ho
   have hv:svc vb0=1:=rfl
   rw [hv] at hS
   obtain ⟨rfl,rfl,ac',hs',hH,rfl⟩:=hS.inv1
   have hz:Cr.holdR (xw3 g o).ac (xw3 g o).hs o.i o.c (o.n + o.t)=0:=by
    rw [h1,h2,h3,h4]
    unfold Cr.holdR
    rw [if_pos (by omega)]
    have e1:mget (xw3 g o).ac 1=some ⟨g,100,0⟩:=rfl
    have e2:mget (xw3 g o).hs 7=none:=rfl
    rw [e1,e2]
    simp only [Option.isSome_none,Bool.false_eq_true,if_false]
    rw [Cr.wr_lim _ ⟨by omega,by omega⟩,if_neg (by decide)]
   rcases hH with ⟨h,_⟩ | ⟨_,b,hb,_,rfl,rfl⟩
   ·exact absurd hz h
   ·refine ⟨?_, ?_,hi2 hz⟩
    ·rw [hz,show (vb0.toList == [98,105,108,108,46,105,110,118,111,105,99,101])=false from by rw [vbq8]; exact decide_eq_false (by decide)]
     rfl
    ·rw [h2] at hb
     have hb2:mget (xw3 g o).ac 1=some ⟨g,100,0⟩:=rfl
     rw [hb2] at hb
     injection hb with hb
     subst hb
     show Cr.expF (mset (xw3 g o).ac o.c ⟨g,100,wrap64 (0 + (o.n + o.t))⟩) 1=_
     rw [h2,h3,h4]
     unfold Cr.expF
     rw [mget_mset,if_pos rfl]
     simp only
     rw [Cr.wr_lim _ ⟨by omega,by omega⟩]
     rfl
theorem wk_do {g:Nat} {o:Or.Od} (h:PD n0 0 w I (xw3 g o)) (h1:o.i=7) (h2:o.c=1) (h3:o.n=75) (h4:o.t=15) :
  Calls Tryz.prog 13 #[.pointer (some ⟨I.D,0,none⟩),.int .i64 7,.int .i64 0,.int .i64 1,.string vb0,.bool false] w fun e w'=>∃ x',e = .returned (vAns true 0 false false)∧PD n0 1 w' I x'∧Below n0 w w'∧Cr.expF x'.ac 1=(100,90,true)∧In.askF (In.entAt x'.m (7,0)) 1 false=(1,0):=by
 refine (do_any h (by omega) 7 0 1 vb0 false).mono ?_
 rintro e w' ⟨a,rfl,x',hD,hP,hT⟩
 obtain ⟨rfl,he,hq⟩:=wk_plain h1 h2 h3 h4 hD
 exact ⟨x',rfl,hP,hT.low h.lo.2.2,he,hq⟩
theorem wk_again (h:PD n0 1 w I x) (hq:In.askF (In.entAt x.m (7,0)) 1 false=(1,0)) :
  Calls Tryz.prog 13 #[.pointer (some ⟨I.D,0,none⟩),.int .i64 7,.int .i64 0,.int .i64 1,.string vb0,.bool false] w fun e w'=>e = .returned (vAns true 0 false false)∧PD n0 2 w' I x∧Touch (KindIn n0 w TP I.maps) w w':=by
 refine (do_any h (by omega) 7 0 1 vb0 false).mono ?_
 rintro e w' ⟨⟨a1,a2,a3,a4⟩,rfl,x',hD,hP,hT⟩
 obtain ⟨rfl,g1,g2,g3,g4⟩:=hD.old (by rw [hq]; decide)
 rw [hq] at g3 g4
 simp only at g1 g2 g3 g4
 subst g1 g2 g3
 rw [g4 rfl]
 exact ⟨rfl,hP,hT⟩
end
set_option maxRecDepth 100000 in
set_option maxHeartbeats 8000000 in
theorem wakes_any (w:World):Calls Tryz.prog 7 #[] w (Law w):=by
 go_enter Tryz.func7,Tryz.ntmps7
 go_wp2_with fail
 refine (dnew20 _).mono ?_
 rintro e w1 ⟨I,rfl,h,hb1⟩
 have c0:w1.cell? ⟨I.D,0,none⟩=some (.pointer (some ⟨I.XC,0,none⟩)):=h.blk.cell 0
 have K:=hid (wk_cust h)
 have HB:=hid hb1
 clear h hb1
 go_wp2_with fail
 refine K.out.mono ?_
 rintro e w2 ⟨g,rfl,h,hb2⟩
 replace HB:=hid (HB.out.trans hb2)
 have c0:w2.cell? ⟨I.D,3,none⟩=some (.pointer (some ⟨I.XO,0,none⟩)):=h.blk.cell 3
 replace K:=hid (wk_item h)
 clear h hb2
 go_wp2_with fail
 refine K.out.mono ?_
 rintro e w3 ⟨rfl,h,hb3⟩
 replace HB:=hid (HB.out.trans hb3)
 have c0:w3.cell? ⟨I.D,3,none⟩=some (.pointer (some ⟨I.XO,0,none⟩)):=h.blk.cell 3
 have lD:I.D < w3.heap.size:=h.blk.lt
 have hba:Below w3.heap.size w3 (w3.alloc (.cells #[.int .i64 1,.int .i64 1] 67)):=(Below.refl _ _).alloc (Nat.le_refl _) _
 replace HB:=hid (HB.out.trans (hba.mono h.lo.2.2))
 replace K:=hid (wk_add (h.next hba) (some ⟨w3.heap.size,0,none⟩) (one_rd20 w3 1 1))
 clear h hb3 hba
 go_wp2_with fail
 refine K.out.mono ?_
 rintro e w4 ⟨o,rfl,h,hb4,h1,h2,h3,h4⟩
 replace HB:=hid (HB.out.trans hb4)
 replace K:=hid (wk_do h h1 h2 h3 h4)
 clear h hb4 h1 h2 h3 h4
 go_wp2_with fail
 refine K.out.mono ?_
 rintro e w5 ⟨x5,rfl,h,hb5,hex,hq⟩
 have hba:Below w5.heap.size w5 (w5.alloc (.cells #[.bool true,.int .i64 0,.bool false,.bool false] 33)):=(Below.refl _ _).alloc (Nat.le_refl _) _
 have hB:=Blk.new w5 33 #[.bool true,.int .i64 0,.bool false,.bool false]
 replace HB:=hid (HB.out.trans (hb5.trans (hba.mono h.lo.2.2)))
 have K:=hid (wk_again (h.next hba) hq)
 have H:=hid (And.intro hB (And.intro hex (h.next hba)))
 clear h hba hB hb5 hex hq
 simp only [vAns] at K ⊢
 obtain ⟨W,hW⟩:∃ W,W=w5.alloc (.cells #[.bool true,.int .i64 0,.bool false,.bool false] 33):=⟨_,rfl⟩
 obtain ⟨G,hG⟩:∃ G,G=w5.heap.size:=⟨_,rfl⟩
 rw [← hW] at K H HB
 rw [← hG] at H
 have HW:=hid hW
 have HG:=hid hG
 clear hW hG
 go_wp2_with fail
 rw [← HW.out, ← HG.out]
 refine K.out.mono ?_
 rintro e w6 ⟨rfl,h,hT6⟩
 have hba:Below w6.heap.size w6 (w6.alloc (.cells #[.bool true,.int .i64 0,.bool false,.bool false] 33)):=(Below.refl _ _).alloc (Nat.le_refl _) _
 have hB2:=Blk.new w6 33 #[.bool true,.int .i64 0,.bool false,.bool false]
 have c0:w6.cell? ⟨I.D,0,none⟩=some (.pointer (some ⟨I.XC,0,none⟩)):=h.blk.cell 0
 have lD:I.D < w6.heap.size:=h.blk.lt
 have hA:=(H.out.2.2.beside H.out.1 hT6 (by decide)).next hba
 replace HB:=hid (HB.out.trans ((hT6.low H.out.2.2.lo.2.2).trans (hba.mono h.lo.2.2)))
 have HE:=hid H.out.2.1
 clear K H HW HG hT6
 obtain ⟨W7,hW⟩:∃ W,W=w6.alloc (.cells #[.bool true,.int .i64 0,.bool false,.bool false] 33):=⟨_,rfl⟩
 obtain ⟨G2,hG⟩:∃ G,G=w6.heap.size:=⟨_,rfl⟩
 have h7:=h.next hba
 rw [← hW] at hA hB2 h7 HB
 rw [← hG] at hB2
 have HW:=hid hW
 have HG:=hid hG
 have K:=Cr.exposure_any h7.cr 1
 rw [HE.out] at K
 simp only at K
 replace K:=hid K
 have H:=hid (And.intro hA hB2)
 clear h h7 hba hA hB2 hW hG HE
 go_wp2_with fail
 rw [← HW.out, ← HG.out]
 refine K.out.mono ?_
 rintro e w8 ⟨rfl,hb8⟩
 have hA:=H.out.1.next hb8
 have hB:=H.out.2.next hb8
 replace HB:=hid (HB.out.trans (hb8.mono HB.out.size))
 have lG:=hA.lt
 have lG2:=hB.lt
 have p0:w8.cell? ⟨G,0,none⟩=some (.bool true):=hA.cell 0
 have p1:w8.cell? ⟨G,1,none⟩=some (.int .i64 0):=hA.cell 1
 have p2:w8.cell? ⟨G,2,none⟩=some (.bool false):=hA.cell 2
 have p3:w8.cell? ⟨G,3,none⟩=some (.bool false):=hA.cell 3
 have q0:w8.cell? ⟨G2,0,none⟩=some (.bool true):=hB.cell 0
 have q1:w8.cell? ⟨G2,1,none⟩=some (.int .i64 0):=hB.cell 1
 have q2:w8.cell? ⟨G2,2,none⟩=some (.bool false):=hB.cell 2
 have q3:w8.cell? ⟨G2,3,none⟩=some (.bool false):=hB.cell 3
 clear K H hb8 hA hB HW HG c0 lD
 go_wp2_with fail
 go_ret
 exact ⟨by simp,HB.out⟩
end Go.Proofs.YtakaalldbnklcaaGreat
namespace Go.Proofs.YtakaalldbnklcaaGreat
open Go.RowKit Go.WideShapes Go.ChangeShapes Go.ChangeAt Go.Deep
set_option linter.unusedVariables false
theorem RD.based {n0 n1 base:Nat} {w:World} {J:RdI} {y:RdX} (h:RD n0 base w J y) (hn:n1≤n0):RD n1 base w J y :=
 { h with lo:=⟨⟨Nat.le_trans hn h.lo.1.1,Nat.le_trans hn h.lo.1.2.1,Nat.le_trans hn h.lo.1.2.2.1,Nat.le_trans hn h.lo.1.2.2.2.1,Nat.le_trans hn h.lo.1.2.2.2.2.1,Nat.le_trans hn h.lo.1.2.2.2.2.2⟩,h.lo.2⟩ }
theorem goodC_nil:Mo.GoodC [] 0:=⟨fun q hq=>(by cases hq),by decide,by decide⟩
theorem dk_new {w w1 w2:World} {I:DkI} {J:RdI} {base:Nat} (hP:PD w.heap.size 0 w1 I x0) (hb1:Below w.heap.size w w1) (hR:RD w1.heap.size base w2 J y0) (hb2:Below w1.heap.size w1 w2):DK w.heap.size base 0 w2 I x0 J y0 :=
 ⟨hP.next hb2,hR.based hb1.size,⟨rel0,Sk.GoodB.nil,goodC_nil,Nat.le_refl _,Nat.le_refl _,Nat.le_refl _,Nat.le_refl _,by decide⟩,⟨fun id p h=>by simp [x0,mget] at h,fun p hp=>by cases hp⟩⟩
theorem script_at {w wr:World} {A:Option Addr} {l:List DOp} (hR:Rd w A (l.flatMap enDo)) (hok:∀ p ∈ l,OkDo w p) (hb:Below w.heap.size w wr) {k:Nat} {o:DOp} (ho:l[k]?=some o) :
  (∃ b off,A=some ⟨b,off,none⟩∧b < wr.heap.size∧∀ j u,(enDo o)[j]?=some u→wr.cell? ⟨b,off + k * 7 + j,none⟩=some u)∧OkDo w o∧∀ w1,Below w.heap.size w w1→OkDo w1 o∧∀ w',Touch (fun k=>w.heap.size≤k) w1 w'→Rd w' o.A (o.ls.flatMap Or.enL):=by
 have h1:=hok o (List.mem_of_getElem? ho)
 refine ⟨(hR.below hb).at_ 7 enDo_len (by omega) ho,h1,fun w1 hb1=>⟨h1.next hb1,fun w' hT=>h1.rd.below (hb1.trans (hT.below hb1.size (fun k hk=>hk)))⟩⟩
set_option maxRecDepth 100000 in
set_option maxHeartbeats 8000000 in
theorem deskPlays_walk (l:List DOp) (A:Option Addr) (cp:Nat) (w:World) (hR:Rd w A (l.flatMap enDo)) (hok:∀ x ∈ l,OkDo w x) (hl:l.length * 80≤140737488351232) :
  Calls Tryz.prog 4 #[.slice A l.length cp] w (Law w):=by
 go_enter Tryz.func4,Tryz.ntmps4
 go_wp2_with fail
 refine (dnew20 _).mono ?_
 rintro e w1 ⟨I,rfl,hP,hb1⟩
 have HP:=hid (And.intro hP hb1)
 clear hP hb1
 go_wp2_with fail
 refine (rdnew20 _).mono ?_
 rintro e w2 ⟨J,base,rfl,hRD,hb2⟩
 have HD:=hid (And.intro (dk_new HP.out.1 HP.out.2 hRD hb2) (bthen HP.out.2 hb2))
 clear HP hRD hb2
 go_wp2_with fail
 refine (wakes_any _).mono ?_
 rintro e w3 ⟨rfl,hb3⟩
 replace HD:=hid (And.intro (HD.out.1.next hb3) (bthen HD.out.2 hb3))
 have B:=hid (books_any HD.out.1)
 clear hb3
 go_wp2_with fail
 refine B.out.mono ?_
 rintro e w4 ⟨rfl,hb4⟩
 replace HD:=hid (And.intro (HD.out.1.next hb4) (bthen HD.out.2 hb4))
 clear hb4 B
 go_wp2_with fail
 go_loopw [21] (fun i wr=>∃ (k:Nat) (x:DkX) (y:RdX),k≤l.length∧i = .int .i64 k∧Hid (DK w.heap.size base k wr I x J y∧Below w.heap.size w wr)) (fun i _=>l.length - nOf i)
 case atStart=>exact ⟨0,x0,y0,Nat.zero_le _,rfl,HD⟩
 case round =>
  clear HD
  obtain ⟨k,x,y,hk,rfl,H⟩:=hrel
  by_cases hlt:k < l.length
  ·obtain ⟨o,ho⟩:∃ o,l[k]?=some o:=⟨l[k],List.getElem?_eq_getElem hlt⟩
   obtain ⟨⟨b,off,hAA,hbs,hcc⟩,_,HN⟩:=script_at hR hok H.out.2 ho
   replace HN:=hid HN
   obtain ⟨kd,ky,st,tr,vb,un,OA,ocp,ls⟩:=o
   have q0:wr.cell? ⟨b,off + k * 7,none⟩=some (.int .i64 kd):=hcc 0 _ rfl
   have q1:wr.cell? ⟨b,off + k * 7 + 1,none⟩=some (.int .i64 ky):=hcc 1 _ rfl
   have q2:wr.cell? ⟨b,off + k * 7 + 2,none⟩=some (.int .i64 st):=hcc 2 _ rfl
   have q3:wr.cell? ⟨b,off + k * 7 + 3,none⟩=some (.int .i64 tr):=hcc 3 _ rfl
   have q4:wr.cell? ⟨b,off + k * 7 + 4,none⟩=some (.string vb):=hcc 4 _ rfl
   have q5:wr.cell? ⟨b,off + k * 7 + 5,none⟩=some (.bool un):=hcc 5 _ rfl
   have q6:wr.cell? ⟨b,off + k * 7 + 6,none⟩=some (.slice OA ls.length ocp):=hcc 6 _ rfl
   have hba:Below wr.heap.size wr (wr.alloc (.cells #[.int .i64 kd,.int .i64 ky,.int .i64 st,.int .i64 tr,.string vb,.bool un,.slice OA ls.length ocp] 31)):=(Below.refl _ _).alloc (Nat.le_refl _) _
   have hB6:=Blk.new wr 31 #[.int .i64 kd,.int .i64 ky,.int .i64 st,.int .i64 tr,.string vb,.bool un,.slice OA ls.length ocp]
   have HW:=hid (And.intro hB6 (And.intro (H.out.1.next hba) (bthen H.out.2 hba)))
   subst hAA
   clear hcc hba hB6 ho H
   go_upto_region 7 with fail
   clear q0 q1 q2 q3 q4 q5 q6
   obtain ⟨wz,hwz⟩:∃ wz,wz=wr.alloc (.cells #[.int .i64 kd,.int .i64 ky,.int .i64 st,.int .i64 tr,.string vb,.bool un,.slice OA ls.length ocp] 31):=⟨_,rfl⟩
   obtain ⟨G,hG⟩:∃ G,G=wr.heap.size:=⟨_,rfl⟩
   obtain ⟨hB6,hDK,hbz⟩:=HW.out
   rw [← hwz] at hB6 hDK hbz ⊢
   rw [← hG] at hB6 ⊢
   have ST:=hid (step_any hDK (by omega) ⟨kd,ky,st,tr,vb,un,OA,ocp,ls⟩ (HN.out _ hbz).1 (HN.out _ hbz).2)
   have HZ:=hid hbz
   have g0:wz.cell? ⟨G,0,none⟩=some (.int .i64 kd):=hB6.cell 0
   have g1:wz.cell? ⟨G,1,none⟩=some (.int .i64 ky):=hB6.cell 1
   have g2:wz.cell? ⟨G,2,none⟩=some (.int .i64 st):=hB6.cell 2
   have g3:wz.cell? ⟨G,3,none⟩=some (.int .i64 tr):=hB6.cell 3
   have g4:wz.cell? ⟨G,4,none⟩=some (.string vb):=hB6.cell 4
   have g5:wz.cell? ⟨G,5,none⟩=some (.bool un):=hB6.cell 5
   have g6:wz.cell? ⟨G,6,none⟩=some (.slice OA ls.length ocp):=hB6.cell 6
   clear hB6 hDK hbz HW hwz hG HN hbs
   go_wp2_with fail
   refine ST.out.mono ?_
   rintro e w5 ⟨⟨a1,a2,a3,a4⟩,x',y',rfl,hD5,_,hT5⟩
   clear g0 g1 g2 g3 g4 g5 g6 ST
   have hb5:Below w.heap.size w w5:=HZ.out.trans (hT5.low HZ.out.size)
   have hba:Below w5.heap.size w5 (w5.alloc (.cells #[.bool a1,.int .i64 a2,.bool a3,.bool a4] 33)):=(Below.refl _ _).alloc (Nat.le_refl _) _
   have H5:=hid (And.intro (hD5.next hba) (bthen hb5 hba))
   have B:=hid (books_any H5.out.1)
   clear hD5 hT5 hb5 hba HZ
   simp only [vAns]
   go_wp2_with fail
   refine B.out.mono ?_
   rintro e w6 ⟨rfl,hb6⟩
   have H6:=hid (And.intro (H5.out.1.next hb6) (bthen H5.out.2 hb6))
   clear H5 B hb6
   go_wp2_with fail
   go_roundw
   case rel=>exact ⟨k + 1,x',y',by omega,by go_num,H6⟩
   case measure=>simp [nOf]; omega
  ·clear hk
   go_wp2_with fail
   go_ret
   exact ⟨rfl,H.out.2⟩
end Go.Proofs.YtakaalldbnklcaaGreat
namespace Go.Proofs.YtakaalldbnklcaaGreat
open Go.RowKit Go.WideShapes Go.ChangeShapes Go.ChangeAt Go.Deep
set_option linter.unusedVariables false
theorem bytesDo:Tryz.prog.bytesOf 31=80:=by kernel_rfl
section
variable {H:Type} {enc:TypeId × Value→H} {w:World} {base:Nat} {spare:Nat→Bool} {held:Bool}
theorem open_dops {fuel:Nat} {cs:List Value} {x:DataW H × List MemPlace} (h:DataW.trod enc Tryz.prog w base spare held fuel 22 cs=some x) (hw:Reach Tryz.prog 22 x.1) :
  ∃ (A:Option Addr) (cap:Nat) (l:List DOp),cs=[.slice A l.length cap]∧Rd w A (l.flatMap enDo)∧(∀ p ∈ l,OkDo w p)∧l.length * 80≤140737488351232:=by
 obtain ⟨A,cap,l,rfl,hR,ok,hd⟩:=open_rows (en:=enDo) (Q:=OkDo w) (G:=Reach Tryz.prog 31) enDo_len (by omega) (by kernel_rfl) Tryz.underlying22 open_dop h (fun elems sp hx d hd y hy=>hw y (by rw [hx]; exact weights_elem Tryz.underlying22 hd hy))
 refine ⟨A,cap,l,rfl,hR,ok, ?_⟩
 rcases hd with hd | ⟨elems,sp,hd,hel⟩
 ·omega
 ·have:=hw _ (by rw [hd]; exact weights_len Tryz.underlying22)
  rw [bytesDo] at this
  simp only [reachBytes] at this
  omega
end
end Go.Proofs.YtakaalldbnklcaaGreat
