/-
  The desk with all its five books: what it holds, what each book's calls leave of the others; what the services make of it, plainly.
  The desk's services, one by one.
  The desk: what a verb does for a key's order.
  The desk: a request is handled.
  The desk: New, with all its books.
-/
import Derived.Test.YtakaalldbnklcaaGreatQd3
import Derived.Test.YtakaalldbnklcaaGreatQd4
import Derived.Test.YtakaalldbnklcaaGreatQd5
import Derived.Test.YtakaalldbnklcaaGreatQd6
import Derived.Test.YtakaalldbnklcaaGreatQd10
import Derived.Test.YtakaalldbnklcaaGreatQd14
import Derived.Test.YtakaalldbnklcaaGreatQd16
import Derived.BigQuiet
namespace Go.Proofs.YtakaalldbnklcaaGreat
open Go.RowKit Go.WideShapes Go.ChangeShapes Go.ChangeAt Go.Deep
set_option linter.unusedVariables false
def toSk (x:Or.Ln):Sk.Ln:=⟨x.i,x.q⟩
theorem toSk_flat (l:List Or.Ln):(l.map toSk).flatMap Sk.enL=l.flatMap Or.enL:=by
 rw [List.flatMap_map]
 rfl
structure DkI where
 D:Nat
 XC:Nat
 BA:Nat
 BH:Nat
 XS:Nat
 BL:Nat
 BG:Nat
 XM:Nat
 XL:Nat
 ML:Nat
 MA:Nat
 XO:Nat
 BP:Nat
 BO:Nat
 XI:Nat
 BI:Nat
 lr:Option (Nat × Array Value)
def DkI.maps (I:DkI):List Nat:=[I.BA,I.BH,I.BL,I.BG,I.ML,I.MA,I.BP,I.BO,I.BI]
structure DkX where
 ac:List (Int × Cr.Acc)
 hs:List (Int × Cr.Hd)
 lv:List (Int × Sk.Lv)
 gs:List (Int × Sk.Gd)
 ca:List (Int × Mo.CP)
 d:Int
 pr:List (Int × Int)
 os:List (Int × Or.Od)
 m:List ((Int × Int) × In.Ent)
def Sk.OldG (n:Nat) (lv lv':List (Int × Sk.Lv)):Prop:=∀ p ∈ lv',(∃ q ∈ lv,q.2.g=p.2.g)∨n≤p.2.g
theorem Sk.mvL_old {f:Sk.Lv→Int→Sk.Lv} (hf:∀ a q,(f a q).g=a.g) {ls:List Sk.Ln} {lv:List (Int × Sk.Lv)} (hd:(lv.map (·.1)).Nodup) (n:Nat):Sk.OldG n lv (Sk.mvL f lv ls):=by
 intro p hp
 have h:=Sk.mvL_same (f:=f) Sk.Lv.g hf (ls:=ls) hd
 have hm:(p.1,p.2.g) ∈ (Sk.mvL f lv ls).map (fun p=>(p.1,Sk.Lv.g p.2)):=List.mem_map.2 ⟨p,hp,rfl⟩
 rw [h] at hm
 obtain ⟨q,hq,e⟩:=List.mem_map.1 hm
 exact .inl ⟨q,hq,by injection e⟩
theorem Sk.OldG.refl (n:Nat) (lv:List (Int × Sk.Lv)):Sk.OldG n lv lv:=fun p hp => .inl ⟨p,hp,rfl⟩
theorem Sk.AllocR.old {lv lv':List (Int × Sk.Lv)} {gs gs':List (Int × Sk.Gd)} {o:Int} {ls:List Sk.Ln} (h:Sk.AllocR lv gs o ls lv' gs') (hd:(lv.map (·.1)).Nodup) (n:Nat):Sk.OldG n lv lv':=by
 rcases h with ⟨_,rfl,_⟩ | ⟨_,_,_,rfl,_⟩
 ·exact .refl _ _
 ·exact Sk.mvL_old (f:=Sk.allocL) (fun _ _=>rfl) hd n
theorem Sk.FreeR.old {lv lv':List (Int × Sk.Lv)} {gs gs':List (Int × Sk.Gd)} {o:Int} (h:Sk.FreeR lv gs o lv' gs') (hd:(lv.map (·.1)).Nodup) (n:Nat):Sk.OldG n lv lv':=by
 rcases h with ⟨_,rfl,_⟩ | ⟨_,_,_,_,rfl,_⟩
 ·exact .refl _ _
 ·exact Sk.mvL_old (f:=Sk.freeL) (fun _ _=>rfl) hd n
theorem Sk.ShipR.old {lv lv':List (Int × Sk.Lv)} {gs gs':List (Int × Sk.Gd)} {o:Int} (h:Sk.ShipR lv gs o lv' gs') (hd:(lv.map (·.1)).Nodup) (n:Nat):Sk.OldG n lv lv':=by
 rcases h with ⟨_,rfl,_⟩ | ⟨_,_,_,_,rfl,_⟩
 ·exact .refl _ _
 ·exact Sk.mvL_old (f:=Sk.shipL) (fun _ _=>rfl) hd n
theorem Sk.RestockR.old {lv lv':List (Int × Sk.Lv)} {gs gs':List (Int × Sk.Gd)} {o:Int} (h:Sk.RestockR lv gs o lv' gs') (hd:(lv.map (·.1)).Nodup) (n:Nat):Sk.OldG n lv lv':=by
 rcases h with ⟨_,rfl,_⟩ | ⟨_,_,_,_,rfl,_⟩
 ·exact .refl _ _
 ·exact Sk.mvL_old (f:=Sk.restockL) (fun _ _=>rfl) hd n
theorem Sk.mset_old {lv:List (Int × Sk.Lv)} {id:Int} {a:Sk.Lv} {n:Nat} (h:(∃ q ∈ lv,q.2.g=a.g)∨n≤a.g):Sk.OldG n lv (mset lv id a):=by
 intro p hp
 rcases mem_mset hp with rfl | ⟨h1,_⟩
 ·exact h
 ·exact .inl ⟨p,h1,rfl⟩
theorem Sk.RecvR.old {lv lv':List (Int × Sk.Lv)} {gs gs':List (Int × Sk.Gd)} {id q:Int} (h:Sk.RecvR lv gs id q lv' gs') (n:Nat):Sk.OldG n lv lv':=by
 obtain ⟨_,⟨_,rfl⟩ | ⟨_,_,a,ha,_,rfl⟩⟩:=h
 ·exact .refl _ _
 ·exact Sk.mset_old (.inl ⟨(id,a),mget_mem ha,rfl⟩)
theorem Sk.item_step2 {n0:Nat} {w:World} {X BL BG:Nat} {lv:List (Int × Sk.Lv)} {gs:List (Int × Sk.Gd)} (h:Sk.IsBook n0 w X BL BG lv gs) (hG:Sk.GoodB lv gs) (hn:n0≤w.heap.size) (id:Int) :
  Calls Tryz.prog 27 #[.pointer (some ⟨X,0,none⟩),.int .i64 id] w fun e w'=>∃ lv' gs',e = .returned (.int .i64 (Sk.itemZ id))∧Sk.IsBook n0 w' X BL BG lv' gs'∧Sk.GoodB lv' gs'∧Sk.ItemR lv gs id lv' gs'∧Sk.OldG w.heap.size lv lv'∧Touch (Sk.Own BL BG lv gs) w w':=by
 by_cases hok:1≤id∧id≤64
 ·have hz:Sk.itemZ id=0:=if_pos hok
  rw [hz]
  cases hm:mget lv id with
  | some a=>exact (Sk.item_old h id hok hm).mono fun e w' ⟨h1,h2⟩=>h2 ▸ ⟨lv,gs,h1,h,hG,⟨rfl,.inr (.inl ⟨hok,⟨a,hm⟩,rfl⟩)⟩,.refl _ _,.of_below (Below.refl _ _)⟩
  | none =>
   refine (Sk.item_new h hn id hok hm).mono ?_
   rintro e w' ⟨h1,⟨g,hg,h2⟩,h3⟩
   exact ⟨_,_,h1,h2,hG.item hm hok g,⟨rfl,.inr (.inr ⟨hok,hm,g,rfl⟩)⟩,Sk.mset_old (.inr hg),h3⟩
 ·have hz:Sk.itemZ id=2:=if_neg hok
  rw [hz]
  exact (Sk.item_no h id hok).mono fun e w' ⟨h1,h2⟩=>h2 ▸ ⟨lv,gs,h1,h,hG,⟨rfl,.inl ⟨hok,rfl⟩⟩,.refl _ _,.of_below (Below.refl _ _)⟩
def RowBy (w:World) (r:Option (Nat × Array Value)) (lv:List (Int × Sk.Lv)):Prop:=∀ q,r=some q→Blk w q.1 53 q.2∧∀ p ∈ lv,p.2.g ≠ q.1
theorem RowBy.next {w w':World} {r:Option (Nat × Array Value)} {lv:List (Int × Sk.Lv)} (h:RowBy w r lv) (hb:Below w.heap.size w w'):RowBy w' r lv:=fun q hq=>⟨(h q hq).1.next hb,(h q hq).2⟩
theorem RowBy.kind {w w':World} {r:Option (Nat × Array Value)} {lv:List (Int × Sk.Lv)} {m0:Nat} {T:List TypeId} {M:List Nat} (h:RowBy w r lv) (hT:Touch (KindIn m0 w T M) w w') (ht:53 ∉ T):RowBy w' r lv:=fun q hq=>⟨hT.blk (h q hq).1 (KindIn.not_blk (h q hq).1 ht),(h q hq).2⟩
theorem RowBy.stock {n0:Nat} {w w':World} {X BL BG:Nat} {lv lv':List (Int × Sk.Lv)} {gs:List (Int × Sk.Gd)} {r:Option (Nat × Array Value)} (h:RowBy w r lv) (hs:Sk.IsBook n0 w X BL BG lv gs) (hT:Touch (Sk.Own BL BG lv gs) w w') (ho:Sk.OldG w.heap.size lv lv'):RowBy w' r lv':=by
 intro q hq
 obtain ⟨hB,hn⟩:=h q hq
 refine ⟨hT.blk hB (fun hk => ?_),fun p hp e => ?_⟩
 ·rcases hk with e | e | ⟨p,hp,e⟩ | ⟨p,hp,e⟩
  ·exact hs.lvs.notBlk hB e.symm
  ·exact hs.gds.notBlk hB e.symm
  ·exact hn p hp e
  ·have hG:=hs.gc p hp
   rw [e] at hG
   exact KindIn.not_blk (n:=0) (T:=[156]) (M:=[]) hB (by decide) (KindIn.of_blk hG (by simp) (Nat.zero_le _))
 ·rcases ho p hp with ⟨p',hp',e'⟩ | hg
  ·exact hn p' hp' (e'.trans e)
  ·have:=hB.lt
   omega
structure OdG (id:Int) (o:Or.Od):Prop where
 i:o.i=id
 len:1≤o.ls.length∧o.ls.length≤4
 sum:0≤o.n∧o.n≤1000000000000000∧0≤o.t∧o.t≤1000000000000000
structure PD (n0 K:Nat) (w:World) (I:DkI) (x:DkX):Prop where
 blk:Blk w I.D 43 #[.pointer (some ⟨I.XC,0,none⟩),.pointer (some ⟨I.XS,0,none⟩),.pointer (some ⟨I.XM,0,none⟩),.pointer (some ⟨I.XO,0,none⟩),.pointer (some ⟨I.XI,0,none⟩)]
 cr:Cr.IsBook n0 w I.XC I.BA I.BH x.ac x.hs
 sk:Sk.IsBook n0 w I.XS I.BL I.BG x.lv x.gs
 mo:Mo.IsC n0 w I.XM I.XL I.ML I.MA x.ca x.d
 od:Or.IsBook n0 w I.XO I.BP I.BO x.pr x.os
 ib:In.IsBox w I.XI I.BI x.m
 gd:Sk.GoodB x.lv x.gs
 gl:x.gs.length≤K
 og:∀ p ∈ x.os,OdG p.1 p.2
 lo:n0≤I.BI∧n0≤I.D∧n0≤w.heap.size
 maps:I.maps.Nodup
 row:RowBy w I.lr x.lv
def TP:List TypeId:=[180,53,156,255,162]
section
variable {n0 K K':Nat} {w w':World} {I:DkI} {x:DkX}
theorem PD.next (h:PD n0 K w I x) (hb:Below w.heap.size w w'):PD n0 K w' I x :=
 ⟨h.blk.next hb,h.cr.next hb,h.sk.next hb,h.mo.next hb,h.od.next hb,h.ib.next hb,h.gd,h.gl,h.og,⟨h.lo.1,h.lo.2.1,Nat.le_trans h.lo.2.2 hb.size⟩,h.maps,h.row.next hb⟩
theorem PD.mono (h:PD n0 K w I x) (hk:K≤K'):PD n0 K' w I x:={ h with gl:=Nat.le_trans h.gl hk }
theorem PD.away (h:PD n0 K w I x) {m0:Nat} {T:List TypeId} {M:List Nat} (hT:Touch (KindIn m0 w T M) w w') (hd:∀ t ∈ [43,119,180,130,53,156,67,195,255,162,184,198],t ∉ T) (hM:∀ m ∈ I.maps,m ∉ M):PD n0 K w' I x :=
 ⟨hT.blk h.blk (KindIn.not_blk h.blk (hd _ (by simp))),Cr.stay h.cr hT (hd _ (by simp)) (hd _ (by simp)) (hM _ (by simp [DkI.maps])) (hM _ (by simp [DkI.maps])),Sk.stay h.sk hT (hd _ (by simp)) (hd _ (by simp)) (hd _ (by simp)) (hd _ (by simp)) (hM _ (by simp [DkI.maps])) (hM _ (by simp [DkI.maps])),
  ⟨Mo.stay h.mo.bk hT (hd _ (by simp)) (hd _ (by simp)) (hd _ (by simp)) (hM _ (by simp [DkI.maps])) (hM _ (by simp [DkI.maps])),h.mo.gd⟩,Or.stay h.od hT (hd _ (by simp)) (hd _ (by simp)) (hM _ (by simp [DkI.maps])) (hM _ (by simp [DkI.maps])),In.stay h.ib hT (hd _ (by simp)) (hM _ (by simp [DkI.maps])),h.gd,h.gl,h.og,⟨h.lo.1,h.lo.2.1,Nat.le_trans h.lo.2.2 hT.size⟩,h.maps,h.row.kind hT (hd _ (by simp))⟩
theorem DkI.ne (h:I.maps.Nodup):(I.BL ∉ [I.BA,I.BH]∧I.BG ∉ [I.BA,I.BH]∧I.ML ∉ [I.BA,I.BH]∧I.MA ∉ [I.BA,I.BH]∧I.BP ∉ [I.BA,I.BH]∧I.BO ∉ [I.BA,I.BH]∧I.BI ∉ [I.BA,I.BH]) ∧
  (I.BA ∉ [I.BL,I.BG]∧I.BH ∉ [I.BL,I.BG]∧I.ML ∉ [I.BL,I.BG]∧I.MA ∉ [I.BL,I.BG]∧I.BP ∉ [I.BL,I.BG]∧I.BO ∉ [I.BL,I.BG]∧I.BI ∉ [I.BL,I.BG]) ∧
  (I.BA ∉ [I.ML,I.MA]∧I.BH ∉ [I.ML,I.MA]∧I.BL ∉ [I.ML,I.MA]∧I.BG ∉ [I.ML,I.MA]∧I.BP ∉ [I.ML,I.MA]∧I.BO ∉ [I.ML,I.MA]∧I.BI ∉ [I.ML,I.MA]) ∧
  (I.BA ∉ [I.BP,I.BO]∧I.BH ∉ [I.BP,I.BO]∧I.BL ∉ [I.BP,I.BO]∧I.BG ∉ [I.BP,I.BO]∧I.ML ∉ [I.BP,I.BO]∧I.MA ∉ [I.BP,I.BO]∧I.BI ∉ [I.BP,I.BO]) ∧
  (I.BA ∉ [I.BI]∧I.BH ∉ [I.BI]∧I.BL ∉ [I.BI]∧I.BG ∉ [I.BI]∧I.ML ∉ [I.BI]∧I.MA ∉ [I.BI]∧I.BP ∉ [I.BI]∧I.BO ∉ [I.BI]):=by
 have s:∀ {a b:Nat},¬ a=b→¬ b=a:=fun h e=>h e.symm
 simp only [DkI.maps,List.nodup_cons,List.mem_cons,List.not_mem_nil,or_false,not_or,not_false_eq_true,List.nodup_nil,and_true] at h
 obtain ⟨⟨h01,h02,h03,h04,h05,h06,h07,h08⟩,⟨h12,h13,h14,h15,h16,h17,h18⟩,⟨h23,h24,h25,h26,h27,h28⟩,⟨h34,h35,h36,h37,h38⟩,⟨h45,h46,h47,h48⟩,⟨h56,h57,h58⟩,⟨h67,h68⟩,h78⟩:=h
 simp only [List.mem_cons,List.not_mem_nil,or_false,not_or]
 exact ⟨⟨⟨(s h02),(s h12)⟩,⟨(s h03),(s h13)⟩,⟨(s h04),(s h14)⟩,⟨(s h05),(s h15)⟩,⟨(s h06),(s h16)⟩,⟨(s h07),(s h17)⟩,⟨(s h08),(s h18)⟩⟩,⟨⟨h02,h03⟩,⟨h12,h13⟩,⟨(s h24),(s h34)⟩,⟨(s h25),(s h35)⟩,⟨(s h26),(s h36)⟩,⟨(s h27),(s h37)⟩,⟨(s h28),(s h38)⟩⟩,⟨⟨h04,h05⟩,⟨h14,h15⟩,⟨h24,h25⟩,⟨h34,h35⟩,⟨(s h46),(s h56)⟩,⟨(s h47),(s h57)⟩,⟨(s h48),(s h58)⟩⟩,⟨⟨h06,h07⟩,⟨h16,h17⟩,⟨h26,h27⟩,⟨h36,h37⟩,⟨h46,h47⟩,⟨h56,h57⟩,⟨(s h68),(s h78)⟩⟩,⟨h08,h18,h28,h38,h48,h58,h68,h78⟩⟩
theorem PD.credit (h:PD n0 K w I x) {ac':List (Int × Cr.Acc)} {hs':List (Int × Cr.Hd)} (hI:Cr.IsBook n0 w' I.XC I.BA I.BH ac' hs') (hT:Touch (Cr.Own I.BA I.BH x.ac) w w'):PD n0 K w' I { x with ac:=ac',hs:=hs' }∧Touch (KindIn n0 w TP I.maps) w w':=by
 have hT1:=hT.kind (fun k _ hk=>Cr.own_kind h.cr hk)
 obtain ⟨⟨m1,m2,m3,m4,m5,m6,m7⟩,_⟩:=DkI.ne h.maps
 exact ⟨⟨hT1.blk h.blk (KindIn.not_blk h.blk (by decide)),hI,Sk.stay h.sk hT1 (by decide) (by decide) (by decide) (by decide) m1 m2,⟨Mo.stay h.mo.bk hT1 (by decide) (by decide) (by decide) m3 m4,h.mo.gd⟩,Or.stay h.od hT1 (by decide) (by decide) m5 m6,In.stay h.ib hT1 (by decide) m7,h.gd,h.gl,h.og,⟨h.lo.1,h.lo.2.1,Nat.le_trans h.lo.2.2 hT.size⟩,h.maps,h.row.kind hT1 (by decide)⟩,
  hT1.kind (fun k _ hk=>hk.mono (by simp [TP]) (by simp [DkI.maps]))⟩
theorem PD.stock (h:PD n0 K w I x) {lv':List (Int × Sk.Lv)} {gs':List (Int × Sk.Gd)} (hI:Sk.IsBook n0 w' I.XS I.BL I.BG lv' gs') (hG:Sk.GoodB lv' gs') (hl:gs'.length≤K') (hT:Touch (Sk.Own I.BL I.BG x.lv x.gs) w w') (ho:Sk.OldG w.heap.size x.lv lv'):PD n0 K' w' I { x with lv:=lv',gs:=gs' }∧Touch (KindIn n0 w TP I.maps) w w':=by
 have hT1:=hT.kind (fun k _ hk=>Sk.own_kind h.sk hk)
 obtain ⟨_,⟨m1,m2,m3,m4,m5,m6,m7⟩,_⟩:=DkI.ne h.maps
 exact ⟨⟨hT1.blk h.blk (KindIn.not_blk h.blk (by decide)),Cr.stay h.cr hT1 (by decide) (by decide) m1 m2,hI,⟨Mo.stay h.mo.bk hT1 (by decide) (by decide) (by decide) m3 m4,h.mo.gd⟩,Or.stay h.od hT1 (by decide) (by decide) m5 m6,In.stay h.ib hT1 (by decide) m7,hG,hl,h.og,⟨h.lo.1,h.lo.2.1,Nat.le_trans h.lo.2.2 hT.size⟩,h.maps,h.row.stock h.sk hT ho⟩,
  hT1.kind (fun k _ hk=>hk.mono (by simp [TP]) (by simp [DkI.maps]))⟩
theorem PD.money (h:PD n0 K w I x) {ca':List (Int × Mo.CP)} {d':Int} (hI:Mo.IsC n0 w' I.XM I.XL I.ML I.MA ca' d') (hT:Touch (Mo.Ch.Own I.XL I.ML I.MA x.ca) w w'):PD n0 K w' I { x with ca:=ca',d:=d' }∧Touch (KindIn n0 w TP I.maps) w w':=by
 have hT1:=hT.kind (fun k _ hk=>Mo.own_kind h.mo.bk hk)
 obtain ⟨_,_,⟨m1,m2,m3,m4,m5,m6,m7⟩,_⟩:=DkI.ne h.maps
 exact ⟨⟨hT1.blk h.blk (KindIn.not_blk h.blk (by decide)),Cr.stay h.cr hT1 (by decide) (by decide) m1 m2,Sk.stay h.sk hT1 (by decide) (by decide) (by decide) (by decide) m3 m4,hI,Or.stay h.od hT1 (by decide) (by decide) m5 m6,In.stay h.ib hT1 (by decide) m7,h.gd,h.gl,h.og,⟨h.lo.1,h.lo.2.1,Nat.le_trans h.lo.2.2 hT.size⟩,h.maps,h.row.kind hT1 (by decide)⟩,
  hT1.kind (fun k _ hk=>hk.mono (by simp [TP]) (by simp [DkI.maps]))⟩
theorem PD.orders (h:PD n0 K w I x) {pr':List (Int × Int)} {os':List (Int × Or.Od)} (hI:Or.IsBook n0 w' I.XO I.BP I.BO pr' os') (hG:∀ p ∈ os',OdG p.1 p.2) (hT:Touch (Or.Own I.BP I.BO) w w'):PD n0 K w' I { x with pr:=pr',os:=os' }∧Touch (KindIn n0 w TP I.maps) w w':=by
 have hT1:=hT.kind (fun k _ hk=>Or.own_kind h.od hk)
 obtain ⟨_,_,_,⟨m1,m2,m3,m4,m5,m6,m7⟩,_⟩:=DkI.ne h.maps
 exact ⟨⟨hT1.blk h.blk (KindIn.not_blk h.blk (by decide)),Cr.stay h.cr hT1 (by decide) (by decide) m1 m2,Sk.stay h.sk hT1 (by decide) (by decide) (by decide) (by decide) m3 m4,⟨Mo.stay h.mo.bk hT1 (by decide) (by decide) (by decide) m5 m6,h.mo.gd⟩,hI,In.stay h.ib hT1 (by decide) m7,h.gd,h.gl,hG,⟨h.lo.1,h.lo.2.1,Nat.le_trans h.lo.2.2 hT.size⟩,h.maps,h.row.kind hT1 (by decide)⟩,
  hT1.kind (fun k _ hk=>hk.mono (by simp) (by simp [DkI.maps]))⟩
theorem PD.inbox (h:PD n0 K w I x) {m':List ((Int × Int) × In.Ent)} (hI:In.IsBox w' I.XI I.BI m') (hg:w.grownBy w' (some I.BI)):PD n0 K w' I { x with m:=m' }∧Touch (KindIn n0 w TP I.maps) w w':=by
 have hT1:=(Touch.of_grown hg).kind (fun k _ hk=>In.own_kind h.ib hk h.lo.1)
 obtain ⟨_,_,_,_,⟨m1,m2,m3,m4,m5,m6,m7,m8⟩⟩:=DkI.ne h.maps
 exact ⟨⟨hT1.blk h.blk (KindIn.not_blk h.blk (by decide)),Cr.stay h.cr hT1 (by decide) (by decide) m1 m2,Sk.stay h.sk hT1 (by decide) (by decide) (by decide) (by decide) m3 m4,⟨Mo.stay h.mo.bk hT1 (by decide) (by decide) (by decide) m5 m6,h.mo.gd⟩,Or.stay h.od hT1 (by decide) (by decide) m7 m8,hI,h.gd,h.gl,h.og,⟨h.lo.1,h.lo.2.1,Nat.le_trans h.lo.2.2 hT1.size⟩,h.maps,h.row.kind hT1 (by decide)⟩,
  hT1.kind (fun k _ hk=>hk.mono (by simp) (by simp [DkI.maps]))⟩
theorem PD.beside {g:Nat} {t:TypeId} {cs:Array Value} (h:PD n0 K w I x) (hB:Blk w g t cs) (hT:Touch (KindIn n0 w TP I.maps) w w') (ht:t ∉ TP):Blk w' g t cs:=hT.blk hB (KindIn.not_blk hB ht)
end
def relZ (hs:List (Int × Cr.Hd)) (o:Int):Int:=match mget hs o with | none=>70 | some _=>0
def RelRel (ac:List (Int × Cr.Acc)) (hs:List (Int × Cr.Hd)) (o:Int) (ac':List (Int × Cr.Acc)) (hs':List (Int × Cr.Hd)):Prop :=
 (mget hs o=none∧ac'=ac∧hs'=hs)∨∃ d a,mget hs o=some d∧mget ac d.c=some a∧ac'=mset ac d.c ⟨a.g,a.l,wrap64 (a.e - d.a)⟩∧hs'=mdel hs o
def HoldRel (ac:List (Int × Cr.Acc)) (hs:List (Int × Cr.Hd)) (o c n:Int) (ac':List (Int × Cr.Acc)) (hs':List (Int × Cr.Hd)):Prop :=
 (Cr.holdR ac hs o c n ≠ 0∧ac'=ac∧hs'=hs)∨(Cr.holdR ac hs o c n=0∧∃ a,mget ac c=some a∧n≤wrap64 (a.l - a.e)∧ac'=mset ac c ⟨a.g,a.l,wrap64 (a.e + n)⟩∧hs'=mset hs o ⟨o,c,n⟩)
def MonR (x x':DkX) (o:Int) (r:Mo.ResC):Prop:=∃ ca',Mo.cfind ca'=Mo.updC (Mo.cfind x.ca) o r.acc∧x'={ x with ca:=ca',d:=r.d }
def SvcR (k:Nat) (o:Or.Od) (x x':DkX) (p:Bool) (c:Int):Prop :=
 (k=1∧p=false∧c=Cr.holdR x.ac x.hs o.i o.c (o.n + o.t)∧∃ ac' hs',HoldRel x.ac x.hs o.i o.c (o.n + o.t) ac' hs'∧x'={ x with ac:=ac',hs:=hs' }) ∨
 (k=2∧p=false∧c=relZ x.hs o.i∧∃ ac' hs',RelRel x.ac x.hs o.i ac' hs'∧x'={ x with ac:=ac',hs:=hs' }) ∨
 (k=3∧p=false∧c=Sk.allocZ x.lv x.gs o.i (o.ls.map toSk)∧∃ lv' gs',Sk.AllocR x.lv x.gs o.i (o.ls.map toSk) lv' gs'∧x'={ x with lv:=lv',gs:=gs' }) ∨
 (k=4∧p=false∧c=Sk.freeZ x.gs o.i∧∃ lv' gs',Sk.FreeR x.lv x.gs o.i lv' gs'∧x'={ x with lv:=lv',gs:=gs' }) ∨
 (k=5∧p=false∧c=Sk.goZ x.gs o.i 1∧∃ lv' gs',Sk.ShipR x.lv x.gs o.i lv' gs'∧x'={ x with lv:=lv',gs:=gs' }) ∨
 (k=6∧p=false∧c=Sk.goZ x.gs o.i 2∧∃ lv' gs',Sk.RestockR x.lv x.gs o.i lv' gs'∧x'={ x with lv:=lv',gs:=gs' }) ∨
 (k=7∧p=(Mo.invR (Mo.cfind x.ca) x.d o.i o.c o.n o.t).paid∧c=(Mo.invR (Mo.cfind x.ca) x.d o.i o.c o.n o.t).code∧MonR x x' o.i (Mo.invR (Mo.cfind x.ca) x.d o.i o.c o.n o.t)) ∨
 (k=8∧p=false∧c=(Mo.memR (Mo.cfind x.ca) x.d o.i).code∧MonR x x' o.i (Mo.memR (Mo.cfind x.ca) x.d o.i)) ∨
 (k=9∧p=false∧c=(Mo.refR (Mo.cfind x.ca) x.d o.i).2.code∧MonR x x' o.i (Mo.refR (Mo.cfind x.ca) x.d o.i).2)
end Go.Proofs.YtakaalldbnklcaaGreat
namespace Go.Proofs.YtakaalldbnklcaaGreat
open Go.RowKit Go.WideShapes Go.ChangeShapes Go.ChangeAt Go.Deep
set_option linter.unusedVariables false
section
variable {n0 K:Nat} {w w':World} {I:DkI} {x:DkX}
theorem rel_any {X BA BH:Nat} {ac:List (Int × Cr.Acc)} {hs:List (Int × Cr.Hd)} (h:Cr.IsBook n0 w X BA BH ac hs) (o:Int) :
  Calls Tryz.prog 168 #[.pointer (some ⟨X,0,none⟩),.int .i64 o] w fun e w'=>e = .returned (.int .i64 (relZ hs o))∧∃ ac' hs',Cr.IsBook n0 w' X BA BH ac' hs'∧RelRel ac hs o ac' hs'∧Touch (Cr.Own BA BH ac) w w':=by
 cases hm:mget hs o with
 | none =>
  refine (Cr.release_no h o hm).mono ?_
  rintro e w' ⟨h1,hb⟩
  exact ⟨by rw [h1,relZ,hm],ac,hs,h.next hb,.inl ⟨hm,rfl,rfl⟩,.of_below hb⟩
 | some d =>
  obtain ⟨a,ha⟩:=h.has (o,d) (mget_mem hm)
  refine (Cr.release_yes h o d hm a ha).mono ?_
  rintro e w' ⟨h1,h2,h3⟩
  exact ⟨by rw [h1,relZ,hm],_,_,h2,.inr ⟨d,a,hm,ha,rfl,rfl⟩,h3⟩
theorem hold_any {X BA BH:Nat} {ac:List (Int × Cr.Acc)} {hs:List (Int × Cr.Hd)} (h:Cr.IsBook n0 w X BA BH ac hs) (o c n:Int) :
  Calls Tryz.prog 117 #[.pointer (some ⟨X,0,none⟩),.int .i64 o,.int .i64 c,.int .i64 n] w fun e w'=>e = .returned (.int .i64 (Cr.holdR ac hs o c n))∧∃ ac' hs',Cr.IsBook n0 w' X BA BH ac' hs'∧HoldRel ac hs o c n ac' hs'∧Touch (Cr.Own BA BH ac) w w':=by
 by_cases hok:1≤o∧0≤n∧n≤1125899906842624
 ·by_cases hr:Cr.holdR ac hs o c n=0
  ·have hr':=hr
   unfold Cr.holdR at hr
   rw [if_pos hok] at hr
   cases ha:mget ac c with
   | none=>rw [ha] at hr; simp at hr
   | some a =>
    rw [ha] at hr
    simp only at hr
    cases hm:mget hs o with
    | some d=>rw [hm] at hr; simp at hr
    | none =>
     rw [hm] at hr
     simp only [Option.isSome_none,Bool.false_eq_true,if_false] at hr
     have hle:n≤wrap64 (a.l - a.e):=by
      by_cases hlt:wrap64 (a.l - a.e) < n
      ·rw [if_pos hlt] at hr; cases hr
      ·omega
     refine (Cr.hold_ok h o c n hok a ha hm hle).mono ?_
     rintro e w' ⟨h1,h2,h3⟩
     exact ⟨by rw [h1,hr'],_,_,h2,.inr ⟨hr',a,ha,hle,rfl,rfl⟩,h3⟩
  ·refine (Cr.hold_no h o c n hok hr).mono ?_
   rintro e w' ⟨h1,hb⟩
   exact ⟨h1,ac,hs,h.next hb,.inl ⟨hr,rfl,rfl⟩,.of_below hb⟩
 ·have hr:Cr.holdR ac hs o c n=2:=by unfold Cr.holdR; rw [if_neg hok]
  refine (Cr.hold_arg h o c n hok).mono ?_
  rintro e w' ⟨h1,rfl⟩
  exact ⟨by rw [h1,hr],ac,hs,h,.inl ⟨by rw [hr]; decide,rfl,rfl⟩,.refl _ _⟩
def SvPost (n0 K:Nat) (I:DkI) (x:DkX) (k:Nat) (o:Or.Od) (w w':World) (p:Bool) (c:Int):Prop:=∃ x',SvcR k o x x' p c∧PD n0 (K + 1) w' I x'∧Touch (KindIn n0 w TP I.maps) w w'
set_option maxRecDepth 100000 in
set_option maxHeartbeats 4000000 in
theorem svc2_any (h:PD n0 K w I x) (hK:K≤3000000000000) (o:Or.Od):Calls Tryz.prog 119 #[.pointer (some ⟨I.D,0,none⟩),.int .i64 o.i] w fun e w'=>∃ c,e = .returned (.int .i64 c)∧SvPost n0 K I x 2 o w w' false c:=by
 have KC:=hid (rel_any h.cr o.i)
 have c0:w.cell? ⟨I.D,0,none⟩=some (.pointer (some ⟨I.XC,0,none⟩)):=h.blk.cell 0
 have lD:=h.blk.lt
 have H:=hid h
 clear h
 go_enter Tryz.func119,Tryz.ntmps119
 go_wp2_with fail
 refine KC.out.mono ?_
 rintro e w1 ⟨rfl,ac',hs',hI,hR,hT⟩
 obtain ⟨hP,hT2⟩:=H.out.credit hI hT
 have HF:=hid (show SvPost n0 K I x 2 o w w1 false _ from ⟨_,.inr (.inl ⟨rfl,rfl,rfl,ac',hs',hR,rfl⟩),hP.mono (by omega),hT2⟩)
 clear KC c0 lD hP hT2
 go_wp2_with fail
 go_ret
 exact ⟨_,rfl,HF.out⟩
set_option maxRecDepth 100000 in
set_option maxHeartbeats 4000000 in
theorem svc4_any (h:PD n0 K w I x) (hK:K≤3000000000000) (o:Or.Od):Calls Tryz.prog 122 #[.pointer (some ⟨I.D,0,none⟩),.int .i64 o.i] w fun e w'=>∃ c,e = .returned (.int .i64 c)∧SvPost n0 K I x 4 o w w' false c:=by
 have KC:=hid (Sk.free_step h.sk h.gd (Nat.le_trans h.gl hK) o.i)
 have c0:w.cell? ⟨I.D,1,none⟩=some (.pointer (some ⟨I.XS,0,none⟩)):=h.blk.cell 1
 have lD:=h.blk.lt
 have H:=hid h
 clear h
 go_enter Tryz.func122,Tryz.ntmps122
 go_wp2_with fail
 refine KC.out.mono ?_
 rintro e w1 ⟨lv',gs',rfl,hI,hG,hR,hl,hT⟩
 obtain ⟨hP,hT2⟩:=H.out.stock hI hG (K':=K + 1) (by have:=H.out.gl; omega) hT (Sk.FreeR.old hR H.out.sk.lvs.nodup _)
 have HF:=hid (show SvPost n0 K I x 4 o w w1 false _ from ⟨_,.inr (.inr (.inr (.inl ⟨rfl,rfl,rfl,lv',gs',hR,rfl⟩))),hP.mono (by omega),hT2⟩)
 clear KC c0 lD hP hT2
 go_wp2_with fail
 go_ret
 exact ⟨_,rfl,HF.out⟩
set_option maxRecDepth 100000 in
set_option maxHeartbeats 4000000 in
theorem svc5_any (h:PD n0 K w I x) (hK:K≤3000000000000) (o:Or.Od):Calls Tryz.prog 123 #[.pointer (some ⟨I.D,0,none⟩),.int .i64 o.i] w fun e w'=>∃ c,e = .returned (.int .i64 c)∧SvPost n0 K I x 5 o w w' false c:=by
 have KC:=hid (Sk.ship_step h.sk h.gd (Nat.le_trans h.gl hK) o.i)
 have c0:w.cell? ⟨I.D,1,none⟩=some (.pointer (some ⟨I.XS,0,none⟩)):=h.blk.cell 1
 have lD:=h.blk.lt
 have H:=hid h
 clear h
 go_enter Tryz.func123,Tryz.ntmps123
 go_wp2_with fail
 refine KC.out.mono ?_
 rintro e w1 ⟨lv',gs',rfl,hI,hG,hR,hl,hT⟩
 obtain ⟨hP,hT2⟩:=H.out.stock hI hG (K':=K + 1) (by have:=H.out.gl; omega) hT (Sk.ShipR.old hR H.out.sk.lvs.nodup _)
 have HF:=hid (show SvPost n0 K I x 5 o w w1 false _ from ⟨_,.inr (.inr (.inr (.inr (.inl ⟨rfl,rfl,rfl,lv',gs',hR,rfl⟩)))),hP.mono (by omega),hT2⟩)
 clear KC c0 lD hP hT2
 go_wp2_with fail
 go_ret
 exact ⟨_,rfl,HF.out⟩
set_option maxRecDepth 100000 in
set_option maxHeartbeats 4000000 in
theorem svc6_any (h:PD n0 K w I x) (hK:K≤3000000000000) (o:Or.Od):Calls Tryz.prog 124 #[.pointer (some ⟨I.D,0,none⟩),.int .i64 o.i] w fun e w'=>∃ c,e = .returned (.int .i64 c)∧SvPost n0 K I x 6 o w w' false c:=by
 have KC:=hid (Sk.restock_step h.sk h.gd (Nat.le_trans h.gl hK) o.i)
 have c0:w.cell? ⟨I.D,1,none⟩=some (.pointer (some ⟨I.XS,0,none⟩)):=h.blk.cell 1
 have lD:=h.blk.lt
 have H:=hid h
 clear h
 go_enter Tryz.func124,Tryz.ntmps124
 go_wp2_with fail
 refine KC.out.mono ?_
 rintro e w1 ⟨lv',gs',rfl,hI,hG,hR,hl,hT⟩
 obtain ⟨hP,hT2⟩:=H.out.stock hI hG (K':=K + 1) (by have:=H.out.gl; omega) hT (Sk.RestockR.old hR H.out.sk.lvs.nodup _)
 have HF:=hid (show SvPost n0 K I x 6 o w w1 false _ from ⟨_,.inr (.inr (.inr (.inr (.inr (.inl ⟨rfl,rfl,rfl,lv',gs',hR,rfl⟩))))),hP.mono (by omega),hT2⟩)
 clear KC c0 lD hP hT2
 go_wp2_with fail
 go_ret
 exact ⟨_,rfl,HF.out⟩
set_option maxRecDepth 100000 in
set_option maxHeartbeats 4000000 in
theorem svc8_any (h:PD n0 K w I x) (hK:K≤3000000000000) (o:Or.Od):Calls Tryz.prog 127 #[.pointer (some ⟨I.D,0,none⟩),.int .i64 o.i] w fun e w'=>∃ c,e = .returned (.int .i64 c)∧SvPost n0 K I x 8 o w w' false c:=by
 have KC:=hid (Mo.cmem_any h.mo o.i)
 have c0:w.cell? ⟨I.D,2,none⟩=some (.pointer (some ⟨I.XM,0,none⟩)):=h.blk.cell 2
 have lD:=h.blk.lt
 have H:=hid h
 clear h
 go_enter Tryz.func127,Tryz.ntmps127
 go_wp2_with fail
 refine KC.out.mono ?_
 rintro e w1 ⟨rfl,ca',hC,hF,hT,_⟩
 obtain ⟨hP,hT2⟩:=H.out.money hC hT
 have HF:=hid (show SvPost n0 K I x 8 o w w1 false _ from ⟨_,.inr (.inr (.inr (.inr (.inr (.inr (.inr (.inl ⟨rfl,rfl,rfl,ca',hF,rfl⟩))))))),hP.mono (by omega),hT2⟩)
 clear KC c0 lD hP hT2
 go_wp2_with fail
 go_ret
 exact ⟨_,rfl,HF.out⟩
set_option maxRecDepth 100000 in
set_option maxHeartbeats 4000000 in
theorem svc9_any (h:PD n0 K w I x) (hK:K≤3000000000000) (o:Or.Od):Calls Tryz.prog 128 #[.pointer (some ⟨I.D,0,none⟩),.int .i64 o.i] w fun e w'=>∃ c,e = .returned (.int .i64 c)∧SvPost n0 K I x 9 o w w' false c:=by
 have KC:=hid (Mo.cref_any h.mo o.i)
 have c0:w.cell? ⟨I.D,2,none⟩=some (.pointer (some ⟨I.XM,0,none⟩)):=h.blk.cell 2
 have lD:=h.blk.lt
 have H:=hid h
 clear h
 go_enter Tryz.func128,Tryz.ntmps128
 go_wp2_with fail
 refine KC.out.mono ?_
 rintro e w1 ⟨rfl,ca',hC,hF,hT,_⟩
 obtain ⟨hP,hT2⟩:=H.out.money hC hT
 have HF:=hid (show SvPost n0 K I x 9 o w w1 false _ from ⟨_,.inr (.inr (.inr (.inr (.inr (.inr (.inr (.inr (⟨rfl,rfl,rfl,ca',hF,rfl⟩)))))))),hP.mono (by omega),hT2⟩)
 clear KC c0 lD hP hT2
 go_wp2_with fail
 go_ret
 exact ⟨_,rfl,HF.out⟩
theorem Touch.kinds {n0:Nat} {T:List TypeId} {M:List Nat} {w w1 w2:World} (h1:Touch (KindIn n0 w T M) w w1) (h2:Touch (KindIn n0 w1 T M) w1 w2):Touch (KindIn n0 w T M) w w2 :=
 h1.trans h2 (fun k hk=>by
  by_cases hlt:k < w.heap.size
  ·by_cases hS:KindIn n0 w T M k
   ·exact .inl hS
   ·exact .inl (hk.back h1 hlt hS)
  ·exact .inr (by omega))
theorem SvPost.after {k:Nat} {o:Or.Od} {w1 w2:World} {pd:Bool} {c:Int} (hb:Below w.heap.size w w1) (h:SvPost n0 K I x k o w1 w2 pd c):SvPost n0 K I x k o w w2 pd c:=by
 obtain ⟨x',h1,h2,h3⟩:=h
 exact ⟨x',h1,h2,Touch.kinds (.of_below hb) h3⟩
set_option maxRecDepth 100000 in
set_option maxHeartbeats 4000000 in
theorem plain_svc {k:Nat} {F:FuncId} {g:Nat} (hN:∀ args (w:World),(callFunc F args).run Tryz.prog w = .ok (.enter F args) w) (o:Or.Od) (hg:Blk w g 270 #[.func (.func F) #[] #[]])
  (hF:∀ w',Below w.heap.size w w'→Calls Tryz.prog F #[.pointer (some ⟨I.D,0,none⟩),.int .i64 o.i] w' fun e w''=>∃ c,e = .returned (.int .i64 c)∧SvPost n0 K I x k o w' w'' false c) :
  Calls Tryz.prog 167 #[.pointer (some ⟨I.D,0,none⟩),Or.enO o,.pointer (some ⟨g,0,none⟩)] w fun e w'=>∃ c,e = .returned (.tuple #[.bool false,.int .i64 c])∧SvPost n0 K I x k o w w' false c:=by
 obtain ⟨oi,oc,of,ob,ocp,ols,on,ot⟩:=o
 simp only [Or.enO] at hF ⊢
 have hwb:Below w.heap.size w (w.alloc (.cells #[.int .i64 oi,.int .i64 oc,.string of,.slice (some ⟨ob,0,none⟩) ols.length ocp,.int .i64 on,.int .i64 ot] 166)):=(Below.refl _ _).alloc (Nat.le_refl _) _
 have HB:=hid hwb
 have KF:=hid (hF _ hwb)
 have hg2:=hg.next hwb
 have g0:(w.alloc (.cells #[.int .i64 oi,.int .i64 oc,.string of,.slice (some ⟨ob,0,none⟩) ols.length ocp,.int .i64 on,.int .i64 ot] 166)).cell? ⟨g,0,none⟩=some (.func (.func F) #[] #[]):=hg2.cell 0
 have lg:=hg.lt
 clear hF hwb hg2 hg
 go_enter Tryz.func167,Tryz.ntmps167
 go_wp2_with fail
 refine KF.out.mono ?_
 rintro e w5 ⟨c,rfl,hS⟩
 have HF:=hid (SvPost.after HB.out hS)
 clear KF hS g0
 go_wp2_with fail
 go_ret2
 exact ⟨c,rfl,HF.out⟩
set_option maxRecDepth 100000 in
set_option maxHeartbeats 4000000 in
theorem find1_any (h:PD n0 K w I x) (hK:K≤3000000000000) (o:Or.Od) (hn : -4611686018427387904≤o.n + o.t∧o.n + o.t≤4611686018427387904):Calls Tryz.prog 116 #[.pointer (some ⟨I.D,0,none⟩),Or.enO o] w fun e w'=>∃ p c,e = .returned (.tuple #[.bool p,.int .i64 c])∧SvPost n0 K I x 1 o w w' p c:=by
 obtain ⟨oi,oc,of,ob,ocp,ols,on,ot⟩:=o
 simp only [Or.enO] at hn ⊢
 have ws:IntKind.i64.wrap (on + ot)=on + ot:=IntWalk.i64_in _ ⟨by omega,by omega⟩
 clear hn
 have hwb:Below w.heap.size w (w.alloc (.cells #[.int .i64 oi,.int .i64 oc,.string of,.slice (some ⟨ob,0,none⟩) ols.length ocp,.int .i64 on,.int .i64 ot] 166)):=(Below.refl _ _).alloc (Nat.le_refl _) _
 have hGB:=Blk.new w 166 #[.int .i64 oi,.int .i64 oc,.string of,.slice (some ⟨ob,0,none⟩) ols.length ocp,.int .i64 on,.int .i64 ot]
 have hz:=h.next hwb
 obtain ⟨wz,hwz⟩:∃ wz,wz=w.alloc (.cells #[.int .i64 oi,.int .i64 oc,.string of,.slice (some ⟨ob,0,none⟩) ols.length ocp,.int .i64 on,.int .i64 ot] 166):=⟨_,rfl⟩
 obtain ⟨G,hGe⟩:∃ G,G=w.heap.size:=⟨_,rfl⟩
 have HW:=hid hwz
 have HGe:=hid hGe
 rw [← hwz] at hGB hz hwb
 rw [← hGe] at hGB
 have hbd:Below wz.heap.size wz wz.drew:=below_drewN (Below.refl _ _) 1
 have hzd:=hz.next hbd
 have hGd:=hGB.next hbd
 have hbz:=bthen hwb hbd
 have KC:=hid (hold_any hzd.cr oi oc (on + ot))
 have c0:wz.drew.cell? ⟨I.D,0,none⟩=some (.pointer (some ⟨I.XC,0,none⟩)):=hzd.blk.cell 0
 have g0:wz.drew.cell? ⟨G,0,none⟩=some (.int .i64 oi):=hGd.cell 0
 have g1:wz.drew.cell? ⟨G,1,none⟩=some (.int .i64 oc):=hGd.cell 1
 have g4:wz.drew.cell? ⟨G,4,none⟩=some (.int .i64 on):=hGd.cell 4
 have g5:wz.drew.cell? ⟨G,5,none⟩=some (.int .i64 ot):=hGd.cell 5
 obtain ⟨C,hCd⟩:∃ C:World→Prop,∀ w',C w' ↔ w'=wz.drew:=⟨_,fun _=>Iff.rfl⟩
 have hC:C wz.drew:=(hCd _).2 rfl
 have f9:∀ p:In C,p.w.cell? ⟨I.D,0,none⟩=some (.pointer (some ⟨I.XC,0,none⟩)):=fun p=>by rw [(hCd _).1 p.h]; exact c0
 have f0:∀ p:In C,p.w.cell? ⟨G,0,none⟩=some (.int .i64 oi):=fun p=>by rw [(hCd _).1 p.h]; exact g0
 have f1:∀ p:In C,p.w.cell? ⟨G,1,none⟩=some (.int .i64 oc):=fun p=>by rw [(hCd _).1 p.h]; exact g1
 have f4:∀ p:In C,p.w.cell? ⟨G,4,none⟩=some (.int .i64 on):=fun p=>by rw [(hCd _).1 p.h]; exact g4
 have f5:∀ p:In C,p.w.cell? ⟨G,5,none⟩=some (.int .i64 ot):=fun p=>by rw [(hCd _).1 p.h]; exact g5
 have HCd:=hid hCd
 have HZ:=hid (And.intro hzd hbz)
 clear h hwb hGB hz hwz hGe hbd hzd hGd hbz c0 g0 g1 g4 g5 hCd
 go_enter Tryz.func116,Tryz.ntmps116
 go_wp2_with fail
 rw [← HW.out, ← HGe.out]
 refine wp_region_in_tail C 13 (by kernel_rfl) (by kernel_rfl) hC ?_
 intro hne
 clear hC
 refine wpIn_quiet ?_
 simp only [List.take_succ_cons,List.take_zero,List.drop_succ_cons,List.drop_zero]
 repeat (first | go_big_quiet_step (fail) | quiet_step (fail))
 refine wpQuiet_nil ?_
 intro wp hwp
 obtain rfl:=(HCd.out _).1 hwp
 clear f9 f0 f1 f4 f5 hne hwp HCd
 go_wp2_with fail
 refine KC.out.mono ?_
 rintro e w5 ⟨rfl,ac',hs',hI,hR,hT⟩
 obtain ⟨hP,hT2⟩:=HZ.out.1.credit hI hT
 have HF:=hid (SvPost.after HZ.out.2 (show SvPost n0 K I x 1 ⟨oi,oc,of,ob,ocp,ols,on,ot⟩ wz.drew w5 _ _ from ⟨_,.inl ⟨rfl,rfl,rfl,ac',hs',hR,rfl⟩,hP.mono (by omega),hT2⟩))
 clear KC hP hT2 HZ
 go_wp2_with fail
 go_ret2
 exact ⟨_,_,rfl,HF.out⟩
set_option maxRecDepth 100000 in
set_option maxHeartbeats 4000000 in
theorem find2_any (h:PD n0 K w I x) (hK:K≤3000000000000) (o:Or.Od) (hL:Rd w (some ⟨o.b,0,none⟩) (o.ls.flatMap Or.enL)∧o.ls.length≤o.cap∧o.cap≤maxLen):Calls Tryz.prog 120 #[.pointer (some ⟨I.D,0,none⟩),Or.enO o] w fun e w'=>∃ p c,e = .returned (.tuple #[.bool p,.int .i64 c])∧SvPost n0 K I x 3 o w w' p c:=by
 obtain ⟨oi,oc,of,ob,ocp,ols,on,ot⟩:=o
 simp only [Or.enO] at hL ⊢
 have hwb:Below w.heap.size w (w.alloc (.cells #[.int .i64 oi,.int .i64 oc,.string of,.slice (some ⟨ob,0,none⟩) ols.length ocp,.int .i64 on,.int .i64 ot] 166)):=(Below.refl _ _).alloc (Nat.le_refl _) _
 have hGB:=Blk.new w 166 #[.int .i64 oi,.int .i64 oc,.string of,.slice (some ⟨ob,0,none⟩) ols.length ocp,.int .i64 on,.int .i64 ot]
 have hz:=h.next hwb
 obtain ⟨wz,hwz⟩:∃ wz,wz=w.alloc (.cells #[.int .i64 oi,.int .i64 oc,.string of,.slice (some ⟨ob,0,none⟩) ols.length ocp,.int .i64 on,.int .i64 ot] 166):=⟨_,rfl⟩
 obtain ⟨G,hGe⟩:∃ G,G=w.heap.size:=⟨_,rfl⟩
 have HW:=hid hwz
 have HGe:=hid hGe
 rw [← hwz] at hGB hz hwb
 rw [← hGe] at hGB
 have hbd:Below wz.heap.size wz wz.drew:=below_drewN (Below.refl _ _) 1
 have hzd:=hz.next hbd
 have hGd:=hGB.next hbd
 have hbz:=bthen hwb hbd
 have KC:=hid (show Calls Tryz.prog 121 #[.pointer (some ⟨I.XS,0,none⟩),.int .i64 oi,.slice (some ⟨ob,0,none⟩) ols.length ocp] wz.drew (Sk.StepPost n0 I.XS I.BL I.BG x.lv x.gs (Sk.allocZ x.lv x.gs oi (ols.map toSk)) (Sk.AllocR x.lv x.gs oi (ols.map toSk)) wz.drew) from by
  have:=Sk.alloc_step hzd.sk hzd.gd hzd.lo.2.2 (Nat.le_trans hzd.gl hK) oi (some ⟨ob,0,none⟩) ocp (ols.map toSk) (by rw [toSk_flat]; exact hL.1.below hbz) (by rw [List.length_map]; exact hL.2.1) hL.2.2
  rwa [List.length_map] at this)
 have c0:wz.drew.cell? ⟨I.D,1,none⟩=some (.pointer (some ⟨I.XS,0,none⟩)):=hzd.blk.cell 1
 have g0:wz.drew.cell? ⟨G,0,none⟩=some (.int .i64 oi):=hGd.cell 0
 have g3:wz.drew.cell? ⟨G,3,none⟩=some (.slice (some ⟨ob,0,none⟩) ols.length ocp):=hGd.cell 3
 obtain ⟨C,hCd⟩:∃ C:World→Prop,∀ w',C w' ↔ w'=wz.drew:=⟨_,fun _=>Iff.rfl⟩
 have hC:C wz.drew:=(hCd _).2 rfl
 have f9:∀ p:In C,p.w.cell? ⟨I.D,1,none⟩=some (.pointer (some ⟨I.XS,0,none⟩)):=fun p=>by rw [(hCd _).1 p.h]; exact c0
 have f0:∀ p:In C,p.w.cell? ⟨G,0,none⟩=some (.int .i64 oi):=fun p=>by rw [(hCd _).1 p.h]; exact g0
 have f3:∀ p:In C,p.w.cell? ⟨G,3,none⟩=some (.slice (some ⟨ob,0,none⟩) ols.length ocp):=fun p=>by rw [(hCd _).1 p.h]; exact g3
 have HCd:=hid hCd
 have HZ:=hid (And.intro hzd hbz)
 clear h hwb hGB hz hwz hGe hbd hzd hGd hbz c0 g0 g3 hCd
 go_enter Tryz.func120,Tryz.ntmps120
 go_wp2_with fail
 rw [← HW.out, ← HGe.out]
 refine wp_region_in_tail C 8 (by kernel_rfl) (by kernel_rfl) hC ?_
 intro hne
 clear hC
 refine wpIn_quiet ?_
 simp only [List.take_succ_cons,List.take_zero,List.drop_succ_cons,List.drop_zero]
 repeat (first | go_big_quiet_step (fail) | quiet_step (fail))
 refine wpQuiet_nil ?_
 intro wp hwp
 obtain rfl:=(HCd.out _).1 hwp
 clear f9 f0 f3 hne hwp HCd
 go_wp2_with fail
 refine KC.out.mono ?_
 rintro e w5 ⟨lv',gs',rfl,hI,hG,hR,hl,hT⟩
 obtain ⟨hP,hT2⟩:=HZ.out.1.stock hI hG (K':=K + 1) (by have:=HZ.out.1.gl; omega) hT (Sk.AllocR.old hR HZ.out.1.sk.lvs.nodup _)
 have HF:=hid (SvPost.after HZ.out.2 (show SvPost n0 K I x 3 ⟨oi,oc,of,ob,ocp,ols,on,ot⟩ wz.drew w5 _ _ from ⟨_,.inr (.inr (.inl ⟨rfl,rfl,rfl,lv',gs',hR,rfl⟩)),hP.mono (by omega),hT2⟩))
 clear KC hP hT2 HZ
 go_wp2_with fail
 go_ret2
 exact ⟨_,_,rfl,HF.out⟩
set_option maxRecDepth 100000 in
set_option maxHeartbeats 4000000 in
theorem find3_any (h:PD n0 K w I x) (hK:K≤3000000000000) (o:Or.Od):Calls Tryz.prog 125 #[.pointer (some ⟨I.D,0,none⟩),Or.enO o] w fun e w'=>∃ p c,e = .returned (.tuple #[.bool p,.int .i64 c])∧SvPost n0 K I x 7 o w w' p c:=by
 obtain ⟨oi,oc,of,ob,ocp,ols,on,ot⟩:=o
 simp only [Or.enO]
 have hwb:Below w.heap.size w (w.alloc (.cells #[.int .i64 oi,.int .i64 oc,.string of,.slice (some ⟨ob,0,none⟩) ols.length ocp,.int .i64 on,.int .i64 ot] 166)):=(Below.refl _ _).alloc (Nat.le_refl _) _
 have hGB:=Blk.new w 166 #[.int .i64 oi,.int .i64 oc,.string of,.slice (some ⟨ob,0,none⟩) ols.length ocp,.int .i64 on,.int .i64 ot]
 have hz:=h.next hwb
 obtain ⟨wz,hwz⟩:∃ wz,wz=w.alloc (.cells #[.int .i64 oi,.int .i64 oc,.string of,.slice (some ⟨ob,0,none⟩) ols.length ocp,.int .i64 on,.int .i64 ot] 166):=⟨_,rfl⟩
 obtain ⟨G,hGe⟩:∃ G,G=w.heap.size:=⟨_,rfl⟩
 have HW:=hid hwz
 have HGe:=hid hGe
 rw [← hwz] at hGB hz hwb
 rw [← hGe] at hGB
 have hbd:Below wz.heap.size wz wz.drew:=below_drewN (Below.refl _ _) 1
 have hzd:=hz.next hbd
 have hGd:=hGB.next hbd
 have hbz:=bthen hwb hbd
 have KC0:=Mo.cinv_any hzd.mo hzd.lo.2.2 oi oc on ot
 obtain ⟨pb,hpb⟩:∃ pb,pb=(Mo.invR (Mo.cfind x.ca) x.d oi oc on ot).paid:=⟨_,rfl⟩
 obtain ⟨cd,hcd⟩:∃ cd,cd=(Mo.invR (Mo.cfind x.ca) x.d oi oc on ot).code:=⟨_,rfl⟩
 rw [← hpb, ← hcd] at KC0
 have HPB:=hid (And.intro hpb hcd)
 have KC:=hid KC0
 clear KC0 hpb hcd
 have c0:wz.drew.cell? ⟨I.D,2,none⟩=some (.pointer (some ⟨I.XM,0,none⟩)):=hzd.blk.cell 2
 have g0:wz.drew.cell? ⟨G,0,none⟩=some (.int .i64 oi):=hGd.cell 0
 have g1:wz.drew.cell? ⟨G,1,none⟩=some (.int .i64 oc):=hGd.cell 1
 have g4:wz.drew.cell? ⟨G,4,none⟩=some (.int .i64 on):=hGd.cell 4
 have g5:wz.drew.cell? ⟨G,5,none⟩=some (.int .i64 ot):=hGd.cell 5
 obtain ⟨C,hCd⟩:∃ C:World→Prop,∀ w',C w' ↔ w'=wz.drew:=⟨_,fun _=>Iff.rfl⟩
 have hC:C wz.drew:=(hCd _).2 rfl
 have f9:∀ p:In C,p.w.cell? ⟨I.D,2,none⟩=some (.pointer (some ⟨I.XM,0,none⟩)):=fun p=>by rw [(hCd _).1 p.h]; exact c0
 have f0:∀ p:In C,p.w.cell? ⟨G,0,none⟩=some (.int .i64 oi):=fun p=>by rw [(hCd _).1 p.h]; exact g0
 have f1:∀ p:In C,p.w.cell? ⟨G,1,none⟩=some (.int .i64 oc):=fun p=>by rw [(hCd _).1 p.h]; exact g1
 have f4:∀ p:In C,p.w.cell? ⟨G,4,none⟩=some (.int .i64 on):=fun p=>by rw [(hCd _).1 p.h]; exact g4
 have f5:∀ p:In C,p.w.cell? ⟨G,5,none⟩=some (.int .i64 ot):=fun p=>by rw [(hCd _).1 p.h]; exact g5
 have HCd:=hid hCd
 have HZ:=hid (And.intro hzd hbz)
 clear h hwb hGB hz hwz hGe hbd hzd hGd hbz c0 g0 g1 g4 g5 hCd
 go_enter Tryz.func125,Tryz.ntmps125
 go_wp2_with fail
 rw [← HW.out, ← HGe.out]
 refine seg_start (by kernel_rfl) ?_
 refine seg_in C 0 12 (by kernel_rfl) hC ?_
 intro hne
 clear hC
 simp only [List.take_succ_cons,List.take_zero,List.drop_zero]
 repeat (first | go_big_quiet_step (fail) | quiet_step (fail))
 refine wpQuiet_nil ?_
 intro wp hwp
 obtain rfl:=(HCd.out _).1 hwp
 clear f9 f0 f1 f4 f5 hne hwp HCd
 refine seg_enter (f:=126) (args:=#[.pointer (some ⟨I.XM,0,none⟩),.int .i64 oi,.int .i64 oc,.int .i64 on,.int .i64 ot]) 12 (by rfl) (by kernel_rfl) (by kernel_rfl) (by go_simp) ?_
 refine KC.out.mono ?_
 rintro e w5 ⟨rfl,ca',hC,hF,hT,_⟩
 refine ⟨_,rfl, ?_⟩
 obtain ⟨hP,hT2⟩:=HZ.out.1.money hC hT
 have HF:=hid (SvPost.after HZ.out.2 (show SvPost n0 K I x 7 ⟨oi,oc,of,ob,ocp,ols,on,ot⟩ wz.drew w5 _ _ from ⟨_,.inr (.inr (.inr (.inr (.inr (.inr (.inl ⟨rfl,HPB.out.1,HPB.out.2,ca',hF,rfl⟩)))))),hP.mono (by omega),hT2⟩))
 obtain ⟨C2,hC2⟩:∃ C2:World→Prop,∀ w',C2 w' ↔ w'=w5:=⟨_,fun _=>Iff.rfl⟩
 have HC2:=hid hC2
 clear KC hP hT2 HZ hC hF hT
 refine seg_in C2 13 17 (by kernel_rfl) ((hC2 _).2 rfl) ?_
 clear hC2
 intro hne
 simp only [List.take_succ_cons,List.take_zero,List.drop_succ_cons,List.drop_zero]
 repeat (first | go_big_quiet_step (fail) | quiet_step (fail))
 refine wpQuiet_nil ?_
 intro w' hw'
 obtain rfl:=(HC2.out _).1 hw'
 clear hne hw' HC2
 refine seg_end (by kernel_rfl) ?_
 go_wp2_with fail
 go_ret2
 exact ⟨_,_,rfl,HF.out⟩
end
end Go.Proofs.YtakaalldbnklcaaGreat
namespace Go.Proofs.YtakaalldbnklcaaGreat
open Go.RowKit Go.WideShapes Go.ChangeShapes Go.ChangeAt Go.Deep
set_option linter.unusedVariables false
def absK (key:Int):Int:=if key < 0 ∧ -9223372036854775808 < key then -key else key
def RunR (key:Int) (vb:ByteArray) (x x':DkX) (p:Bool) (c:Int):Prop :=
 (svc vb=0∧p=false∧c=111∧x'=x)∨(svc vb ≠ 0∧mget x.os (absK key)=none∧p=false∧c=212∧x'=x)∨(svc vb ≠ 0∧∃ o,mget x.os (absK key)=some o∧SvcR (svc vb) o x x' p c)
section
variable {n0 K:Nat} {w w':World} {I:DkI} {x:DkX}
def DkPost (n0 K:Nat) (I:DkI) (R:DkX→Prop) (w w':World):Prop:=∃ x',R x'∧PD n0 (K + 1) w' I x'∧Touch (KindIn n0 w TP I.maps) w w'
theorem callA {k:Nat} {N:FuncId} (hk:(k=1∧N=116)∨(k=3∧N=120)∨(k=7∧N=125)) :
  (∀ args (w:World),(callFunc N args).run Tryz.prog w = .ok (.enter N args) w)∧(∀ w:World,(binOp BinOp.eql 230 (.func (.func N) #[] #[]) .nilFunc).run Tryz.prog w = .ok (.bool false) w) ∧
  ∀ (w:World),PD n0 K w I x→K≤3000000000000→∀ o:Or.Od,(-4611686018427387904≤o.n + o.t∧o.n + o.t≤4611686018427387904)→(Rd w (some ⟨o.b,0,none⟩) (o.ls.flatMap Or.enL)∧o.ls.length≤o.cap∧o.cap≤maxLen) →
   Calls Tryz.prog N #[.pointer (some ⟨I.D,0,none⟩),Or.enO o] w fun e w'=>∃ p c,e = .returned (.tuple #[.bool p,.int .i64 c])∧SvPost n0 K I x k o w w' p c:=by
 rcases hk with ⟨rfl,rfl⟩ | ⟨rfl,rfl⟩ | ⟨rfl,rfl⟩
 ·exact ⟨fun _ _=>by go_simp,fun w=>by kernel_rfl,fun w h hK o hn _=>find1_any h hK o hn⟩
 ·exact ⟨fun _ _=>by go_simp,fun w=>by kernel_rfl,fun w h hK o _ hL=>find2_any h hK o hL⟩
 ·exact ⟨fun _ _=>by go_simp,fun w=>by kernel_rfl,fun w h hK o _ _=>find3_any h hK o⟩
theorem callB {k:Nat} {u:Value} (hk:(k=2∧u = .func (.func 119) #[] #[])∨(k=4∧u = .func (.func 122) #[] #[])∨(k=5∧u = .func (.func 123) #[] #[])∨(k=6∧u = .func (.func 124) #[] #[])∨(k=8∧u = .func (.func 127) #[] #[])∨(k=9∧u = .func (.func 128) #[] #[])) {g:Nat} {w:World} (hg:Blk w g 270 #[u]) (h:PD n0 K w I x) (hK:K≤3000000000000) (o:Or.Od) :
  Calls Tryz.prog 167 #[.pointer (some ⟨I.D,0,none⟩),Or.enO o,.pointer (some ⟨g,0,none⟩)] w fun e w'=>∃ c,e = .returned (.tuple #[.bool false,.int .i64 c])∧SvPost n0 K I x k o w w' false c:=by
 rcases hk with ⟨rfl,rfl⟩ | ⟨rfl,rfl⟩ | ⟨rfl,rfl⟩ | ⟨rfl,rfl⟩ | ⟨rfl,rfl⟩ | ⟨rfl,rfl⟩
 ·exact plain_svc (fun _ _=>by go_simp) o hg (fun w' hb=>svc2_any (h.next hb) hK o)
 ·exact plain_svc (fun _ _=>by go_simp) o hg (fun w' hb=>svc4_any (h.next hb) hK o)
 ·exact plain_svc (fun _ _=>by go_simp) o hg (fun w' hb=>svc5_any (h.next hb) hK o)
 ·exact plain_svc (fun _ _=>by go_simp) o hg (fun w' hb=>svc6_any (h.next hb) hK o)
 ·exact plain_svc (fun _ _=>by go_simp) o hg (fun w' hb=>svc8_any (h.next hb) hK o)
 ·exact plain_svc (fun _ _=>by go_simp) o hg (fun w' hb=>svc9_any (h.next hb) hK o)
theorem lnrow_rd {base b cap:Nat} {ls:List Or.Ln} (h:Or.LnRow base w b cap ls):Rd w (some ⟨b,0,none⟩) (ls.flatMap Or.enL)∧ls.length≤cap∧cap≤maxLen:=by
 refine ⟨own_rd h.own, ?_⟩
 rcases h.own.2 with ⟨h1,_⟩ | ⟨g',cap',cur,h1,_,_,h2,h3,_⟩
 ·cases h1
 ·injection h1 with _ _ e3
  omega
set_option maxRecDepth 100000 in
set_option maxHeartbeats 16000000 in
theorem run_any (h:PD n0 K w I x) (hK:K≤3000000000000) (key:Int) (vb:ByteArray) :
  Calls Tryz.prog 43 #[.pointer (some ⟨I.D,0,none⟩),.int .i64 key,.string vb] w fun e w'=>∃ p c,e = .returned (.tuple #[.bool p,.int .i64 c])∧DkPost n0 K I (fun x'=>RunR key vb x x' p c) w w':=by
 have F:=hid (find_any vb w)
 have H:=hid h
 clear h
 go_enter Tryz.func43,Tryz.ntmps43
 go_wp2_with fail
 refine F.out.mono ?_
 rintro e w1 ⟨v,rfl,hsv,hb1⟩
 have h1:=H.out.next hb1
 have HB1:=hid hb1
 by_cases hs0:svc vb=0
 ·obtain rfl:v = .nilFunc:=by
   rw [hs0] at hsv
   rcases hsv with ⟨_,h⟩ | ⟨h,_⟩ | ⟨h,_⟩ | ⟨h,_⟩ | ⟨g,u,_,_,h⟩
   ·exact h
   ·cases h
   ·cases h
   ·cases h
   ·omega
  have HF:=hid (show DkPost n0 K I (fun x'=>RunR key vb x x' false 111) w w1 from ⟨x,.inl ⟨hs0,rfl,rfl,rfl⟩,h1.mono (by omega),.of_below hb1⟩)
  have hne:∀ w:World,(binOp BinOp.eql 230 .nilFunc .nilFunc).run Tryz.prog w = .ok (.bool true) w:=fun w=>by kernel_rfl
  clear F hsv hb1 h1 hs0 H
  go_wp2_with fail
  go_ret2
  exact ⟨false,111,rfl,HF.out⟩
 ·have HS0:=hid hs0
  have hq:∀ p ∈ x.os,1≤p.2.ls.length∧p.2.ls.length≤4:=fun p hp=>(H.out.og p hp).len
  have c3:w1.cell? ⟨I.D,3,none⟩=some (.pointer (some ⟨I.XO,0,none⟩)):=h1.blk.cell 3
  have lD:=h1.blk.lt
  have G:=hid (fun id=>Or.get_any h1.od hq id)
  have H1:=hid h1
  obtain ⟨k,hk⟩:∃ k,k=svc vb:=⟨_,rfl⟩
  rw [← hk] at hsv
  have HK:=hid hk
  have hshape:(∃ N,v = .func (.func N) #[] #[]∧((k=1∧N=116)∨(k=3∧N=120)∨(k=7∧N=125)))∨∃ (g:Nat) (u:Value),v = .func (.func 167) #[] #[.pointer (some ⟨g,0,none⟩)]∧Blk w1 g 270 #[u]∧((k=2∧u = .func (.func 119) #[] #[])∨(k=4∧u = .func (.func 122) #[] #[])∨(k=5∧u = .func (.func 123) #[] #[])∨(k=6∧u = .func (.func 124) #[] #[])∨(k=8∧u = .func (.func 127) #[] #[])∨(k=9∧u = .func (.func 128) #[] #[])):=by
   rcases hsv with ⟨h,_⟩ | ⟨h,e⟩ | ⟨h,e⟩ | ⟨h,e⟩ | ⟨g,u,h1,h2,h3⟩
   ·exact absurd (hk.symm.trans h) hs0
   ·exact .inl ⟨_,e,.inl ⟨h,rfl⟩⟩
   ·exact .inl ⟨_,e,.inr (.inl ⟨h,rfl⟩)⟩
   ·exact .inl ⟨_,e,.inr (.inr ⟨h,rfl⟩)⟩
   ·exact .inr ⟨g,u,h1,h2,h3⟩
  clear hsv hs0 hk F hb1 h1 hq
  rcases hshape with ⟨N,rfl,hk⟩ | ⟨g,u,rfl,hgB,hk⟩
  ·have KA:=callA (n0:=n0) (K:=K) (I:=I) (x:=x) hk
   clear hk
   by_cases d0:key < 0 ∧ -9223372036854775808 < key
   ·have d1:decide (key < 0)=true:=decide_eq_true d0.1
    have d2:decide (-9223372036854775808 < key)=true:=decide_eq_true d0.2
    have wn:IntKind.i64.wrap (-key) = -key:=IntWalk.i64_in _ ⟨by omega,by omega⟩
    have HKK:=hid (show absK key = -key from if_pos d0)
    have hne:=KA.2.1
    have hN:=KA.1
    go_upto_region 6 with fail
    clear d0 d1 d2 wn
    go_wp2_with fail
    refine (G.out (-key)).mono ?_
    rintro e w2 ⟨hg1,hg2,hb2⟩
    have h2:=H1.out.next hb2
    cases hm:mget x.os (-key) with
    | none =>
     rw [hg1 hm]
     have hwb:Below w2.heap.size w2 (w2.alloc (.cells #[.int .i64 0,.int .i64 0,.string ByteArray.empty,.slice none 0 0,.int .i64 0,.int .i64 0] 166)):=(Below.refl _ _).alloc (Nat.le_refl _) _
     have HF:=hid (show DkPost n0 K I (fun x'=>RunR key vb x x' false 212) w _ from ⟨x,.inr (.inl ⟨HS0.out,by rw [HKK.out]; exact hm,rfl,rfl,rfl⟩),(h2.next hwb).mono (by omega),.of_below (bthen (bthen HB1.out hb2) hwb)⟩)
     clear G hg1 hg2 hb2 h2 hwb hm c3 lD
     go_wp2_with fail
     go_ret2
     exact ⟨false,212,rfl,HF.out⟩
    | some o =>
     obtain ⟨b,cap,he,hL⟩:=hg2 o hm
     rw [he]
     have hod:=H1.out.og ((-key),o) (mget_mem hm)
     obtain ⟨oi,oc,of,ob,ocp,ols,on,ot⟩:=o
     have hwb:Below w2.heap.size w2 (w2.alloc (.cells #[.int .i64 oi,.int .i64 oc,.string of,.slice (some ⟨b,0,none⟩) ols.length cap,.int .i64 on,.int .i64 ot] 166)):=(Below.refl _ _).alloc (Nat.le_refl _) _
     have K2:=hid (KA.2.2 _ (h2.next hwb) hK ⟨oi,oc,of,b,cap,ols,on,ot⟩ (by have:=hod.sum; simp only at this ⊢; omega) (by have:=lnrow_rd hL; exact ⟨this.1.below hwb,this.2⟩))
     simp only [Or.enO] at K2 ⊢
     have HBW:=hid (bthen (bthen HB1.out hb2) hwb)
     have HM:=hid hm
     clear G hg1 hg2 hb2 h2 hwb hm c3 lD he hL hod
     go_wp2_with fail
     refine K2.out.mono ?_
     rintro e w5 ⟨p,c,rfl,hS⟩
     have HF:=hid (show DkPost n0 K I (fun x'=>RunR key vb x x' p c) w w5 from by
      obtain ⟨x',s1,s2,s3⟩:=SvPost.after HBW.out hS
      exact ⟨x',.inr (.inr ⟨HS0.out,⟨oi,oc,of,ob,ocp,ols,on,ot⟩,by rw [HKK.out]; exact HM.out,by rw [← HK.out]; exact s1⟩),s2,s3⟩)
     clear K2 hS
     go_wp2_with fail
     go_ret2
     exact ⟨p,c,rfl,HF.out⟩
   ·by_cases dn:key < 0
    ·have d1:decide (key < 0)=true:=decide_eq_true (by omega)
     have d2:decide (-9223372036854775808 < key)=false:=decide_eq_false (by omega)
     have HKK:=hid (show absK key=key from if_neg d0)
     have hne:=KA.2.1
     have hN:=KA.1
     go_upto_region 6 with fail
     clear d0 d1 d2 dn
     go_wp2_with fail
     refine (G.out key).mono ?_
     rintro e w2 ⟨hg1,hg2,hb2⟩
     have h2:=H1.out.next hb2
     cases hm:mget x.os key with
     | none =>
      rw [hg1 hm]
      have hwb:Below w2.heap.size w2 (w2.alloc (.cells #[.int .i64 0,.int .i64 0,.string ByteArray.empty,.slice none 0 0,.int .i64 0,.int .i64 0] 166)):=(Below.refl _ _).alloc (Nat.le_refl _) _
      have HF:=hid (show DkPost n0 K I (fun x'=>RunR key vb x x' false 212) w _ from ⟨x,.inr (.inl ⟨HS0.out,by rw [HKK.out]; exact hm,rfl,rfl,rfl⟩),(h2.next hwb).mono (by omega),.of_below (bthen (bthen HB1.out hb2) hwb)⟩)
      clear G hg1 hg2 hb2 h2 hwb hm c3 lD
      go_wp2_with fail
      go_ret2
      exact ⟨false,212,rfl,HF.out⟩
     | some o =>
      obtain ⟨b,cap,he,hL⟩:=hg2 o hm
      rw [he]
      have hod:=H1.out.og (key,o) (mget_mem hm)
      obtain ⟨oi,oc,of,ob,ocp,ols,on,ot⟩:=o
      have hwb:Below w2.heap.size w2 (w2.alloc (.cells #[.int .i64 oi,.int .i64 oc,.string of,.slice (some ⟨b,0,none⟩) ols.length cap,.int .i64 on,.int .i64 ot] 166)):=(Below.refl _ _).alloc (Nat.le_refl _) _
      have K2:=hid (KA.2.2 _ (h2.next hwb) hK ⟨oi,oc,of,b,cap,ols,on,ot⟩ (by have:=hod.sum; simp only at this ⊢; omega) (by have:=lnrow_rd hL; exact ⟨this.1.below hwb,this.2⟩))
      simp only [Or.enO] at K2 ⊢
      have HBW:=hid (bthen (bthen HB1.out hb2) hwb)
      have HM:=hid hm
      clear G hg1 hg2 hb2 h2 hwb hm c3 lD he hL hod
      go_wp2_with fail
      refine K2.out.mono ?_
      rintro e w5 ⟨p,c,rfl,hS⟩
      have HF:=hid (show DkPost n0 K I (fun x'=>RunR key vb x x' p c) w w5 from by
       obtain ⟨x',s1,s2,s3⟩:=SvPost.after HBW.out hS
       exact ⟨x',.inr (.inr ⟨HS0.out,⟨oi,oc,of,ob,ocp,ols,on,ot⟩,by rw [HKK.out]; exact HM.out,by rw [← HK.out]; exact s1⟩),s2,s3⟩)
      clear K2 hS
      go_wp2_with fail
      go_ret2
      exact ⟨p,c,rfl,HF.out⟩
    ·have d1:decide (key < 0)=false:=decide_eq_false (by omega)
     have HKK:=hid (show absK key=key from if_neg d0)
     have hne:=KA.2.1
     have hN:=KA.1
     go_upto_region 6 with fail
     clear d0 d1 dn
     go_wp2_with fail
     refine (G.out key).mono ?_
     rintro e w2 ⟨hg1,hg2,hb2⟩
     have h2:=H1.out.next hb2
     cases hm:mget x.os key with
     | none =>
      rw [hg1 hm]
      have hwb:Below w2.heap.size w2 (w2.alloc (.cells #[.int .i64 0,.int .i64 0,.string ByteArray.empty,.slice none 0 0,.int .i64 0,.int .i64 0] 166)):=(Below.refl _ _).alloc (Nat.le_refl _) _
      have HF:=hid (show DkPost n0 K I (fun x'=>RunR key vb x x' false 212) w _ from ⟨x,.inr (.inl ⟨HS0.out,by rw [HKK.out]; exact hm,rfl,rfl,rfl⟩),(h2.next hwb).mono (by omega),.of_below (bthen (bthen HB1.out hb2) hwb)⟩)
      clear G hg1 hg2 hb2 h2 hwb hm c3 lD
      go_wp2_with fail
      go_ret2
      exact ⟨false,212,rfl,HF.out⟩
     | some o =>
      obtain ⟨b,cap,he,hL⟩:=hg2 o hm
      rw [he]
      have hod:=H1.out.og (key,o) (mget_mem hm)
      obtain ⟨oi,oc,of,ob,ocp,ols,on,ot⟩:=o
      have hwb:Below w2.heap.size w2 (w2.alloc (.cells #[.int .i64 oi,.int .i64 oc,.string of,.slice (some ⟨b,0,none⟩) ols.length cap,.int .i64 on,.int .i64 ot] 166)):=(Below.refl _ _).alloc (Nat.le_refl _) _
      have K2:=hid (KA.2.2 _ (h2.next hwb) hK ⟨oi,oc,of,b,cap,ols,on,ot⟩ (by have:=hod.sum; simp only at this ⊢; omega) (by have:=lnrow_rd hL; exact ⟨this.1.below hwb,this.2⟩))
      simp only [Or.enO] at K2 ⊢
      have HBW:=hid (bthen (bthen HB1.out hb2) hwb)
      have HM:=hid hm
      clear G hg1 hg2 hb2 h2 hwb hm c3 lD he hL hod
      go_wp2_with fail
      refine K2.out.mono ?_
      rintro e w5 ⟨p,c,rfl,hS⟩
      have HF:=hid (show DkPost n0 K I (fun x'=>RunR key vb x x' p c) w w5 from by
       obtain ⟨x',s1,s2,s3⟩:=SvPost.after HBW.out hS
       exact ⟨x',.inr (.inr ⟨HS0.out,⟨oi,oc,of,ob,ocp,ols,on,ot⟩,by rw [HKK.out]; exact HM.out,by rw [← HK.out]; exact s1⟩),s2,s3⟩)
      clear K2 hS
      go_wp2_with fail
      go_ret2
      exact ⟨p,c,rfl,HF.out⟩
  ·skip
   by_cases d0:key < 0 ∧ -9223372036854775808 < key
   ·have d1:decide (key < 0)=true:=decide_eq_true d0.1
    have d2:decide (-9223372036854775808 < key)=true:=decide_eq_true d0.2
    have wn:IntKind.i64.wrap (-key) = -key:=IntWalk.i64_in _ ⟨by omega,by omega⟩
    have HKK:=hid (show absK key = -key from if_pos d0)
    have hne:∀ w:World,(binOp BinOp.eql 230 (.func (.func 167) #[] #[.pointer (some ⟨g,0,none⟩)]) .nilFunc).run Tryz.prog w = .ok (.bool false) w:=fun w=>by kernel_rfl
    go_upto_region 6 with fail
    clear d0 d1 d2 wn
    go_wp2_with fail
    refine (G.out (-key)).mono ?_
    rintro e w2 ⟨hg1,hg2,hb2⟩
    have h2:=H1.out.next hb2
    cases hm:mget x.os (-key) with
    | none =>
     rw [hg1 hm]
     have hwb:Below w2.heap.size w2 (w2.alloc (.cells #[.int .i64 0,.int .i64 0,.string ByteArray.empty,.slice none 0 0,.int .i64 0,.int .i64 0] 166)):=(Below.refl _ _).alloc (Nat.le_refl _) _
     have HF:=hid (show DkPost n0 K I (fun x'=>RunR key vb x x' false 212) w _ from ⟨x,.inr (.inl ⟨HS0.out,by rw [HKK.out]; exact hm,rfl,rfl,rfl⟩),(h2.next hwb).mono (by omega),.of_below (bthen (bthen HB1.out hb2) hwb)⟩)
     clear G hg1 hg2 hb2 h2 hwb hm c3 lD
     go_wp2_with fail
     go_ret2
     exact ⟨false,212,rfl,HF.out⟩
    | some o =>
     obtain ⟨b,cap,he,hL⟩:=hg2 o hm
     rw [he]
     have hod:=H1.out.og ((-key),o) (mget_mem hm)
     obtain ⟨oi,oc,of,ob,ocp,ols,on,ot⟩:=o
     have hwb:Below w2.heap.size w2 (w2.alloc (.cells #[.int .i64 oi,.int .i64 oc,.string of,.slice (some ⟨b,0,none⟩) ols.length cap,.int .i64 on,.int .i64 ot] 166)):=(Below.refl _ _).alloc (Nat.le_refl _) _
     have K2:=hid (callB hk ((hgB.next hb2).next hwb) (h2.next hwb) hK ⟨oi,oc,of,b,cap,ols,on,ot⟩)
     simp only [Or.enO] at K2 ⊢
     have HBW:=hid (bthen (bthen HB1.out hb2) hwb)
     have HM:=hid hm
     clear G hg1 hg2 hb2 h2 hwb hm c3 lD he hL hod
     go_wp2_with fail
     refine K2.out.mono ?_
     rintro e w5 ⟨c,rfl,hS⟩
     have HF:=hid (show DkPost n0 K I (fun x'=>RunR key vb x x' false c) w w5 from by
      obtain ⟨x',s1,s2,s3⟩:=SvPost.after HBW.out hS
      exact ⟨x',.inr (.inr ⟨HS0.out,⟨oi,oc,of,ob,ocp,ols,on,ot⟩,by rw [HKK.out]; exact HM.out,by rw [← HK.out]; exact s1⟩),s2,s3⟩)
     clear K2 hS
     go_wp2_with fail
     go_ret2
     exact ⟨false,c,rfl,HF.out⟩
   ·by_cases dn:key < 0
    ·have d1:decide (key < 0)=true:=decide_eq_true (by omega)
     have d2:decide (-9223372036854775808 < key)=false:=decide_eq_false (by omega)
     have HKK:=hid (show absK key=key from if_neg d0)
     have hne:∀ w:World,(binOp BinOp.eql 230 (.func (.func 167) #[] #[.pointer (some ⟨g,0,none⟩)]) .nilFunc).run Tryz.prog w = .ok (.bool false) w:=fun w=>by kernel_rfl
     go_upto_region 6 with fail
     clear d0 d1 d2 dn
     go_wp2_with fail
     refine (G.out key).mono ?_
     rintro e w2 ⟨hg1,hg2,hb2⟩
     have h2:=H1.out.next hb2
     cases hm:mget x.os key with
     | none =>
      rw [hg1 hm]
      have hwb:Below w2.heap.size w2 (w2.alloc (.cells #[.int .i64 0,.int .i64 0,.string ByteArray.empty,.slice none 0 0,.int .i64 0,.int .i64 0] 166)):=(Below.refl _ _).alloc (Nat.le_refl _) _
      have HF:=hid (show DkPost n0 K I (fun x'=>RunR key vb x x' false 212) w _ from ⟨x,.inr (.inl ⟨HS0.out,by rw [HKK.out]; exact hm,rfl,rfl,rfl⟩),(h2.next hwb).mono (by omega),.of_below (bthen (bthen HB1.out hb2) hwb)⟩)
      clear G hg1 hg2 hb2 h2 hwb hm c3 lD
      go_wp2_with fail
      go_ret2
      exact ⟨false,212,rfl,HF.out⟩
     | some o =>
      obtain ⟨b,cap,he,hL⟩:=hg2 o hm
      rw [he]
      have hod:=H1.out.og (key,o) (mget_mem hm)
      obtain ⟨oi,oc,of,ob,ocp,ols,on,ot⟩:=o
      have hwb:Below w2.heap.size w2 (w2.alloc (.cells #[.int .i64 oi,.int .i64 oc,.string of,.slice (some ⟨b,0,none⟩) ols.length cap,.int .i64 on,.int .i64 ot] 166)):=(Below.refl _ _).alloc (Nat.le_refl _) _
      have K2:=hid (callB hk ((hgB.next hb2).next hwb) (h2.next hwb) hK ⟨oi,oc,of,b,cap,ols,on,ot⟩)
      simp only [Or.enO] at K2 ⊢
      have HBW:=hid (bthen (bthen HB1.out hb2) hwb)
      have HM:=hid hm
      clear G hg1 hg2 hb2 h2 hwb hm c3 lD he hL hod
      go_wp2_with fail
      refine K2.out.mono ?_
      rintro e w5 ⟨c,rfl,hS⟩
      have HF:=hid (show DkPost n0 K I (fun x'=>RunR key vb x x' false c) w w5 from by
       obtain ⟨x',s1,s2,s3⟩:=SvPost.after HBW.out hS
       exact ⟨x',.inr (.inr ⟨HS0.out,⟨oi,oc,of,ob,ocp,ols,on,ot⟩,by rw [HKK.out]; exact HM.out,by rw [← HK.out]; exact s1⟩),s2,s3⟩)
      clear K2 hS
      go_wp2_with fail
      go_ret2
      exact ⟨false,c,rfl,HF.out⟩
    ·have d1:decide (key < 0)=false:=decide_eq_false (by omega)
     have HKK:=hid (show absK key=key from if_neg d0)
     have hne:∀ w:World,(binOp BinOp.eql 230 (.func (.func 167) #[] #[.pointer (some ⟨g,0,none⟩)]) .nilFunc).run Tryz.prog w = .ok (.bool false) w:=fun w=>by kernel_rfl
     go_upto_region 6 with fail
     clear d0 d1 dn
     go_wp2_with fail
     refine (G.out key).mono ?_
     rintro e w2 ⟨hg1,hg2,hb2⟩
     have h2:=H1.out.next hb2
     cases hm:mget x.os key with
     | none =>
      rw [hg1 hm]
      have hwb:Below w2.heap.size w2 (w2.alloc (.cells #[.int .i64 0,.int .i64 0,.string ByteArray.empty,.slice none 0 0,.int .i64 0,.int .i64 0] 166)):=(Below.refl _ _).alloc (Nat.le_refl _) _
      have HF:=hid (show DkPost n0 K I (fun x'=>RunR key vb x x' false 212) w _ from ⟨x,.inr (.inl ⟨HS0.out,by rw [HKK.out]; exact hm,rfl,rfl,rfl⟩),(h2.next hwb).mono (by omega),.of_below (bthen (bthen HB1.out hb2) hwb)⟩)
      clear G hg1 hg2 hb2 h2 hwb hm c3 lD
      go_wp2_with fail
      go_ret2
      exact ⟨false,212,rfl,HF.out⟩
     | some o =>
      obtain ⟨b,cap,he,hL⟩:=hg2 o hm
      rw [he]
      have hod:=H1.out.og (key,o) (mget_mem hm)
      obtain ⟨oi,oc,of,ob,ocp,ols,on,ot⟩:=o
      have hwb:Below w2.heap.size w2 (w2.alloc (.cells #[.int .i64 oi,.int .i64 oc,.string of,.slice (some ⟨b,0,none⟩) ols.length cap,.int .i64 on,.int .i64 ot] 166)):=(Below.refl _ _).alloc (Nat.le_refl _) _
      have K2:=hid (callB hk ((hgB.next hb2).next hwb) (h2.next hwb) hK ⟨oi,oc,of,b,cap,ols,on,ot⟩)
      simp only [Or.enO] at K2 ⊢
      have HBW:=hid (bthen (bthen HB1.out hb2) hwb)
      have HM:=hid hm
      clear G hg1 hg2 hb2 h2 hwb hm c3 lD he hL hod
      go_wp2_with fail
      refine K2.out.mono ?_
      rintro e w5 ⟨c,rfl,hS⟩
      have HF:=hid (show DkPost n0 K I (fun x'=>RunR key vb x x' false c) w w5 from by
       obtain ⟨x',s1,s2,s3⟩:=SvPost.after HBW.out hS
       exact ⟨x',.inr (.inr ⟨HS0.out,⟨oi,oc,of,ob,ocp,ols,on,ot⟩,by rw [HKK.out]; exact HM.out,by rw [← HK.out]; exact s1⟩),s2,s3⟩)
      clear K2 hS
      go_wp2_with fail
      go_ret2
      exact ⟨false,c,rfl,HF.out⟩
end
end Go.Proofs.YtakaalldbnklcaaGreat
namespace Go.Proofs.YtakaalldbnklcaaGreat
open Go.RowKit Go.WideShapes Go.ChangeShapes Go.ChangeAt Go.Deep
set_option linter.unusedVariables false
def vAns (t:Bool) (c:Int) (p i:Bool):Value:=.agg #[.bool t,.int .i64 c,.bool p,.bool i]
def DoR (key s t:Int) (vb:ByteArray) (u:Bool) (x x':DkX) (a:Bool × Int × Bool × Bool):Prop :=
 ((In.askF (In.entAt x.m (key,s)) t u).1=2∧a=(false,0,false,false)∧x'=x) ∨
 ((In.askF (In.entAt x.m (key,s)) t u).1=1∧a=(true,(In.askF (In.entAt x.m (key,s)) t u).2,false,false)∧x'=x) ∨
 ((In.askF (In.entAt x.m (key,s)) t u).1=0∧u=true∧a=(true,0,false,false)∧∃ x1,((In.doneF (In.entAt x.m (key,s))=true∧∃ p c,RunR key vb x x1 p c)∨(In.doneF (In.entAt x.m (key,s))=false∧x1=x))∧x'={ x1 with m:=mset x.m (key,s) (In.keepE (In.entAt x.m (key,s)) key s t true 0) }) ∨
 ((In.askF (In.entAt x.m (key,s)) t u).1=0∧u=false∧∃ p c x1,RunR key vb x x1 p c∧a=(true,c,p,vb.toList == [98,105,108,108,46,105,110,118,111,105,99,101] && c == 0)∧x'={ x1 with m:=mset x.m (key,s) (In.keepE (In.entAt x.m (key,s)) key s t false c) })
theorem SvcR.keeps {k:Nat} {o:Or.Od} {x x':DkX} {p:Bool} {c:Int} (h:SvcR k o x x' p c):x'.m=x.m∧x'.pr=x.pr∧x'.os=x.os:=by
 rcases h with ⟨_,_,_,_,_,_,rfl⟩ | ⟨_,_,_,_,_,_,rfl⟩ | ⟨_,_,_,_,_,_,rfl⟩ | ⟨_,_,_,_,_,_,rfl⟩ | ⟨_,_,_,_,_,_,rfl⟩ | ⟨_,_,_,_,_,_,rfl⟩ | ⟨_,_,_,_,_,rfl⟩ | ⟨_,_,_,_,_,rfl⟩ | ⟨_,_,_,_,_,rfl⟩ <;> exact ⟨rfl,rfl,rfl⟩
theorem RunR.keeps {key:Int} {vb:ByteArray} {x x':DkX} {p:Bool} {c:Int} (h:RunR key vb x x' p c):x'.m=x.m∧x'.pr=x.pr∧x'.os=x.os:=by
 rcases h with ⟨_,_,_,rfl⟩ | ⟨_,_,_,_,rfl⟩ | ⟨_,o,_,h⟩
 ·exact ⟨rfl,rfl,rfl⟩
 ·exact ⟨rfl,rfl,rfl⟩
 ·exact h.keeps
theorem askF_or (e:In.Ent) (t:Int) (u:Bool):(In.askF e t u).1=0∨(In.askF e t u).1=1∨(In.askF e t u).1=2:=by
 unfold In.askF
 repeat' split
 all_goals simp
def DoPost (n0 K:Nat) (I:DkI) (x:DkX) (key s t:Int) (vb:ByteArray) (u:Bool) (w:World) (e:Ending) (w':World):Prop:=∃ a:Bool × Int × Bool × Bool,e = .returned (vAns a.1 a.2.1 a.2.2.1 a.2.2.2)∧DkPost n0 K I (fun x'=>DoR key s t vb u x x' a) w w'
section
variable {n0 K:Nat} {w w':World} {I:DkI} {x:DkX}
theorem PD.answer {G:Nat} {cs:Array Value} (h:PD n0 K w I x) (hB:Blk w G 33 cs) (hT:Touch (· = G) w w'):PD n0 K w' I x :=
 h.away (hT.kind (fun k _ hk=>by rw [hk]; exact KindIn.of_blk hB (List.mem_singleton.2 rfl) (Nat.zero_le _):∀ k,k < w.heap.size→k=G→KindIn 0 w [33] [] k)) (by decide) (fun m _=>by simp)
set_option maxRecDepth 100000 in
set_option maxHeartbeats 16000000 in
theorem do_any (h:PD n0 K w I x) (hK:K≤3000000000000) (key s t:Int) (vb:ByteArray) (u:Bool) :
  Calls Tryz.prog 13 #[.pointer (some ⟨I.D,0,none⟩),.int .i64 key,.int .i64 s,.int .i64 t,.string vb,.bool u] w (DoPost n0 K I x key s t vb u w):=by
 have hwb:Below w.heap.size w (w.alloc (.cells #[.bool false,.int .i64 0,.bool false,.bool false] 33)):=(Below.refl _ _).alloc (Nat.le_refl _) _
 have hGB:=Blk.new w 33 #[.bool false,.int .i64 0,.bool false,.bool false]
 have hz:=h.next hwb
 obtain ⟨wz,hwz⟩:∃ wz,wz=w.alloc (.cells #[.bool false,.int .i64 0,.bool false,.bool false] 33):=⟨_,rfl⟩
 obtain ⟨G,hGe⟩:∃ G,G=w.heap.size:=⟨_,rfl⟩
 have HW:=hid hwz
 have HGe:=hid hGe
 rw [← hwz] at hGB hz hwb
 rw [← hGe] at hGB
 obtain ⟨qv,hqv⟩:∃ qv,qv=(In.askF (In.entAt x.m (key,s)) t u).1:=⟨_,rfl⟩
 obtain ⟨qc,hqc⟩:∃ qc,qc=(In.askF (In.entAt x.m (key,s)) t u).2:=⟨_,rfl⟩
 have KA:=In.ask_any I.XI I.BI x.m key s t u wz hz.ib
 rw [← hqv, ← hqc] at KA
 replace KA:=hid KA
 have HQ:=hid (And.intro hqv hqc)
 have hor:=askF_or (In.entAt x.m (key,s)) t u
 rw [← hqv] at hor
 have HOR:=hid hor
 have c4:w.cell? ⟨I.D,4,none⟩=some (.pointer (some ⟨I.XI,0,none⟩)):=h.blk.cell 4
 have lD:I.D < w.heap.size:=h.blk.lt
 have HZ:=hid (And.intro hz (And.intro hGB hwb))
 have HLO:=hid (show w.heap.size≤G from by rw [hGe]; exact Nat.le_refl _)
 clear h hwb hGB hz hwz hGe hqv hqc hor
 go_enter Tryz.func13,Tryz.ntmps13
 go_upto_region 4 with ((go_at_call 41; rw [← HW.out, ← HGe.out]; refine KA.out.mono ?_; rintro e w1 ⟨rfl,hb1⟩))
 have hP1:=HZ.out.1.next hb1
 have hG1:=HZ.out.2.1.next hb1
 have HB1:=hid (bthen HZ.out.2.2 hb1)
 clear KA HZ HW HGe c4 lD hb1
 rcases HOR.out with hv | hv | hv
 rotate_left
 rotate_left
 ·subst hv
  have g0:w1.cell? ⟨G,0,none⟩=some (.bool false):=hG1.cell 0
  have g1:w1.cell? ⟨G,1,none⟩=some (.int .i64 0):=hG1.cell 1
  have g2:w1.cell? ⟨G,2,none⟩=some (.bool false):=hG1.cell 2
  have g3:w1.cell? ⟨G,3,none⟩=some (.bool false):=hG1.cell 3
  have f0:=hG1.free 0
  have f1:=hG1.free 1
  have f2:=hG1.free 2
  have f3:=hG1.free 3
  have lG:=hG1.lt
  have HX:=hid (And.intro (hP1.mono (by omega:K≤K + 1)) (And.intro hG1 (Touch.of_below (S:=KindIn n0 w TP I.maps) HB1.out)))
  clear hP1 hG1
  go_wp2_with fail
  have hT:=(((Touch.setCell w1 G 0 (.bool false)).then (Touch.setCell _ G 1 (.int .i64 0))).then (Touch.setCell _ G 2 (.bool false))).then (Touch.setCell _ G 3 (.bool false))
  have hB:=(((HX.out.2.1.set_ 0 (.bool false)).set_ 1 (.int .i64 0)).set_ 2 (.bool false)).set_ 3 (.bool false)
  have HD:=hid (And.intro (HX.out.1.answer HX.out.2.1 hT) (HX.out.2.2.trans hT (fun k hk => .inr (by have:=HLO.out; omega))))
  generalize (((w1.setCell ⟨G,0,none⟩ (.bool false)).setCell ⟨G,1,none⟩ (.int .i64 0)).setCell ⟨G,2,none⟩ (.bool false)).setCell ⟨G,3,none⟩ (.bool false)=wf at *
  have e0:wf.cell? ⟨G,0,none⟩=some (.bool false):=hB.cell 0
  have e1:wf.cell? ⟨G,1,none⟩=some (.int .i64 0):=hB.cell 1
  have e2:wf.cell? ⟨G,2,none⟩=some (.bool false):=hB.cell 2
  have e3:wf.cell? ⟨G,3,none⟩=some (.bool false):=hB.cell 3
  refine bodyPost_ret (v:=vAns (false) (0) (false) (false)) (by simp [results,Tryz.results13,go_sem,e0,e1,e2,e3]; rfl) rfl ⟨(false,0,false,false),rfl,x,.inl ⟨HQ.out.1.symm,rfl,rfl⟩,HD.out.1,HD.out.2⟩
 ·subst hv
  have c4:w1.cell? ⟨I.D,4,none⟩=some (.pointer (some ⟨I.XI,0,none⟩)):=hP1.blk.cell 4
  have lD:=hP1.blk.lt
  have RN:=hid (run_any hP1 hK key vb)
  have hTz:=Touch.of_below (S:=KindIn n0 w TP I.maps) HB1.out
  cases u with
  | true =>
   obtain ⟨db,hdb⟩:∃ db,db=In.doneF (In.entAt x.m (key,s)):=⟨_,rfl⟩
   have KD:=In.done_any I.XI I.BI x.m key s w1 hP1.ib
   rw [← hdb] at KD
   replace KD:=hid KD
   have HDB:=hid hdb
   have H1:=hid (And.intro hP1 (And.intro hG1 hTz))
   clear hdb hTz hG1 hP1 RN
   go_upto_if 49 with ((go_at_call 42; refine KD.out.mono ?_; rintro e w2 ⟨rfl,hb2⟩))
   have hP2:=H1.out.1.next hb2
   have hG2:=H1.out.2.1.next hb2
   have hT2:=Touch.kinds H1.out.2.2 (Touch.of_below hb2)
   have RN:=hid (run_any hP2 hK key vb)
   have H2:=hid (And.intro hP2 (And.intro hG2 hT2))
   clear KD H1 hb2 c4 lD hP2 hG2 hT2
   go_cut [] (fun wx=>∃ x1,Hid (((In.doneF (In.entAt x.m (key,s))=true∧∃ p c,RunR key vb x x1 p c)∨(In.doneF (In.entAt x.m (key,s))=false∧x1=x))∧x1.m=x.m)∧Hid (PD n0 (K + 1) wx I x1∧Blk wx G 33 #[.bool false,.int .i64 0,.bool false,.bool false]∧Touch (KindIn n0 w TP I.maps) w wx))
   case first =>
    cases db with
    | true =>
     go_wp2_with fail
     refine RN.out.mono ?_
     rintro e w3 ⟨pp,cc,rfl,x1,hR,hP3,hT3⟩
     have HF:=hid (show PD n0 (K + 1) w3 I x1∧Blk w3 G 33 #[.bool false,.int .i64 0,.bool false,.bool false]∧Touch (KindIn n0 w TP I.maps) w w3 from ⟨hP3,H2.out.1.beside H2.out.2.1 hT3 (by decide),Touch.kinds H2.out.2.2 hT3⟩)
     have HR:=hid hR
     clear hR hP3 hT3 RN H2
     go_wp2_with fail
     go_meet
     exact ⟨x1,hid ⟨.inl ⟨HDB.out.symm,pp,cc,HR.out⟩,HR.out.keeps.1⟩,HF⟩
    | false =>
     go_wp2_with fail
     go_meet
     exact ⟨x,hid ⟨.inr ⟨HDB.out.symm,rfl⟩,rfl⟩,hid ⟨H2.out.1.mono (by omega),H2.out.2.1,H2.out.2.2⟩⟩
   case rest =>
    obtain ⟨x1,HR,HF⟩:=hcut
    have KP:=In.keep_is (m':=mset x.m (key,s) (In.keepE (In.entAt x.m (key,s)) key s t true 0)) 0 wc (u:=true) (t:=t) (by have:=HF.out.1.ib; rw [HR.out.2] at this; exact this) HQ.out.1.symm rfl
    replace KP:=hid KP
    have c4:wc.cell? ⟨I.D,4,none⟩=some (.pointer (some ⟨I.XI,0,none⟩)):=HF.out.1.blk.cell 4
    have lD:=HF.out.1.blk.lt
    clear RN H2
    go_upto_region 12 with ((go_at_call 44; refine KP.out.mono ?_; rintro e w3 ⟨rfl,hI3,hg3⟩))
    obtain ⟨hP3,hT3⟩:=HF.out.1.inbox hI3 hg3
    have hG3:=HF.out.1.beside HF.out.2.1 hT3 (by decide)
    have hT4:=Touch.kinds HF.out.2.2 hT3
    clear KP hI3 hg3 c4 lD
    have g0:w3.cell? ⟨G,0,none⟩=some (.bool false):=hG3.cell 0
    have g1:w3.cell? ⟨G,1,none⟩=some (.int .i64 0):=hG3.cell 1
    have g2:w3.cell? ⟨G,2,none⟩=some (.bool false):=hG3.cell 2
    have g3:w3.cell? ⟨G,3,none⟩=some (.bool false):=hG3.cell 3
    have f0:=hG3.free 0
    have f1:=hG3.free 1
    have f2:=hG3.free 2
    have f3:=hG3.free 3
    have lG:=hG3.lt
    have HX:=hid (And.intro hP3 (And.intro hG3 hT4))
    clear hP3 hG3 hT3 hT4
    go_wp2_with fail
    have hT:=(((Touch.setCell w3 G 0 (.bool true)).then (Touch.setCell _ G 1 (.int .i64 0))).then (Touch.setCell _ G 2 (.bool false))).then (Touch.setCell _ G 3 (.bool false))
    have hB:=(((HX.out.2.1.set_ 0 (.bool true)).set_ 1 (.int .i64 0)).set_ 2 (.bool false)).set_ 3 (.bool false)
    have HD:=hid (And.intro (HX.out.1.answer HX.out.2.1 hT) (HX.out.2.2.trans hT (fun k hk => .inr (by have:=HLO.out; omega))))
    generalize (((w3.setCell ⟨G,0,none⟩ (.bool true)).setCell ⟨G,1,none⟩ (.int .i64 0)).setCell ⟨G,2,none⟩ (.bool false)).setCell ⟨G,3,none⟩ (.bool false)=wf at *
    have e0:wf.cell? ⟨G,0,none⟩=some (.bool true):=hB.cell 0
    have e1:wf.cell? ⟨G,1,none⟩=some (.int .i64 0):=hB.cell 1
    have e2:wf.cell? ⟨G,2,none⟩=some (.bool false):=hB.cell 2
    have e3:wf.cell? ⟨G,3,none⟩=some (.bool false):=hB.cell 3
    refine bodyPost_ret (v:=vAns (true) (0) (false) (false)) (by simp [results,Tryz.results13,go_sem,e0,e1,e2,e3]; rfl) rfl ⟨(true,0,false,false),rfl,_,.inr (.inr (.inl ⟨HQ.out.1.symm,rfl,rfl,x1,HR.out.1,rfl⟩)),HD.out.1,HD.out.2⟩
  | false =>
   have H1:=hid (And.intro hP1 (And.intro hG1 hTz))
   clear hTz hG1 hP1 c4 lD
   go_upto_region 14 with ((go_at_call 43; refine RN.out.mono ?_; rintro e w3 ⟨pp,cc,rfl,x1,hR,hP3,hT3⟩))
   have KP:=In.keep_is (m':=mset x.m (key,s) (In.keepE (In.entAt x.m (key,s)) key s t false cc)) cc w3 (u:=false) (t:=t) (by have:=hP3.ib; rw [hR.keeps.1] at this; exact this) HQ.out.1.symm rfl
   replace KP:=hid KP
   have c4:w3.cell? ⟨I.D,4,none⟩=some (.pointer (some ⟨I.XI,0,none⟩)):=hP3.blk.cell 4
   have lD:=hP3.blk.lt
   have HF:=hid (show PD n0 (K + 1) w3 I x1∧Blk w3 G 33 #[.bool false,.int .i64 0,.bool false,.bool false]∧Touch (KindIn n0 w TP I.maps) w w3 from ⟨hP3,H1.out.1.beside H1.out.2.1 hT3 (by decide),Touch.kinds H1.out.2.2 hT3⟩)
   have HR:=hid hR
   clear hR hP3 hT3 RN H1
   go_upto_region 15 with ((go_at_call 44; refine KP.out.mono ?_; rintro e w4 ⟨rfl,hI4,hg4⟩))
   obtain ⟨hP4,hT4⟩:=HF.out.1.inbox hI4 hg4
   have hG4:=HF.out.1.beside HF.out.2.1 hT4 (by decide)
   have hT5:=Touch.kinds HF.out.2.2 hT4
   clear KP hI4 hg4 c4 lD
   cases hbi:(vb.toList == [98,105,108,108,46,105,110,118,111,105,99,101]) with
   | true =>
    have g0:w4.cell? ⟨G,0,none⟩=some (.bool false):=hG4.cell 0
    have g1:w4.cell? ⟨G,1,none⟩=some (.int .i64 0):=hG4.cell 1
    have g2:w4.cell? ⟨G,2,none⟩=some (.bool false):=hG4.cell 2
    have g3:w4.cell? ⟨G,3,none⟩=some (.bool false):=hG4.cell 3
    have f0:=hG4.free 0
    have f1:=hG4.free 1
    have f2:=hG4.free 2
    have f3:=hG4.free 3
    have lG:=hG4.lt
    have HX:=hid (And.intro hP4 (And.intro hG4 hT5))
    have HBI:=hid hbi
    clear hP4 hG4 hT4 hT5
    go_wp2_with fail
    have hT:=(((Touch.setCell w4 G 0 (.bool true)).then (Touch.setCell _ G 1 (.int .i64 cc))).then (Touch.setCell _ G 2 (.bool pp))).then (Touch.setCell _ G 3 (.bool (cc == 0)))
    have hB:=(((HX.out.2.1.set_ 0 (.bool true)).set_ 1 (.int .i64 cc)).set_ 2 (.bool pp)).set_ 3 (.bool (cc == 0))
    have HD:=hid (And.intro (HX.out.1.answer HX.out.2.1 hT) (HX.out.2.2.trans hT (fun k hk => .inr (by have:=HLO.out; omega))))
    generalize (((w4.setCell ⟨G,0,none⟩ (.bool true)).setCell ⟨G,1,none⟩ (.int .i64 cc)).setCell ⟨G,2,none⟩ (.bool pp)).setCell ⟨G,3,none⟩ (.bool (cc == 0))=wf at *
    have e0:wf.cell? ⟨G,0,none⟩=some (.bool true):=hB.cell 0
    have e1:wf.cell? ⟨G,1,none⟩=some (.int .i64 cc):=hB.cell 1
    have e2:wf.cell? ⟨G,2,none⟩=some (.bool pp):=hB.cell 2
    have e3:wf.cell? ⟨G,3,none⟩=some (.bool (cc == 0)):=hB.cell 3
    refine bodyPost_ret (v:=vAns (true) (cc) (pp) ((cc == 0))) (by simp [results,Tryz.results13,go_sem,e0,e1,e2,e3]; rfl) rfl ⟨(true,cc,pp,(cc == 0)),rfl,_,.inr (.inr (.inr ⟨HQ.out.1.symm,rfl,pp,cc,x1,HR.out,by rw [HBI.out]; rfl,rfl⟩)),HD.out.1,HD.out.2⟩
   | false =>
    have g0:w4.cell? ⟨G,0,none⟩=some (.bool false):=hG4.cell 0
    have g1:w4.cell? ⟨G,1,none⟩=some (.int .i64 0):=hG4.cell 1
    have g2:w4.cell? ⟨G,2,none⟩=some (.bool false):=hG4.cell 2
    have g3:w4.cell? ⟨G,3,none⟩=some (.bool false):=hG4.cell 3
    have f0:=hG4.free 0
    have f1:=hG4.free 1
    have f2:=hG4.free 2
    have f3:=hG4.free 3
    have lG:=hG4.lt
    have HX:=hid (And.intro hP4 (And.intro hG4 hT5))
    have HBI:=hid hbi
    clear hP4 hG4 hT4 hT5
    go_wp2_with fail
    have hT:=(((Touch.setCell w4 G 0 (.bool true)).then (Touch.setCell _ G 1 (.int .i64 cc))).then (Touch.setCell _ G 2 (.bool pp))).then (Touch.setCell _ G 3 (.bool false))
    have hB:=(((HX.out.2.1.set_ 0 (.bool true)).set_ 1 (.int .i64 cc)).set_ 2 (.bool pp)).set_ 3 (.bool false)
    have HD:=hid (And.intro (HX.out.1.answer HX.out.2.1 hT) (HX.out.2.2.trans hT (fun k hk => .inr (by have:=HLO.out; omega))))
    generalize (((w4.setCell ⟨G,0,none⟩ (.bool true)).setCell ⟨G,1,none⟩ (.int .i64 cc)).setCell ⟨G,2,none⟩ (.bool pp)).setCell ⟨G,3,none⟩ (.bool false)=wf at *
    have e0:wf.cell? ⟨G,0,none⟩=some (.bool true):=hB.cell 0
    have e1:wf.cell? ⟨G,1,none⟩=some (.int .i64 cc):=hB.cell 1
    have e2:wf.cell? ⟨G,2,none⟩=some (.bool pp):=hB.cell 2
    have e3:wf.cell? ⟨G,3,none⟩=some (.bool false):=hB.cell 3
    refine bodyPost_ret (v:=vAns (true) (cc) (pp) (false)) (by simp [results,Tryz.results13,go_sem,e0,e1,e2,e3]; rfl) rfl ⟨(true,cc,pp,false),rfl,_,.inr (.inr (.inr ⟨HQ.out.1.symm,rfl,pp,cc,x1,HR.out,by rw [HBI.out]; rfl,rfl⟩)),HD.out.1,HD.out.2⟩
 ·subst hv
  have g0:w1.cell? ⟨G,0,none⟩=some (.bool false):=hG1.cell 0
  have g1:w1.cell? ⟨G,1,none⟩=some (.int .i64 0):=hG1.cell 1
  have g2:w1.cell? ⟨G,2,none⟩=some (.bool false):=hG1.cell 2
  have g3:w1.cell? ⟨G,3,none⟩=some (.bool false):=hG1.cell 3
  have f0:=hG1.free 0
  have f1:=hG1.free 1
  have f2:=hG1.free 2
  have f3:=hG1.free 3
  have lG:=hG1.lt
  have HX:=hid (And.intro (hP1.mono (by omega:K≤K + 1)) (And.intro hG1 (Touch.of_below (S:=KindIn n0 w TP I.maps) HB1.out)))
  clear hP1 hG1
  go_wp2_with fail
  have hT:=(((Touch.setCell w1 G 0 (.bool true)).then (Touch.setCell _ G 1 (.int .i64 qc))).then (Touch.setCell _ G 2 (.bool false))).then (Touch.setCell _ G 3 (.bool false))
  have hB:=(((HX.out.2.1.set_ 0 (.bool true)).set_ 1 (.int .i64 qc)).set_ 2 (.bool false)).set_ 3 (.bool false)
  have HD:=hid (And.intro (HX.out.1.answer HX.out.2.1 hT) (HX.out.2.2.trans hT (fun k hk => .inr (by have:=HLO.out; omega))))
  generalize (((w1.setCell ⟨G,0,none⟩ (.bool true)).setCell ⟨G,1,none⟩ (.int .i64 qc)).setCell ⟨G,2,none⟩ (.bool false)).setCell ⟨G,3,none⟩ (.bool false)=wf at *
  have e0:wf.cell? ⟨G,0,none⟩=some (.bool true):=hB.cell 0
  have e1:wf.cell? ⟨G,1,none⟩=some (.int .i64 qc):=hB.cell 1
  have e2:wf.cell? ⟨G,2,none⟩=some (.bool false):=hB.cell 2
  have e3:wf.cell? ⟨G,3,none⟩=some (.bool false):=hB.cell 3
  refine bodyPost_ret (v:=vAns (true) (qc) (false) (false)) (by simp [results,Tryz.results13,go_sem,e0,e1,e2,e3]; rfl) rfl ⟨(true,qc,false,false),rfl,x,.inr (.inl ⟨HQ.out.1.symm,by rw [HQ.out.2],rfl⟩),HD.out.1,HD.out.2⟩
end
end Go.Proofs.YtakaalldbnklcaaGreat
namespace Go.Proofs.YtakaalldbnklcaaGreat
open Go.RowKit Go.WideShapes Go.ChangeShapes Go.ChangeAt Go.Deep
set_option linter.unusedVariables false
theorem Sk.based {n0 n1:Nat} {w:World} {X BL BG:Nat} {lv:List (Int × Sk.Lv)} {gs:List (Int × Sk.Gd)} (h:Sk.IsBook n0 w X BL BG lv gs) (hn:n1≤n0):Sk.IsBook n1 w X BL BG lv gs :=
 { h with lns:=fun p hp=>⟨(h.lns p hp).1,Nat.le_trans hn (h.lns p hp).2.1,(h.lns p hp).2.2⟩,low:=⟨Nat.le_trans hn h.low.1,Nat.le_trans hn h.low.2.1,Nat.le_trans hn h.low.2.2.1,fun p hp=>Nat.le_trans hn (h.low.2.2.2.1 p hp),fun p hp=>Nat.le_trans hn (h.low.2.2.2.2 p hp)⟩ }
theorem Mo.based {n0 n1:Nat} {w:World} {X XL BL BA:Nat} {ac:List (Int × Mo.CP)} {f:Mo.Fn} {d:Int} (h:Mo.IsCash n0 w X XL BL BA ac f d) (hn:n1≤n0):Mo.IsCash n1 w X XL BL BA ac f d :=
 { h with low:=⟨Nat.le_trans hn h.low.1,Nat.le_trans hn h.low.2.1,Nat.le_trans hn h.low.2.2.1,Nat.le_trans hn h.low.2.2.2.1,h.low.2.2.2.2⟩,lows:=fun p hp=>Nat.le_trans hn (h.lows p hp) }
theorem Or.based {n0 n1:Nat} {w:World} {X BP BO:Nat} {pr:List (Int × Int)} {os:List (Int × Or.Od)} (h:Or.IsBook n0 w X BP BO pr os) (hn:n1≤n0):Or.IsBook n1 w X BP BO pr os :=
 { h with lns:=fun p hp=>⟨(h.lns p hp).1,Nat.le_trans hn (h.lns p hp).2.1,(h.lns p hp).2.2⟩,low:=⟨Nat.le_trans hn h.low.1,Nat.le_trans hn h.low.2.1,Nat.le_trans hn h.low.2.2⟩ }
def x0:DkX:=⟨[],[],[],[],[],0,[],[],[]⟩
set_option maxRecDepth 100000 in
set_option maxHeartbeats 8000000 in
theorem dnew20 (w:World):Calls Tryz.prog 8 #[] w fun e w'=>∃ I:DkI,e = .returned (.pointer (some ⟨I.D,0,none⟩))∧PD w.heap.size 0 w' I x0∧Below w.heap.size w w':=by
 go_enter Tryz.func8,Tryz.ntmps8
 go_wp2_with fail
 refine (Cr.new_any _).mono ?_
 rintro e w1 ⟨XC,BA,BH,rfl,hc,hb1,_⟩
 go_wp2_with fail
 refine (Sk.new_any _).mono ?_
 rintro e w2 ⟨XS,BL,BG,rfl,hs,hb2⟩
 go_wp2_with fail
 refine (Mo.cnew_any _).mono ?_
 rintro e w3 ⟨XM,XL,ML,MA,rfl,hm,hb3⟩
 go_wp2_with fail
 refine (Or.new_any _).mono ?_
 rintro e w4 ⟨XO,BP,BO,rfl,ho,hb4⟩
 go_wp2_with fail
 refine (In.new_some _).mono ?_
 rintro e w5 ⟨XI,BI,rfl,hlo,hi,hb5,_⟩
 have s1:=hb1.size
 have s2:=hb2.size
 have s3:=hb3.size
 have s4:=hb4.size
 have s5:=hb5.size
 have cA:=hc.acs.lt
 have cH:=hc.hds.lt
 have cA0:=hc.low.2.1
 have cH0:=hc.low.2.2.1
 have c2:=hc.two
 have sL:=hs.lvs.lt
 have sG:=hs.gds.lt
 have sL0:=hs.low.2.1
 have sG0:=hs.low.2.2.1
 have t2:=hs.two
 have mL:ML < w3.heap.size:=by obtain ⟨m,hm2,_⟩:=hm.led.map; exact hm2.lt
 have mA:=hm.acs.lt
 obtain ⟨_,_,mL0,mA0,m2⟩:=hm.low
 have oP:=ho.prs.lt
 have oO:=ho.ods.lt
 have oP0:=ho.low.2.1
 have oO0:=ho.low.2.2
 have o2:=ho.two
 have iB:=hi.2.lt
 have hbw:=(Below.refl w5.heap.size w5).alloc (Nat.le_refl _) (.cells #[.pointer (some ⟨XC,0,none⟩),.pointer (some ⟨XS,0,none⟩),.pointer (some ⟨XM,0,none⟩),.pointer (some ⟨XO,0,none⟩),.pointer (some ⟨XI,0,none⟩)] 43)
 have hD:=Blk.new w5 43 #[.pointer (some ⟨XC,0,none⟩),.pointer (some ⟨XS,0,none⟩),.pointer (some ⟨XM,0,none⟩),.pointer (some ⟨XO,0,none⟩),.pointer (some ⟨XI,0,none⟩)]
 have h5:=bthen (bthen (bthen (bthen hb1 hb2) hb3) hb4) hb5
 have hN:(DkI.maps ⟨w5.heap.size,XC,BA,BH,XS,BL,BG,XM,XL,ML,MA,XO,BP,BO,XI,BI,none⟩).Nodup:=by
  simp only [DkI.maps,List.nodup_cons,List.mem_cons,List.not_mem_nil,or_false,not_or,not_false_eq_true,List.nodup_nil,and_true]
  refine ⟨⟨?_, ?_, ?_, ?_, ?_, ?_, ?_, ?_⟩,⟨?_, ?_, ?_, ?_, ?_, ?_, ?_⟩,⟨?_, ?_, ?_, ?_, ?_, ?_⟩,⟨?_, ?_, ?_, ?_, ?_⟩,⟨?_, ?_, ?_, ?_⟩,⟨?_, ?_, ?_⟩,⟨?_, ?_⟩, ?_⟩ <;> omega
 have HF:=hid (show PD w.heap.size 0 _ ⟨w5.heap.size,XC,BA,BH,XS,BL,BG,XM,XL,ML,MA,XO,BP,BO,XI,BI,none⟩ x0∧Below w.heap.size w _ from
  ⟨⟨hD,hc.next (bthen (bthen (bthen (bthen hb2 hb3) hb4) hb5) hbw),(Sk.based hs s1).next (bthen (bthen (bthen hb3 hb4) hb5) hbw),(Mo.isC_new (Mo.based hm (by omega))).next (bthen (bthen hb4 hb5) hbw),(Or.based ho (by omega)).next (bthen hb5 hbw),⟨hi.1.next hbw,hi.2.next hbw⟩,Sk.GoodB.nil,Nat.zero_le _,(fun p hp=>by cases hp),⟨by show w.heap.size≤BI; omega,by show w.heap.size≤w5.heap.size; omega,by have:=hbw.size; omega⟩,hN,fun q hq=>by cases hq⟩,bthen h5 hbw⟩)
 clear hc hs hm ho hi hb1 hb2 hb3 hb4 hb5 hbw hD h5 hN
 go_wp2_with fail
 go_ret
 exact ⟨⟨w5.heap.size,XC,BA,BH,XS,BL,BG,XM,XL,ML,MA,XO,BP,BO,XI,BI,none⟩,rfl,HF.out.1,HF.out.2⟩
end Go.Proofs.YtakaalldbnklcaaGreat
