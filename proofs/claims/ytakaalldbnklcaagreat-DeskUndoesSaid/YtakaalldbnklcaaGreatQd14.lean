/-
  The stock book in sums: what is good of a book, and what each call makes of it. No program.
  The stock book: each call at a good book, told at once.
  The document's stock book: two lists; Find, GoodsOf.
  The ledger: what New, fit, Of, Turnover and Post do, told by a function of places.
  The ledger: Post.
  Contracts of bill's postings, as entries of a ledger: those whose amount is not 0, in a row of the call's own.
-/
import Derived.Test.YtakaalldbnklcaaGreatQd2
import Derived.Test.YtakaalldbnklcaaGreatQd5
import Derived.Test.YtakaalldbnklcaaGreatQd9
import Derived.Test.YtakaalldbnklcaaGreatQd13
import Derived.RegionTactic
namespace Go.Proofs.YtakaalldbnklcaaGreat.Sk
open Go.RowKit
set_option linter.unusedVariables false
theorem perm_mdel {κ ν:Type} [DecidableEq κ] {m:List (κ × ν)} {a:κ} {b:ν} (hd:(m.map (·.1)).Nodup) (h:mget m a=some b):m.Perm ((a,b) :: mdel m a):=by
 induction m with
 | nil=>simp [mget] at h
 | cons p t ih =>
  simp only [List.map_cons,List.nodup_cons] at hd
  by_cases hp:p.1=a
  ·have e1:mget (p :: t) a=some p.2:=by simp [mget,hp]
   rw [e1] at h
   injection h with h
   have e2:mdel (p :: t) a=mdel t a:=by simp [mdel,hp]
   rw [e2,mdel_none (by rw [← hp]; exact hd.1)]
   obtain ⟨p1,p2⟩:=p
   simp only at hp h
   rw [hp,h]
  ·have e1:mget (p :: t) a=mget t a:=by simp [mget,hp]
   have e2:mdel (p :: t) a=p :: mdel t a:=by simp [mdel,hp]
   rw [e1] at h
   rw [e2]
   exact ((ih hd.2 h).cons p).trans (List.Perm.swap _ _ _)
theorem mdel_mset {κ ν:Type} [DecidableEq κ] (m:List (κ × ν)) (a:κ) (b:ν):mdel (mset m a b) a=mdel m a:=by
 unfold mset
 split
 ·unfold mdel
  induction m with
  | nil=>rfl
  | cons p t ih =>
   rename_i hin
   simp only [List.map_cons]
   by_cases hp:p.1=a
   ·rw [if_pos hp,List.filter_cons_of_neg (by simp),List.filter_cons_of_neg (by simp [hp])]
    by_cases h2:a ∈ t.map (·.1)
    ·exact ih h2
    ·have:t.map (fun p=>if p.1=a then (a,b) else p)=t:=by
      conv=>rhs; rw [← List.map_id t]
      refine List.map_congr_left fun q hq => ?_
      rw [if_neg (fun e=>h2 (List.mem_map.2 ⟨q,hq,e⟩))]; rfl
     rw [this]
   ·rw [if_neg hp,List.filter_cons_of_pos (by simpa using hp),List.filter_cons_of_pos (by simpa using hp)]
    congr 1
    refine ih ?_
    simp only [List.map_cons,List.mem_cons] at hin
    rcases hin with e | e
    ·exact absurd e.symm hp
    ·exact e
 ·unfold mdel
  rw [List.filter_append]
  simp
theorem perm_mset {κ ν:Type} [DecidableEq κ] {m:List (κ × ν)} {a:κ} (b:ν) (hd:(m.map (·.1)).Nodup):(mset m a b).Perm ((a,b) :: mdel m a):=by
 have:=perm_mdel (mset_nodup hd a b) (show mget (mset m a b) a=some b from by rw [mget_mset,if_pos rfl])
 rw [mdel_mset] at this
 exact this
theorem mset_len {κ ν:Type} [DecidableEq κ] {m:List (κ × ν)} {a:κ} {b:ν}:(mset m a b).length≤m.length + 1:=by
 unfold mset
 split <;> simp
theorem mdel_len {κ ν:Type} [DecidableEq κ] {m:List (κ × ν)} {a:κ}:(mdel m a).length≤m.length:=List.length_filter_le _ _
def qOf:List Ln→Int→Int
 | [],_=>0
 | x :: l,id=>(if x.i=id then x.q else 0) + qOf l id
def sq (st:Int):List (Int × Gd)→Int→Int
 | [],_=>0
 | p :: l,id=>(if p.2.st=st then qOf p.2.ls id else 0) + sq st l id
theorem sq_perm {l r:List (Int × Gd)} (h:l.Perm r) (st id:Int):sq st l id=sq st r id:=by
 induction h with
 | nil=>rfl
 | cons x _ ih=>simp only [sq,ih]
 | swap x y l=>simp only [sq]; omega
 | trans _ _ h1 h2=>exact h1.trans h2
theorem qOf_zero {l:List Ln} {id:Int} (h:∀ x ∈ l,x.i ≠ id):qOf l id=0:=by
 induction l with
 | nil=>rfl
 | cons x l ih =>
  simp only [qOf]
  rw [if_neg (h x (by simp)),ih (fun y hy=>h y (by simp [hy]))]; rfl
theorem lines_pw {ls:List Ln} (h:∀ k,LnOk ls k):(∀ x ∈ ls,1≤x.q∧x.q≤1000000)∧ls.Pairwise (fun x y=>x.i ≠ y.i):=by
 refine ⟨fun x hx => ?_,List.pairwise_iff_getElem.2 fun i j hi hj hij e => ?_⟩
 ·obtain ⟨k,hk⟩:=List.mem_iff_getElem?.1 hx
  have:=h k x hk
  exact ⟨this.1,this.2.1⟩
 ·have h1:=(h j _ (List.getElem?_eq_getElem hj)).2.2
  unfold hasI at h1
  rw [List.any_eq_false] at h1
  have h2:ls[i] ∈ ls.take j:=List.mem_of_getElem? (i:=i) (by rw [List.getElem?_take_of_lt hij]; exact List.getElem?_eq_getElem hi)
  have:=h1 _ h2
  simp at this
  exact this e
theorem qOf_bd {ls:List Ln} (h:∀ x ∈ ls,1≤x.q∧x.q≤1000000) (hp:ls.Pairwise (fun x y=>x.i ≠ y.i)) (id:Int):0≤qOf ls id∧qOf ls id≤1000000:=by
 induction ls with
 | nil=>simp [qOf]
 | cons x l ih =>
  rw [List.pairwise_cons] at hp
  have h1:=h x (by simp)
  simp only [qOf]
  split
  ·rename_i e
   rw [qOf_zero (fun y hy e'=>hp.1 y hy (e.trans e'.symm))]
   omega
  ·have:=ih (fun y hy=>h y (by simp [hy])) hp.2
   omega
theorem qOf_mem {ls:List Ln} (hp:ls.Pairwise (fun x y=>x.i ≠ y.i)) {x:Ln} (hx:x ∈ ls):qOf ls x.i=x.q:=by
 induction ls with
 | nil=>cases hx
 | cons y l ih =>
  rw [List.pairwise_cons] at hp
  simp only [qOf]
  rcases List.mem_cons.1 hx with rfl | hx'
  ·rw [if_pos rfl,qOf_zero (fun y hy e'=>hp.1 y hy e'.symm)]; omega
  ·rw [if_neg (hp.1 x hx'),ih hp.2 hx']; omega
theorem mvL_all {f:Lv→Int→Lv} (f0:∀ a,f a 0=a) (fa:∀ a p q,f (f a p) q=f a (p + q)) {ls:List Ln} {id:Int}:∀ {lv:List (Int × Lv)},mget (mvL f lv ls) id=(mget lv id).map (fun a=>f a (qOf ls id)):=by
 induction ls with
 | nil =>
  intro lv
  simp only [mvL,qOf]
  cases mget lv id with
  | none=>rfl
  | some a=>simp [f0]
 | cons x l ih =>
  intro lv
  simp only [mvL]
  rw [ih]
  cases hm:mget lv x.i with
  | none =>
   simp only [qOf]
   by_cases e:x.i=id
   ·subst e; rw [hm]; rfl
   ·rw [if_neg e,Int.zero_add]
  | some a =>
   simp only [qOf]
   rw [mget_mset]
   by_cases e:x.i=id
   ·subst e
    rw [if_pos rfl,if_pos rfl,hm]
    simp [fa]
   ·rw [if_neg (fun e'=>e e'.symm),if_neg e,Int.zero_add]
theorem allocL_0 (a:Lv):allocL a 0=a:=by simp [allocL]
theorem freeL_0 (a:Lv):freeL a 0=a:=by simp [freeL]
theorem shipL_0 (a:Lv):shipL a 0=a:=by simp [shipL]
theorem restockL_0 (a:Lv):restockL a 0=a:=by simp [restockL]
theorem allocL_a (a:Lv) (p q:Int):allocL (allocL a p) q=allocL a (p + q):=by simp [allocL]; omega
theorem freeL_a (a:Lv) (p q:Int):freeL (freeL a p) q=freeL a (p + q):=by simp [freeL]; omega
theorem shipL_a (a:Lv) (p q:Int):shipL (shipL a p) q=shipL a (p + q):=by simp [shipL]; omega
theorem restockL_a (a:Lv) (p q:Int):restockL (restockL a p) q=restockL a (p + q):=by simp [restockL]; omega
theorem mvL_keys {f:Lv→Int→Lv} (hf:∀ a q,(f a q).g=a.g) {ls:List Ln} {lv:List (Int × Lv)} (hd:(lv.map (·.1)).Nodup):(mvL f lv ls).map (·.1)=lv.map (·.1):=by
 have:=congrArg (List.map Prod.fst) (mvL_same (f:=f) Lv.g hf (ls:=ls) hd)
 rw [List.map_map,List.map_map] at this
 exact this
structure GoodB (lv:List (Int × Lv)) (gs:List (Int × Gd)):Prop where
 nl:(lv.map (·.1)).Nodup
 ng:(gs.map (·.1)).Nodup
 lk:∀ id a,mget lv id=some a→a.i=id∧(1≤id∧id≤64)∧0≤a.r∧a.r≤1125899906842624
 gk:∀ o d,mget gs o=some d→d.o=o∧FitOk o d.ls∧1≤d.st∧d.st≤3
 kn:∀ o d,mget gs o=some d→knowF lv d.ls=true
 sm:∀ id a,mget lv id=some a→a.a=sq 1 gs id∧a.s=sq 2 gs id + sq 3 gs id∧a.t=sq 3 gs id∧a.h=a.r - sq 1 gs id - sq 2 gs id∧0≤a.h
theorem GoodB.nil:GoodB [] []:=⟨by simp,by simp,fun _ _ h=>by simp [mget] at h,fun _ _ h=>by simp [mget] at h,fun _ _ h=>by simp [mget] at h,fun _ _ h=>by simp [mget] at h⟩
section
variable {lv:List (Int × Lv)} {gs:List (Int × Gd)}
theorem knowF_iff {ls:List Ln}:knowF lv ls=true ↔ ∀ x ∈ ls,∃ a,mget lv x.i=some a:=by
 unfold knowF
 rw [List.all_eq_true]
 exact ⟨fun h x hx=>Option.isSome_iff_exists.1 (h x hx),fun h x hx=>Option.isSome_iff_exists.2 (h x hx)⟩
theorem knowF_keys {lv':List (Int × Lv)} {ls:List Ln} (h:knowF lv ls=true) (hk:∀ k ∈ lv.map (·.1),k ∈ lv'.map (·.1)):knowF lv' ls=true:=knowF_iff.2 fun x hx=>by
 obtain ⟨a,ha⟩:=knowF_iff.1 h x hx
 exact mget_key (hk _ (mget_isSome.1 (by rw [ha]; rfl)))
theorem GoodB.fit (h:GoodB lv gs) {o:Int} {d:Gd} (hm:mget gs o=some d):(∀ x ∈ d.ls,1≤x.q∧x.q≤1000000)∧d.ls.Pairwise (fun x y=>x.i ≠ y.i):=lines_pw (h.gk o d hm).2.1.2
theorem sq_bd:∀ {l:List (Int × Gd)},(∀ p ∈ l,∀ k,LnOk p.2.ls k)→∀ st id,0≤sq st l id∧sq st l id≤1000000 * l.length:=by
 intro l
 induction l with
 | nil=>intro _ st id; simp [sq]
 | cons p l ih =>
  intro h st id
  have h1:=ih (fun q hq=>h q (by simp [hq])) st id
  have h2:=lines_pw (h p (by simp))
  have h3:=qOf_bd h2.1 h2.2 id
  simp only [sq,List.length_cons]
  split <;> omega
theorem GoodB.gm (h:GoodB lv gs):∀ p ∈ gs,p.2.o=p.1∧FitOk p.1 p.2.ls∧1≤p.2.st∧p.2.st≤3:=fun p hp=>h.gk p.1 p.2 (mget_of_mem h.ng hp)
theorem GoodB.sq (h:GoodB lv gs) (st id:Int):0≤sq st gs id∧sq st gs id≤1000000 * gs.length:=sq_bd (fun p hp=>(h.gm p hp).2.1.2) st id
theorem GoodB.bd (h:GoodB lv gs) (hn:gs.length≤3000000000000):∀ p ∈ lv,LvB p.2:=fun p hp=>by
 have h1:=h.sm p.1 p.2 (mget_of_mem h.nl hp)
 have h2:=h.lk p.1 p.2 (mget_of_mem h.nl hp)
 have a1:=h.sq 1 p.1
 have a2:=h.sq 2 p.1
 have a3:=h.sq 3 p.1
 unfold LvB
 omega
theorem GoodB.few (h:GoodB lv gs):lv.length≤64:=by
 have hn:((lv.map (·.1)).map Int.toNat).Nodup:=by
  refine List.pairwise_map.2 ((List.Pairwise.and_mem.1 h.nl).imp ?_)
  rintro a b ⟨ha,hb,hab⟩ e
  obtain ⟨x,hx⟩:=mget_key ha
  obtain ⟨y,hy⟩:=mget_key hb
  have:=(h.lk a x hx).2.1; have:=(h.lk b y hy).2.1
  omega
 have hsub:((lv.map (·.1)).map Int.toNat) ⊆ List.range' 1 64:=fun x hx=>by
  obtain ⟨k,hk',rfl⟩:=List.mem_map.1 hx
  obtain ⟨y,hy⟩:=mget_key hk'
  have:=(h.lk k y hy).2.1
  exact List.mem_range'_1.2 (by omega)
 have:=List.Nodup.length_le_of_subset hn hsub
 simpa using this
theorem GoodB.four (h:GoodB lv gs):∀ p ∈ gs,1≤p.2.ls.length∧p.2.ls.length≤4:=fun p hp=>(h.gm p hp).2.1.1.2
theorem GoodB.unknown (h:GoodB lv gs) {id:Int} (hm:mget lv id=none) (st:Int):Go.Proofs.YtakaalldbnklcaaGreat.Sk.sq st gs id=0:=by
 have:∀ l:List (Int × Gd),(∀ p ∈ l,knowF lv p.2.ls=true)→Go.Proofs.YtakaalldbnklcaaGreat.Sk.sq st l id=0:=by
  intro l
  induction l with
  | nil=>intro _; rfl
  | cons p l ih =>
   intro hk
   have h1:=knowF_iff.1 (hk p (by simp))
   simp only [Go.Proofs.YtakaalldbnklcaaGreat.Sk.sq]
   rw [ih (fun q hq=>hk q (by simp [hq])),qOf_zero (fun x hx e=>by obtain ⟨a,ha⟩:=h1 x hx; rw [e,hm] at ha; cases ha)]
   split <;> rfl
 exact this gs (fun p hp=>h.kn p.1 p.2 (mget_of_mem h.ng hp))
theorem GoodB.item (h:GoodB lv gs) {id:Int} (hm:mget lv id=none) (hok:1≤id∧id≤64) (g:Nat):GoodB (mset lv id (newLv g id)) gs:=by
 refine ⟨mset_nodup h.nl _ _,h.ng,fun i a ha => ?_,h.gk,fun o d hd=>knowF_keys (h.kn o d hd) (fun k hk => ?_),fun i a ha => ?_⟩
 ·rw [mget_mset] at ha
  split at ha
  ·rename_i e
   injection ha with ha
   subst ha e
   exact ⟨rfl,hok,by simp [newLv],by simp [newLv]⟩
  ·exact h.lk i a ha
 ·obtain ⟨b,hb⟩:=mget_key hk
  refine mget_isSome.1 ?_
  rw [mget_mset]
  split
  ·rfl
  ·rw [hb]; rfl
 ·rw [mget_mset] at ha
  split at ha
  ·rename_i e
   injection ha with ha
   subst ha e
   rw [h.unknown hm,h.unknown hm,h.unknown hm]
   simp [newLv]
  ·exact h.sm i a ha
theorem GoodB.recv (h:GoodB lv gs) {id q:Int} {a:Lv} (hm:mget lv id=some a) (hq:1≤q) (hr:a.r + q≤1125899906842624):GoodB (mset lv id ⟨a.g,a.i,a.r + q,a.h + q,a.a,a.s,a.t⟩) gs:=by
 have h0:=h.lk id a hm
 have h1:=h.sm id a hm
 refine ⟨mset_nodup h.nl _ _,h.ng,fun i b hb => ?_,h.gk,fun o d hd=>knowF_keys (h.kn o d hd) (fun k hk => ?_),fun i b hb => ?_⟩
 ·rw [mget_mset] at hb
  split at hb
  ·rename_i e
   injection hb with hb
   subst hb e
   exact ⟨h0.1,h0.2.1,by simp only; omega,by simp only; omega⟩
  ·exact h.lk i b hb
 ·obtain ⟨b,hb⟩:=mget_key hk
  refine mget_isSome.1 ?_
  rw [mget_mset]
  split
  ·rfl
  ·rw [hb]; rfl
 ·rw [mget_mset] at hb
  split at hb
  ·rename_i e
   injection hb with hb
   subst hb e
   simp only
   omega
  ·exact h.sm i b hb
theorem sq_put (hn:(gs.map (·.1)).Nodup) {o:Int} (d:Gd) (st id:Int):sq st (mset gs o d) id=(if d.st=st then qOf d.ls id else 0) + sq st (mdel gs o) id:=sq_perm (perm_mset d hn) st id
theorem sq_out (hn:(gs.map (·.1)).Nodup) {o:Int} {d:Gd} (hm:mget gs o=some d) (st id:Int):sq st gs id=(if d.st=st then qOf d.ls id else 0) + sq st (mdel gs o) id:=sq_perm (perm_mdel hn hm) st id
theorem mdel_no {o:Int} (hm:mget gs o=none):mdel gs o=gs:=mdel_none (fun hin=>by obtain ⟨b,hb⟩:=mget_key hin; rw [hm] at hb; cases hb)
theorem GoodB.moved (h:GoodB lv gs) {f:Lv→Int→Lv} (f0:∀ a,f a 0=a) (fa:∀ a p q,f (f a p) q=f a (p + q)) (fg:∀ a q,(f a q).g=a.g) (fi:∀ a q,(f a q).i=a.i∧(f a q).r=a.r) {ls:List Ln} {gs':List (Int × Gd)} (hn:(gs'.map (·.1)).Nodup)
  (hg:∀ o d,mget gs' o=some d→d.o=o∧FitOk o d.ls∧1≤d.st∧d.st≤3) (hk:∀ o d,mget gs' o=some d→knowF lv d.ls=true)
  (hs:∀ id a,mget lv id=some a→(f a (qOf ls id)).a=Go.Proofs.YtakaalldbnklcaaGreat.Sk.sq 1 gs' id∧(f a (qOf ls id)).s=Go.Proofs.YtakaalldbnklcaaGreat.Sk.sq 2 gs' id + Go.Proofs.YtakaalldbnklcaaGreat.Sk.sq 3 gs' id∧(f a (qOf ls id)).t=Go.Proofs.YtakaalldbnklcaaGreat.Sk.sq 3 gs' id∧(f a (qOf ls id)).h=a.r - Go.Proofs.YtakaalldbnklcaaGreat.Sk.sq 1 gs' id - Go.Proofs.YtakaalldbnklcaaGreat.Sk.sq 2 gs' id∧0≤(f a (qOf ls id)).h):GoodB (mvL f lv ls) gs':=by
 have hkeys:=mvL_keys (f:=f) fg (ls:=ls) h.nl
 refine ⟨by rw [hkeys]; exact h.nl,hn,fun i b hb => ?_,hg,fun o d hd=>knowF_keys (hk o d hd) (fun k hk=>by rw [hkeys]; exact hk),fun i b hb => ?_⟩
 ·rw [mvL_all f0 fa] at hb
  obtain ⟨a,ha,rfl⟩:=Option.map_eq_some_iff.1 hb
  have:=h.lk i a ha
  rw [(fi a _).1,(fi a _).2]
  exact this
 ·rw [mvL_all f0 fa] at hb
  obtain ⟨a,ha,rfl⟩:=Option.map_eq_some_iff.1 hb
  have:=hs i a ha
  rw [(fi a _).2]
  exact this
theorem GoodB.alloc (h:GoodB lv gs) {o:Int} {ls:List Ln} (he:errF lv gs o ls=0) (hs:ls.any (shortL lv)=false) {d:Gd} (hd:d.o=o∧d.st=1∧d.ls=ls):GoodB (mvL allocL lv ls) (mset gs o d):=by
 obtain ⟨h1,h2,h3⟩:=errF_zero he
 obtain ⟨d1,d2,rfl⟩:=hd
 obtain ⟨p1,p2⟩:=lines_pw h1.2
 refine h.moved allocL_0 allocL_a (fun _ _=>rfl) (fun _ _=>⟨rfl,rfl⟩) (mset_nodup h.ng _ _) (fun o' d' hd' => ?_) (fun o' d' hd' => ?_) (fun id a ha => ?_)
 ·rw [mget_mset] at hd'
  split at hd'
  ·rename_i e
   injection hd' with hd'
   subst hd' e
   exact ⟨d1,h1,by omega,by omega⟩
  ·exact h.gk o' d' hd'
 ·rw [mget_mset] at hd'
  split at hd'
  ·injection hd' with hd'
   subst hd'
   exact h2
  ·exact h.kn o' d' hd'
 ·have hb:=h.sm id a ha
  rw [sq_put h.ng,sq_put h.ng,sq_put h.ng,mdel_no h3,d2,if_pos rfl,if_neg (by omega),if_neg (by omega)]
  have hq:=qOf_bd p1 p2 id
  have hle:qOf d.ls id≤a.h:=by
   by_cases hx:∃ x ∈ d.ls,x.i=id
   ·obtain ⟨x,hx,rfl⟩:=hx
    rw [qOf_mem p2 hx]
    rw [List.any_eq_false] at hs
    have:=hs x hx
    unfold shortL at this
    rw [ha] at this
    simp at this
    exact this
   ·rw [qOf_zero (fun x hx' e=>hx ⟨x,hx',e⟩)]
    exact hb.2.2.2.2
  simp only [allocL]
  omega
theorem GoodB.free (h:GoodB lv gs) {o:Int} {d:Gd} (hm:mget gs o=some d) (hs:d.st=1):GoodB (mvL freeL lv d.ls) (mdel gs o):=by
 obtain ⟨p1,p2⟩:=h.fit hm
 refine h.moved freeL_0 freeL_a (fun _ _=>rfl) (fun _ _=>⟨rfl,rfl⟩) (mdel_nodup h.ng _) (fun o' d' hd' => ?_) (fun o' d' hd' => ?_) (fun id a ha => ?_)
 ·rw [mget_mdel] at hd'
  split at hd'
  ·cases hd'
  ·exact h.gk o' d' hd'
 ·rw [mget_mdel] at hd'
  split at hd'
  ·cases hd'
  ·exact h.kn o' d' hd'
 ·have hb:=h.sm id a ha
  rw [sq_out h.ng hm,sq_out h.ng hm,sq_out h.ng hm,hs,if_pos rfl,if_neg (by omega),if_neg (by omega)] at hb
  have hq:=qOf_bd p1 p2 id
  simp only [freeL]
  omega
theorem GoodB.ship (h:GoodB lv gs) {o:Int} {d:Gd} (hm:mget gs o=some d) (hs:d.st=1):GoodB (mvL shipL lv d.ls) (mset gs o (nextG d)):=by
 obtain ⟨p1,p2⟩:=h.fit hm
 have hg:=h.gk o d hm
 refine h.moved shipL_0 shipL_a (fun _ _=>rfl) (fun _ _=>⟨rfl,rfl⟩) (mset_nodup h.ng _ _) (fun o' d' hd' => ?_) (fun o' d' hd' => ?_) (fun id a ha => ?_)
 ·rw [mget_mset] at hd'
  split at hd'
  ·rename_i e
   injection hd' with hd'
   subst hd' e
   exact ⟨hg.1,hg.2.1,by simp only [nextG]; omega,by simp only [nextG]; omega⟩
  ·exact h.gk o' d' hd'
 ·rw [mget_mset] at hd'
  split at hd'
  ·injection hd' with hd'
   subst hd'
   exact h.kn o d hm
  ·exact h.kn o' d' hd'
 ·have hb:=h.sm id a ha
  rw [sq_out h.ng hm,sq_out h.ng hm,sq_out h.ng hm,hs,if_pos rfl,if_neg (by omega),if_neg (by omega)] at hb
  have hn:(nextG d).st=2:=by simp only [nextG]; omega
  rw [sq_put h.ng,sq_put h.ng,sq_put h.ng,hn,if_neg (by omega),if_pos rfl,if_neg (by omega)]
  have hq:=qOf_bd p1 p2 id
  simp only [shipL,nextG]
  omega
theorem GoodB.restock (h:GoodB lv gs) {o:Int} {d:Gd} (hm:mget gs o=some d) (hs:d.st=2):GoodB (mvL restockL lv d.ls) (mset gs o (nextG d)):=by
 obtain ⟨p1,p2⟩:=h.fit hm
 have hg:=h.gk o d hm
 refine h.moved restockL_0 restockL_a (fun _ _=>rfl) (fun _ _=>⟨rfl,rfl⟩) (mset_nodup h.ng _ _) (fun o' d' hd' => ?_) (fun o' d' hd' => ?_) (fun id a ha => ?_)
 ·rw [mget_mset] at hd'
  split at hd'
  ·rename_i e
   injection hd' with hd'
   subst hd' e
   exact ⟨hg.1,hg.2.1,by simp only [nextG]; omega,by simp only [nextG]; omega⟩
  ·exact h.gk o' d' hd'
 ·rw [mget_mset] at hd'
  split at hd'
  ·injection hd' with hd'
   subst hd'
   exact h.kn o d hm
  ·exact h.kn o' d' hd'
 ·have hb:=h.sm id a ha
  rw [sq_out h.ng hm,sq_out h.ng hm,sq_out h.ng hm,hs,if_neg (by omega),if_pos rfl,if_neg (by omega)] at hb
  have hn:(nextG d).st=3:=by simp only [nextG]; omega
  rw [sq_put h.ng,sq_put h.ng,sq_put h.ng,hn,if_neg (by omega),if_neg (by omega),if_pos rfl]
  have hq:=qOf_bd p1 p2 id
  simp only [restockL,nextG]
  omega
end
end Go.Proofs.YtakaalldbnklcaaGreat.Sk
namespace Go.Proofs.YtakaalldbnklcaaGreat.Sk
open Go.RowKit Go.WideShapes Go.ChangeShapes Go.ChangeAt Go.Deep
set_option linter.unusedVariables false
theorem _root_.Go.Proofs.YtakaalldbnklcaaGreat.Touch.old {S T:Nat→Prop} {w w':World} (h:Touch S w w') (hT:∀ k,k < w.heap.size→S k→T k):Touch T w w':=⟨h.os,h.tape,h.output,h.size,fun k hk hn=>h.block k hk (fun hs=>hn (hT k hk hs))⟩
def itemZ (id:Int):Int:=if 1≤id∧id≤64 then 0 else 2
def recvZ (lv:List (Int × Lv)) (id q:Int):Int:=if 1≤q∧q≤1000000 then (match mget lv id with | none=>70 | some a=>if 1125899906842624 - q < a.r then 72 else 0) else 2
noncomputable def allocZ (lv:List (Int × Lv)) (gs:List (Int × Gd)) (o:Int) (ls:List Ln):Int:=if errF lv gs o ls=0 then (if ls.any (shortL lv)=true then 150 else 0) else errF lv gs o ls
def freeZ (gs:List (Int × Gd)) (o:Int):Int:=match mget gs o with | none=>70 | some d=>if d.st=2 then 130 else 0
def goZ (gs:List (Int × Gd)) (o st:Int):Int:=match mget gs o with | none=>70 | some d=>if d.st=st then 0 else 130
abbrev MapRel:=List (Int × Lv)→List (Int × Gd)→Prop
def ItemR (lv:List (Int × Lv)) (gs:List (Int × Gd)) (id:Int):MapRel:=fun lv' gs'=>gs'=gs∧((¬ (1≤id∧id≤64)∧lv'=lv)∨((1≤id∧id≤64)∧(∃ a,mget lv id=some a)∧lv'=lv)∨((1≤id∧id≤64)∧mget lv id=none∧∃ g,lv'=mset lv id (newLv g id)))
def RecvR (lv:List (Int × Lv)) (gs:List (Int × Gd)) (id q:Int):MapRel:=fun lv' gs'=>gs'=gs∧((recvZ lv id q ≠ 0∧lv'=lv)∨(recvZ lv id q=0∧(1≤q∧q≤1000000)∧∃ a,mget lv id=some a∧a.r + q≤1125899906842624∧lv'=mset lv id ⟨a.g,a.i,a.r + q,a.h + q,a.a,a.s,a.t⟩))
def AllocR (lv:List (Int × Lv)) (gs:List (Int × Gd)) (o:Int) (ls:List Ln):MapRel:=fun lv' gs'=>(allocZ lv gs o ls ≠ 0∧lv'=lv∧gs'=gs)∨(allocZ lv gs o ls=0∧errF lv gs o ls=0∧ls.any (shortL lv)=false∧lv'=mvL allocL lv ls∧∃ d:Gd,(d.o=o∧d.st=1∧d.ls=ls)∧gs'=mset gs o d)
def FreeR (lv:List (Int × Lv)) (gs:List (Int × Gd)) (o:Int):MapRel:=fun lv' gs'=>((∀ d,mget gs o=some d→d.st ≠ 1)∧lv'=lv∧gs'=gs)∨(freeZ gs o=0∧∃ d,mget gs o=some d∧d.st=1∧lv'=mvL freeL lv d.ls∧gs'=mdel gs o)
def ShipR (lv:List (Int × Lv)) (gs:List (Int × Gd)) (o:Int):MapRel:=fun lv' gs'=>(goZ gs o 1 ≠ 0∧lv'=lv∧gs'=gs)∨(goZ gs o 1=0∧∃ d,mget gs o=some d∧d.st=1∧lv'=mvL shipL lv d.ls∧gs'=mset gs o (nextG d))
def RestockR (lv:List (Int × Lv)) (gs:List (Int × Gd)) (o:Int):MapRel:=fun lv' gs'=>(goZ gs o 2 ≠ 0∧lv'=lv∧gs'=gs)∨(goZ gs o 2=0∧∃ d,mget gs o=some d∧d.st=2∧lv'=mvL restockL lv d.ls∧gs'=mset gs o (nextG d))
def StepPost (n0 X BL BG:Nat) (lv:List (Int × Lv)) (gs:List (Int × Gd)) (z:Int) (R:MapRel) (w:World) (e:Ending) (w':World):Prop :=
 ∃ lv' gs',e = .returned (.int .i64 z)∧IsBook n0 w' X BL BG lv' gs'∧GoodB lv' gs'∧R lv' gs'∧gs'.length≤gs.length + 1∧Touch (Own BL BG lv gs) w w'
section
variable {n0:Nat} {w w':World} {X BL BG:Nat} {lv:List (Int × Lv)} {gs:List (Int × Gd)}
theorem StepPost.same {z:Int} {R:MapRel} {e:Ending} (h:IsBook n0 w X BL BG lv gs) (hG:GoodB lv gs) (hR:R lv gs) (he:e = .returned (.int .i64 z)) (hb:Below w.heap.size w w'):StepPost n0 X BL BG lv gs z R w e w' :=
 ⟨lv,gs,he,h.next hb,hG,hR,by omega,.of_below hb⟩
theorem item_step (h:IsBook n0 w X BL BG lv gs) (hG:GoodB lv gs) (hn:n0≤w.heap.size) (id:Int) :
  Calls Tryz.prog 27 #[.pointer (some ⟨X,0,none⟩),.int .i64 id] w (StepPost n0 X BL BG lv gs (itemZ id) (ItemR lv gs id) w):=by
 by_cases hok:1≤id∧id≤64
 ·have hz:itemZ id=0:=if_pos hok
  rw [hz]
  cases hm:mget lv id with
  | some a=>exact (item_old h id hok hm).mono fun e w' ⟨h1,h2⟩=>h2 ▸ .same h hG ⟨rfl,.inr (.inl ⟨hok,⟨a,hm⟩,rfl⟩)⟩ h1 (Below.refl _ _)
  | none =>
   refine (item_new h hn id hok hm).mono ?_
   rintro e w' ⟨h1,⟨g,_,h2⟩,h3⟩
   exact ⟨_,_,h1,h2,hG.item hm hok g,⟨rfl,.inr (.inr ⟨hok,hm,g,rfl⟩)⟩,by omega,h3⟩
 ·have hz:itemZ id=2:=if_neg hok
  rw [hz]
  exact (item_no h id hok).mono fun e w' ⟨h1,h2⟩=>h2 ▸ .same h hG ⟨rfl,.inl ⟨hok,rfl⟩⟩ h1 (Below.refl _ _)
theorem recv_step (h:IsBook n0 w X BL BG lv gs) (hG:GoodB lv gs) (hl:gs.length≤3000000000000) (id q:Int) :
  Calls Tryz.prog 29 #[.pointer (some ⟨X,0,none⟩),.int .i64 id,.int .i64 q] w (StepPost n0 X BL BG lv gs (recvZ lv id q) (RecvR lv gs id q) w):=by
 by_cases hok:1≤q∧q≤1000000
 ·cases hm:mget lv id with
  | none =>
   have hz:recvZ lv id q=70:=by unfold recvZ; rw [if_pos hok,hm]
   have hR:RecvR lv gs id q lv gs:=⟨rfl,.inl ⟨by rw [hz]; decide,rfl⟩⟩
   rw [hz]
   exact (recv_none h id q hok hm).mono fun e w' ⟨h1,h2⟩=>h2 ▸ .same h hG hR h1 (Below.refl _ _)
  | some a =>
   by_cases hb:1125899906842624 - q < a.r
   ·have hz:recvZ lv id q=72:=by unfold recvZ; rw [if_pos hok,hm]; simp only; rw [if_pos hb]
    have hR:RecvR lv gs id q lv gs:=⟨rfl,.inl ⟨by rw [hz]; decide,rfl⟩⟩
    rw [hz]
    exact (recv_many h id q hok hm hb).mono fun e w' ⟨h1,h2⟩=>h2 ▸ .same h hG hR h1 (Below.refl _ _)
   ·have hz:recvZ lv id q=0:=by unfold recvZ; rw [if_pos hok,hm]; simp only; rw [if_neg hb]
    have hR:RecvR lv gs id q (mset lv id ⟨a.g,a.i,a.r + q,a.h + q,a.a,a.s,a.t⟩) gs:=⟨rfl,.inr ⟨hz,hok,a,hm,by omega,rfl⟩⟩
    rw [hz]
    refine (recv_yes h id q hok hm (by omega) (hG.bd hl _ (mget_mem hm))).mono ?_
    rintro e w' ⟨h1,h2,h3⟩
    exact ⟨_,_,h1,h2,hG.recv hm hok.1 (by omega),hR,by omega,h3⟩
 ·have hz:recvZ lv id q=2:=if_neg hok
  have hR:RecvR lv gs id q lv gs:=⟨rfl,.inl ⟨by rw [hz]; decide,rfl⟩⟩
  rw [hz]
  exact (recv_arg h id q hok).mono fun e w' ⟨h1,h2⟩=>h2 ▸ .same h hG hR h1 (Below.refl _ _)
theorem alloc_stepB (h:IsBook n0 w X BL BG lv gs) (hG:GoodB lv gs) (hn:n0≤w.heap.size) (hbd:∀ p ∈ lv,LvB p.2) (o:Int) (A:Option Addr) (cap:Nat) (ls:List Ln) (hR:Rd w A (ls.flatMap enL)) (hcap:ls.length≤cap) (hcm:cap≤maxLen) :
  Calls Tryz.prog 121 #[.pointer (some ⟨X,0,none⟩),.int .i64 o,.slice A ls.length cap] w (StepPost n0 X BL BG lv gs (allocZ lv gs o ls) (AllocR lv gs o ls) w):=by
 by_cases hz:errF lv gs o ls=0
 ·refine (alloc_fit h hn o A cap ls hR hcap hcm hz hbd).mono ?_
  rintro e w' (⟨hs,h1,h2⟩ | ⟨hs,d,h1,h2,hd,hdg,hdb,h3⟩)
  ·have hzz:allocZ lv gs o ls=150:=by unfold allocZ; rw [if_pos hz,if_pos hs]
   have hRR:AllocR lv gs o ls lv gs:=.inl ⟨by rw [hzz]; decide,rfl,rfl⟩
   rw [hzz]
   exact .same h hG hRR h1 h2
  ·have hzz:allocZ lv gs o ls=0:=by unfold allocZ; rw [if_pos hz,hs]; rfl
   have hRR:AllocR lv gs o ls (mvL allocL lv ls) (mset gs o d):=.inr ⟨hzz,hz,hs,rfl,d,hd,rfl⟩
   rw [hzz]
   refine ⟨_,_,h1,h2,hG.alloc hz hs hd,hRR,mset_len,h3.old fun k hk hS => ?_⟩
   rcases hS with e | e | e | ⟨p,hp,e⟩
   ·exact .inl e
   ·exact .inr (.inl e)
   ·exact .inr (.inr (.inl e))
   ·rcases mem_mset hp with rfl | ⟨hp',_⟩
    ·simp only at e; omega
    ·exact .inr (.inr (.inr ⟨p,hp',e⟩))
 ·have hzz:allocZ lv gs o ls=errF lv gs o ls:=if_neg hz
  have hRR:AllocR lv gs o ls lv gs:=.inl ⟨by rw [hzz]; exact hz,rfl,rfl⟩
  rw [hzz]
  exact (alloc_no h o A cap ls hR hcap hcm hz).mono fun e w' ⟨h1,h2⟩ => .same h hG hRR h1 h2
theorem alloc_step (h:IsBook n0 w X BL BG lv gs) (hG:GoodB lv gs) (hn:n0≤w.heap.size) (hl:gs.length≤3000000000000) (o:Int) (A:Option Addr) (cap:Nat) (ls:List Ln) (hR:Rd w A (ls.flatMap enL)) (hcap:ls.length≤cap) (hcm:cap≤maxLen) :
  Calls Tryz.prog 121 #[.pointer (some ⟨X,0,none⟩),.int .i64 o,.slice A ls.length cap] w (StepPost n0 X BL BG lv gs (allocZ lv gs o ls) (AllocR lv gs o ls) w):=alloc_stepB h hG hn (hG.bd hl) o A cap ls hR hcap hcm
theorem free_step (h:IsBook n0 w X BL BG lv gs) (hG:GoodB lv gs) (hl:gs.length≤3000000000000) (o:Int) :
  Calls Tryz.prog 173 #[.pointer (some ⟨X,0,none⟩),.int .i64 o] w (StepPost n0 X BL BG lv gs (freeZ gs o) (FreeR lv gs o) w):=by
 cases hm:mget gs o with
 | none =>
  have hz:freeZ gs o=70:=by unfold freeZ; rw [hm]
  rw [hz]
  exact (free_none h o hm).mono fun e w' ⟨h1,h2⟩=>h2 ▸ .same h hG (.inl ⟨fun d hd=>by (rw [hm] at hd; cases hd),rfl,rfl⟩) h1 (Below.refl _ _)
 | some d =>
  have hg:=hG.gk o d hm
  rcases (show d.st=1∨d.st=2∨d.st=3 from by omega) with hs | hs | hs
  ·have hz:freeZ gs o=0:=by unfold freeZ; rw [hm]; simp only; rw [if_neg (by omega)]
   have hRR:FreeR lv gs o (mvL freeL lv d.ls) (mdel gs o):=.inr ⟨hz,d,hm,hs,rfl,rfl⟩
   rw [hz]
   refine (free_yes h o hm hs hg.2.1.1.2.2 hg.2.1.2 (hG.kn o d hm) (hG.bd hl)).mono ?_
   rintro e w' ⟨h1,h2,h3⟩
   exact ⟨_,_,h1,h2,hG.free hm hs,hRR,Nat.le_trans mdel_len (by omega),h3⟩
  ·have hz:freeZ gs o=130:=by unfold freeZ; rw [hm]; simp only; rw [if_pos hs]
   rw [hz]
   exact (free_gone h o hm hs).mono fun e w' ⟨h1,h2⟩=>h2 ▸ .same h hG (.inl ⟨fun d' hd=>by (rw [hm] at hd; injection hd with hd; subst hd; omega),rfl,rfl⟩) h1 (Below.refl _ _)
  ·have hz:freeZ gs o=0:=by unfold freeZ; rw [hm]; simp only; rw [if_neg (by omega)]
   rw [hz]
   exact (free_back h o hm hs).mono fun e w' ⟨h1,h2⟩=>h2 ▸ .same h hG (.inl ⟨fun d' hd=>by (rw [hm] at hd; injection hd with hd; subst hd; omega),rfl,rfl⟩) h1 (Below.refl _ _)
theorem ship_step (h:IsBook n0 w X BL BG lv gs) (hG:GoodB lv gs) (hl:gs.length≤3000000000000) (o:Int) :
  Calls Tryz.prog 174 #[.pointer (some ⟨X,0,none⟩),.int .i64 o] w (StepPost n0 X BL BG lv gs (goZ gs o 1) (ShipR lv gs o) w):=by
 cases hm:mget gs o with
 | none =>
  have hz:goZ gs o 1=70:=by unfold goZ; rw [hm]
  have hRR:ShipR lv gs o lv gs:=.inl ⟨by rw [hz]; decide,rfl,rfl⟩
  rw [hz]
  exact (ship_not h o (.inl ⟨hm,rfl⟩)).mono fun e w' ⟨h1,h2⟩=>h2 ▸ .same h hG hRR h1 (Below.refl _ _)
 | some d =>
  have hg:=hG.gk o d hm
  by_cases hs:d.st=1
  ·have hz:goZ gs o 1=0:=by unfold goZ; rw [hm]; simp only; rw [if_pos hs]
   have hRR:ShipR lv gs o (mvL shipL lv d.ls) (mset gs o (nextG d)):=.inr ⟨hz,d,hm,hs,rfl,rfl⟩
   rw [hz]
   refine (ship_yes h o hm hs hg.2.1.1.2.2 hg.2.1.2 (hG.kn o d hm) (hG.bd hl)).mono ?_
   rintro e w' ⟨h1,h2,h3⟩
   exact ⟨_,_,h1,h2,hG.ship hm hs,hRR,mset_len,h3⟩
  ·have hz:goZ gs o 1=130:=by unfold goZ; rw [hm]; simp only; rw [if_neg hs]
   have hRR:ShipR lv gs o lv gs:=.inl ⟨by rw [hz]; decide,rfl,rfl⟩
   rw [hz]
   exact (ship_not h o (.inr ⟨d,hm,hs,rfl⟩)).mono fun e w' ⟨h1,h2⟩=>h2 ▸ .same h hG hRR h1 (Below.refl _ _)
theorem restock_step (h:IsBook n0 w X BL BG lv gs) (hG:GoodB lv gs) (hl:gs.length≤3000000000000) (o:Int) :
  Calls Tryz.prog 175 #[.pointer (some ⟨X,0,none⟩),.int .i64 o] w (StepPost n0 X BL BG lv gs (goZ gs o 2) (RestockR lv gs o) w):=by
 cases hm:mget gs o with
 | none =>
  have hz:goZ gs o 2=70:=by unfold goZ; rw [hm]
  have hRR:RestockR lv gs o lv gs:=.inl ⟨by rw [hz]; decide,rfl,rfl⟩
  rw [hz]
  exact (restock_not h o (.inl ⟨hm,rfl⟩)).mono fun e w' ⟨h1,h2⟩=>h2 ▸ .same h hG hRR h1 (Below.refl _ _)
 | some d =>
  have hg:=hG.gk o d hm
  by_cases hs:d.st=2
  ·have hz:goZ gs o 2=0:=by unfold goZ; rw [hm]; simp only; rw [if_pos hs]
   have hRR:RestockR lv gs o (mvL restockL lv d.ls) (mset gs o (nextG d)):=.inr ⟨hz,d,hm,hs,rfl,rfl⟩
   rw [hz]
   refine (restock_yes h o hm hs hg.2.1.1.2.2 hg.2.1.2 (hG.kn o d hm) (hG.bd hl)).mono ?_
   rintro e w' ⟨h1,h2,h3⟩
   exact ⟨_,_,h1,h2,hG.restock hm hs,hRR,mset_len,h3⟩
  ·have hz:goZ gs o 2=130:=by unfold goZ; rw [hm]; simp only; rw [if_neg hs]
   have hRR:RestockR lv gs o lv gs:=.inl ⟨by rw [hz]; decide,rfl,rfl⟩
   rw [hz]
   exact (restock_not h o (.inr ⟨d,hm,hs,rfl⟩)).mono fun e w' ⟨h1,h2⟩=>h2 ▸ .same h hG hRR h1 (Below.refl _ _)
end
end Go.Proofs.YtakaalldbnklcaaGreat.Sk
namespace Go.Proofs.YtakaalldbnklcaaGreat.Sk
open Go.RowKit Go.WideShapes Go.ChangeShapes Go.ChangeAt Go.Deep
set_option linter.unusedVariables false
theorem info_rg:(Tryz.prog.info? 203).map (fun i=>(i.zero,i.size,i.bytes))=some (some (.agg #[.int .i64 0,.int .i64 0]),2,16):=by kernel_rfl
theorem info_rd:(Tryz.prog.info? 158).map (fun i=>(i.zero,i.size,i.bytes))=some (some (.agg #[.int .i64 0,.int .i64 0,.slice none 0 0]),3,40):=by kernel_rfl
theorem info_rl:(Tryz.prog.info? 205).map (fun i=>(i.zero,i.size,i.bytes))=some (some (.agg #[.int .i64 0,.int .i64 0]),2,16):=by kernel_rfl
def LnsAt (base:Nat) (w:World) (d:Gd):Prop:=Rd w (some ⟨d.b,0,none⟩) (d.ls.flatMap enL)∧base≤d.b∧∃ cs,Blk w d.b 205 cs
structure IsRef (base:Nat) (w:World) (R:Nat) (A1:Option Addr) (c1:Nat) (is:List (Int × Int)) (A2:Option Addr) (c2:Nat) (rs:List Gd):Prop where
 blk:Blk w R 84 #[.slice A1 is.length c1,.slice A2 rs.length c2]
 own1:w.ownsRow base 203 2 (.slice A1 is.length c1) is.length (is.flatMap en2)
 own2:w.ownsRow base 158 3 (.slice A2 rs.length c2) rs.length (rs.flatMap enG3)
 lns:∀ o ∈ rs,LnsAt base w o
 lt:R < base
section
variable {base R c1 c2:Nat} {A1 A2:Option Addr} {is:List (Int × Int)} {rs:List Gd} {w w':World}
theorem LnsAt.touch {S:Nat→Prop} {o:Gd} (h:LnsAt base w o) (ht:Touch S w w') (hS:¬ S o.b):LnsAt base w' o:=by
 obtain ⟨h1,h2,cs,h3⟩:=h
 exact ⟨ht.rd h1 (fun b hb=>by simp at hb; subst hb; exact hS),h2,cs,ht.blk h3 hS⟩
theorem IsRef.next (h:IsRef base w R A1 c1 is A2 c2 rs) (hb:Below w.heap.size w w'):IsRef base w' R A1 c1 is A2 c2 rs :=
 ⟨h.blk.next hb,h.own1.kept (grown_of_below hb none) (by cases hv:(Value.slice A1 is.length c1).ownBlock <;> simp),h.own2.kept (grown_of_below hb none) (by cases hv:(Value.slice A2 rs.length c2).ownBlock <;> simp),
  fun o ho=>(h.lns o ho).touch (S:=fun _=>False) (.of_below hb) (fun h=>h),h.lt⟩
theorem IsRef.alloc (h:IsRef base w R A1 c1 is A2 c2 rs) (o:Obj):IsRef base (w.alloc o) R A1 c1 is A2 c2 rs:=h.next ((Below.refl _ _).alloc (Nat.le_refl _) o)
theorem IsRef.cell0 (h:IsRef base w R A1 c1 is A2 c2 rs):w.cell? ⟨R,0,none⟩=some (.slice A1 is.length c1):=h.blk.cell 0
theorem IsRef.cell1 (h:IsRef base w R A1 c1 is A2 c2 rs):w.cell? ⟨R,1,none⟩=some (.slice A2 rs.length c2):=h.blk.cell 1
theorem IsRef.elem1 (h:IsRef base w R A1 c1 is A2 c2 rs) {k:Nat} {y:Int × Int} (hk:is[k]?=some y):∃ g,A1=some ⟨g,0,none⟩∧base≤g∧CellsAt w g (k * 2) (en2 y):=by
 have hkl:=(List.getElem?_eq_some_iff.1 hk).1
 obtain ⟨g,cap',e,hb,hlt⟩:=own_form h.own1 (by omega)
 injection e with e1 e2 e3
 subst e1 e3
 exact ⟨g,rfl,hb,hlt,fun j u hu=>own_cells en2_len h.own1 hk hu⟩
theorem IsRef.elem2 (h:IsRef base w R A1 c1 is A2 c2 rs) {k:Nat} {y:Gd} (hk:rs[k]?=some y):∃ g,A2=some ⟨g,0,none⟩∧base≤g∧CellsAt w g (k * 3) (enG3 y):=by
 have hkl:=(List.getElem?_eq_some_iff.1 hk).1
 obtain ⟨g,cap',e,hb,hlt⟩:=own_form h.own2 (by omega)
 injection e with e1 e2 e3
 subst e1 e3
 exact ⟨g,rfl,hb,hlt,fun j u hu=>own_cells enG3_len h.own2 hk hu⟩
def isI (id:Int) (y:Int × Int):Bool:=decide (y.1=id)
def isD (id:Int) (y:Gd):Bool:=decide (y.o=id)
set_option maxRecDepth 100000 in
set_option maxHeartbeats 4000000 in
theorem rfind_any (h:IsRef base w R A1 c1 is A2 c2 rs) (id:Int) (hl:is.length≤140737488355328) :
  Calls Tryz.prog 64 #[.pointer (some ⟨R,0,none⟩),.int .i64 id] w fun e w'=>e = .returned (.int .i64 (plc (isI id) is))∧w=w':=by
 go_enter Tryz.func64,Tryz.ntmps64
 go_wp2_with fail
 go_loop [5] (fun i=>∃ k:Nat,k≤is.length∧i = .int .i64 k∧Hid (∀ j y,j < k→is[j]?=some y→isI id y=false)) (fun i=>is.length - nOf i)
 case atStart=>exact ⟨0,Nat.zero_le _,rfl,hid (fun j y hj=>by omega)⟩
 case round =>
  obtain ⟨k,hk,rfl,hP⟩:=hrel
  have c0:=h.cell0
  by_cases hlt:k < is.length
  ·obtain ⟨y,hy⟩:∃ y,is[k]?=some y:=⟨is[k],List.getElem?_eq_getElem hlt⟩
   obtain ⟨g,rfl,_,hpr⟩:=h.elem1 hy
   have HY:=hid hy
   obtain ⟨yi,yl⟩:=y
   have p0:w.cell? ⟨g,k * 2,none⟩=some (.int .i64 yi):=hpr.2 0 _ rfl
   clear hy hpr
   by_cases e:yi=id
   ·subst e
    have HV:=hid (plc_some (p:=isI yi) HY.out (by simp [isI]) hP.out)
    clear hP HY
    go_wp2_with fail
    go_ret
    rw [HV.out]; exact ⟨rfl,rfl⟩
   ·have b2:(yi == id)=false:=by simpa using e
    have HN:=hid (show isI id (yi,yl)=false from by simpa [isI] using e)
    clear e
    go_wp2_with fail
    go_round
    case rel=>exact ⟨k + 1,by omega,by go_num,hid (fun j z hj hz=>by
     by_cases e:j=k
     ·subst e; rw [HY.out] at hz; injection hz with hz; subst hz; exact HN.out
     ·exact hP.out j z (by omega) hz)⟩
    case measure=>simp [nOf]; omega
  ·have HV:=hid (plc_none (p:=isI id) (l:=is) (fun y hy=>by
    obtain ⟨j,hj⟩:=List.mem_iff_getElem?.1 hy
    exact hP.out j y (by have:=(List.getElem?_eq_some_iff.1 hj).1; omega) hj))
   have hk':k=is.length:=by omega
   subst hk'
   clear hP hk hlt
   go_wp2_with fail
   go_ret
   rw [HV.out]; exact ⟨rfl,rfl⟩
set_option maxRecDepth 100000 in
set_option maxHeartbeats 4000000 in
theorem rgoodsOf_any (h:IsRef base w R A1 c1 is A2 c2 rs) (id:Int) (hl:rs.length≤140737488355328) :
  Calls Tryz.prog 208 #[.pointer (some ⟨R,0,none⟩),.int .i64 id] w fun e w'=>e = .returned (.int .i64 (plc (isD id) rs))∧w=w':=by
 go_enter Tryz.func208,Tryz.ntmps208
 go_wp2_with fail
 go_loop [5] (fun i=>∃ k:Nat,k≤rs.length∧i = .int .i64 k∧Hid (∀ j y,j < k→rs[j]?=some y→isD id y=false)) (fun i=>rs.length - nOf i)
 case atStart=>exact ⟨0,Nat.zero_le _,rfl,hid (fun j y hj=>by omega)⟩
 case round =>
  obtain ⟨k,hk,rfl,hP⟩:=hrel
  have c0:=h.cell1
  by_cases hlt:k < rs.length
  ·obtain ⟨y,hy⟩:∃ y,rs[k]?=some y:=⟨rs[k],List.getElem?_eq_getElem hlt⟩
   obtain ⟨g,rfl,_,hpr⟩:=h.elem2 hy
   have HY:=hid hy
   obtain ⟨yg,yi,yst,yb,ycp,yls⟩:=y
   have p0:w.cell? ⟨g,k * 3,none⟩=some (.int .i64 yi):=hpr.2 0 _ rfl
   clear hy hpr
   by_cases e:yi=id
   ·subst e
    have HV:=hid (plc_some (p:=isD yi) HY.out (by simp [isD]) hP.out)
    clear hP HY
    go_wp2_with fail
    go_ret
    rw [HV.out]; exact ⟨rfl,rfl⟩
   ·have b2:(yi == id)=false:=by simpa using e
    have HN:=hid (show isD id (⟨yg,yi,yst,yb,ycp,yls⟩:Gd)=false from by simpa [isD] using e)
    clear e
    go_wp2_with fail
    go_round
    case rel=>exact ⟨k + 1,by omega,by go_num,hid (fun j z hj hz=>by
     by_cases e:j=k
     ·subst e; rw [HY.out] at hz; injection hz with hz; subst hz; exact HN.out
     ·exact hP.out j z (by omega) hz)⟩
    case measure=>simp [nOf]; omega
  ·have HV:=hid (plc_none (p:=isD id) (l:=rs) (fun y hy=>by
    obtain ⟨j,hj⟩:=List.mem_iff_getElem?.1 hy
    exact hP.out j y (by have:=(List.getElem?_eq_some_iff.1 hj).1; omega) hj))
   have hk':k=rs.length:=by omega
   subst hk'
   clear hP hk hlt
   go_wp2_with fail
   go_ret
   rw [HV.out]; exact ⟨rfl,rfl⟩
def sqL (st:Int):List Gd→Int→Int
 | [],_=>0
 | d :: l,id=>(if d.st=st then qOf d.ls id else 0) + sqL st l id
theorem sqL_append (st:Int) (l r:List Gd) (id:Int):sqL st (l++r) id=sqL st l id + sqL st r id:=by
 induction l with
 | nil=>simp [sqL]
 | cons d l ih=>simp only [List.cons_append,sqL,ih]; omega
theorem sqL_perm {st:Int} {l r:List Gd} (h:l.Perm r) (id:Int):sqL st l id=sqL st r id:=by
 induction h with
 | nil=>rfl
 | cons x _ ih=>simp only [sqL,ih]
 | swap x y l=>simp only [sqL]; omega
 | trans _ _ h1 h2=>exact h1.trans h2
theorem sqL_bare (st:Int) (l:List Gd) (id:Int):sqL st (l.map bareG) id=sqL st l id:=by
 induction l with
 | nil=>rfl
 | cons d l ih=>simp only [List.map_cons,sqL,ih]; rfl
theorem sq_sqL (st:Int) (gs:List (Int × Gd)) (id:Int):sq st gs id=sqL st (gs.map (·.2)) id:=by
 induction gs with
 | nil=>rfl
 | cons p l ih=>simp only [List.map_cons,sqL,sq,ih]
theorem sqL_bd:∀ {l:List Gd},(∀ d ∈ l,∀ k,LnOk d.ls k)→∀ st id,0≤sqL st l id∧sqL st l id≤1000000 * l.length:=by
 intro l
 induction l with
 | nil=>intro _ st id; simp [sqL]
 | cons p l ih =>
  intro h st id
  have h1:=ih (fun q hq=>h q (by simp [hq])) st id
  have h2:=lines_pw (h p (by simp))
  have h3:=qOf_bd h2.1 h2.2 id
  simp only [sqL,List.length_cons]
  split <;> omega
end
end Go.Proofs.YtakaalldbnklcaaGreat.Sk
namespace Go.Proofs.YtakaalldbnklcaaGreat.Mo
open Go.RowKit Go.WideShapes Go.ChangeShapes Go.ChangeAt Go.Deep
set_option linter.unusedVariables false
theorem keyLd:KeyLaw Tryz.prog 289 kP :=
 pairKey2 (n1 := "customer") (n2 := "account") (i1 := 3) (i2 := 258) (by kernel_rfl) (by kernel_rfl) (by kernel_rfl) (by decide) (by decide) Tryz.underlying3 isAgg_int Tryz.underlying258 (fun w => by kernel_rfl)
theorem zero64 (w:World):(zeroValue 2).run Tryz.prog w = .ok (.int .i64 0) w:=by kernel_rfl
def vI (n:Int):Value:=.int .i64 n
theorem looked_vI {κ:Type} [DecidableEq κ] (m:List (κ × Int)) (p:κ):looked (vI 0) vI m p = .int .i64 ((mget m p).getD 0):=by
 unfold looked vI
 cases mget m p <;> rfl
structure IsLed (w:World) (X B:Nat) (f:Fn) (d:Int):Prop where
 blk:Blk w X 255 #[.map (some B),.int .i64 d,.int .i64 d]
 map:∃ m:LMap,IsMap w B kP vI m∧Led m f
 inv:LInv f d
section
variable {w w':World} {X B:Nat} {f:Fn} {d:Int}
theorem IsLed.next (h:IsLed w X B f d) (hb:Below w.heap.size w w'):IsLed w' X B f d:=⟨h.blk.next hb,by obtain ⟨m,h1,h2⟩:=h.map; exact ⟨m,h1.next hb,h2⟩,h.inv⟩
theorem IsLed.touch {S:Nat→Prop} (h:IsLed w X B f d) (ht:Touch S w w') (h1:¬ S X) (h2:¬ S B):IsLed w' X B f d:=⟨ht.blk h.blk h1,by obtain ⟨m,a,b⟩:=h.map; exact ⟨m,ht.isMap a h2,b⟩,h.inv⟩
theorem IsLed.ne (h:IsLed w X B f d):X ≠ B:=by obtain ⟨m,h1,_⟩:=h.map; exact fun e=>h1.notBlk h.blk e.symm
end
theorem lnew_any (w:World):Calls Tryz.prog 61 #[] w fun e w' =>
  ∃ X B,e = .returned (.pointer (some ⟨X,0,none⟩))∧w.heap.size≤B∧w.heap.size≤X∧IsLed w' X B f0 0∧Below w.heap.size w w':=by
 have hmm:=@run_makeMap Tryz.prog
 have hb:=Blk.new (w.alloc (.map #[] 0)) 255 #[.map (some w.heap.size),.int .i64 0,.int .i64 0]
 have hM:=(IsMap.made w kP vI).alloc (.cells #[.map (some w.heap.size),.int .i64 0,.int .i64 0] 255)
 rw [World.size_alloc] at hb
 have H:=hid (IsLed.mk hb ⟨[],hM,Led.nil⟩ LInv.init)
 clear hb hM
 go_enter Tryz.func61,Tryz.ntmps61
 go_wp2_with fail
 go_ret
 exact ⟨_,_,by simp,Nat.le_refl _,by omega,H.out,((Below.refl _ _).alloc (Nat.le_refl _) _).alloc (by simp) _⟩
def fitB (c a:Int):Bool:=decide (1≤c) && decide (c≤64) && decide (0≤a) && decide (a < 6)
theorem fitB_iff (c a:Int):fitB c a=true ↔ 1≤c∧c≤64∧0≤a∧a < 6:=by
 unfold fitB
 simp only [Bool.and_eq_true,decide_eq_true_eq]
 exact ⟨fun h=>⟨h.1.1.1,h.1.1.2,h.1.2,h.2⟩,fun h=>⟨⟨⟨h.1,h.2.1⟩,h.2.2.1⟩,h.2.2.2⟩⟩
theorem lfit_yes (c a:Int) (w:World) (h:1≤c∧c≤64∧0≤a∧a < 6):Calls Tryz.prog 145 #[.int .i64 c,.int .i64 a] w fun e w'=>e = .returned (.bool true)∧w=w':=by
 obtain ⟨h1,h2,h3,h4⟩:=h
 go_enter Tryz.func145,Tryz.ntmps145
 go_wp2_with fail
 go_ret
 exact ⟨rfl,rfl⟩
theorem lfit_no (c a:Int) (w:World) (h:¬ (1≤c∧c≤64∧0≤a∧a < 6)):Calls Tryz.prog 145 #[.int .i64 c,.int .i64 a] w fun e w'=>e = .returned (.bool false)∧w=w':=by
 by_cases h1:1≤c
 ·by_cases h2:c≤64
  ·by_cases h3:0≤a
   ·have h4:decide (a < 6)=false:=by simp; omega
    clear h
    go_enter Tryz.func145,Tryz.ntmps145
    go_wp2_with fail
    go_ret
    exact ⟨rfl,rfl⟩
   ·have h4:decide (0≤a)=false:=by simp; omega
    clear h h3
    go_enter Tryz.func145,Tryz.ntmps145
    go_wp2_with fail
    go_ret
    exact ⟨rfl,rfl⟩
  ·have h4:decide (c≤64)=false:=by simp; omega
   clear h h2
   go_enter Tryz.func145,Tryz.ntmps145
   go_wp2_with fail
   go_ret
   exact ⟨rfl,rfl⟩
 ·have h4:decide (1≤c)=false:=by simp; omega
  clear h h1
  go_enter Tryz.func145,Tryz.ntmps145
  go_wp2_with fail
  go_ret
  exact ⟨rfl,rfl⟩
theorem lfit_any (c a:Int) (w:World):Calls Tryz.prog 145 #[.int .i64 c,.int .i64 a] w fun e w'=>e = .returned (.bool (fitB c a))∧w=w':=by
 cases h:fitB c a with
 | true=>exact lfit_yes c a w ((fitB_iff c a).1 h)
 | false=>exact lfit_no c a w (fun h'=>by rw [(fitB_iff c a).2 h'] at h; cases h)
theorem lturn_any {X B:Nat} {f:Fn} {d:Int} (w:World) (h:IsLed w X B f d):Calls Tryz.prog 96 #[.pointer (some ⟨X,0,none⟩)] w fun e w' =>
  e = .returned (.tuple #[.int .i64 d,.int .i64 d])∧Below w.heap.size w w':=by
 have c1:w.cell? ⟨X,1,none⟩=some (.int .i64 d):=h.blk.cell 1
 have c2:w.cell? ⟨X,2,none⟩=some (.int .i64 d):=h.blk.cell 2
 clear h
 go_enter Tryz.func96,Tryz.ntmps96
 go_wp2_with fail
 go_quiet (fail)
 go_wp2_with fail
 go_ret2
 exact ⟨rfl,below_drewN (Below.refl _ _) _⟩
end Go.Proofs.YtakaalldbnklcaaGreat.Mo
namespace Go.Proofs.YtakaalldbnklcaaGreat.Mo
open Go.RowKit Go.WideShapes Go.ChangeShapes Go.ChangeAt Go.Deep
set_option linter.unusedVariables false
def enE (x:En):List Value:=[.int .i64 x.a,.int .i64 x.n]
theorem enE_len (x:En):(enE x).length=2:=rfl
def nextF (f:Fn) (d c:Int) (es:List En):Fn:=if postC d c es=0 then addF f c es else f
def nextD (d c:Int) (es:List En):Int:=if postC d c es=0 then d + debs es else d
theorem _root_.Go.Proofs.YtakaalldbnklcaaGreat.Rd.grown' {w w':World} {A:Option Addr} {xs:List Value} {B:Nat} (h:Rd w A xs) (hg:w.grownBy w' (some B)) (hS:∀ b,A.map (·.block)=some b→b ≠ B):Rd w' A xs:=(Touch.of_grown hg).rd h hS
def XB (X B:Nat):Nat→Prop:=fun k=>k=X∨k=B
def PostL (w:World) (X B:Nat) (f:Fn) (d c:Int) (es:List En) (e:Ending) (w':World):Prop :=
 e = .returned (.int .i64 (postC d c es))∧IsLed w' X B (nextF f d c es) (nextD d c es)∧Touch (XB X B) w w'
theorem PostL.no {w w':World} {X B:Nat} {f:Fn} {d c r:Int} {es:List En} (h:IsLed w' X B f d) (ht:Touch (XB X B) w w') (hr:postC d c es=r) (h0:r ≠ 0):PostL w X B f d c es (.returned (.int .i64 r)) w':=by
 subst hr
 refine ⟨rfl, ?_,ht⟩
 unfold nextF nextD
 rw [if_neg h0,if_neg h0]
 exact h
theorem sumE_snoc (es:List En) (x:En):sumE (es++[x])=sumE es + x.n:=by unfold sumE; rw [List.map_append,List.sum_append]; simp
theorem debs_snoc (es:List En) (x:En):debs (es++[x])=debs es + pos x.n:=by unfold debs; rw [List.map_append,List.sum_append]; simp
theorem sumE_bd2 (es:List En) (P:En→Prop) [DecidablePred P] (h:∀ x ∈ es,okE x=true) : -(1125899906842624 * (es.length:Int))≤(es.map fun x=>if P x then x.n else 0).sum∧(es.map fun x=>if P x then x.n else 0).sum≤1125899906842624 * (es.length:Int):=by
 induction es with
 | nil=>simp
 | cons x es ih =>
  have h0:=(okE_iff x).1 (h x (by simp))
  have:=ih (fun y hy=>h y (by simp [hy]))
  simp only [List.map_cons,List.sum_cons,List.length_cons]
  split <;> omega
set_option maxRecDepth 100000 in
set_option maxHeartbeats 16000000 in
theorem lpost_any {X B:Nat} {f:Fn} {d:Int} (c:Int) (es:List En) (A:Option Addr) (cap:Nat) (w:World) (h:IsLed w X B f d) (hR:Rd w A (es.flatMap enE)) (hl:es.length≤140737488355328) (hA0:es ≠ []→∀ b,A.map (·.block)=some b→¬ XB X B b) :
  Calls Tryz.prog 103 #[.pointer (some ⟨X,0,none⟩),.int .i64 c,.slice A es.length cap] w (PostL w X B f d c es):=by
 have hT0:=Touch.refl (XB X B) w
 by_cases hc:1≤c∧c≤64
 ·have FY := hid (fun w=>lfit_yes c 0 w ⟨hc.1,hc.2,by omega,by omega⟩)
  by_cases hn:es=[]
  ·have hP:=hid (PostL.no h hT0 (c:=c) (es:=es) (r:=2) (by unfold postC; rw [if_neg (fun e=>e.2.2.1 hn)]) (by omega))
   subst hn
   clear h hR hT0 hA0
   go_enter Tryz.func103,Tryz.ntmps103
   go_wp2_with fail
   refine (FY.out _).mono ?_
   rintro e w1 ⟨rfl,rfl⟩
   go_wp2_with fail
   go_ret
   exact hP.out
  ·have hpos : 0 < es.length:=List.length_pos_iff.2 hn
   have hA:=hA0 hn
   clear hA0
   by_cases h8:es.length≤8
   ·have hg0 : Hid (IsLed w X B f d):=hid h
    have b1:((es.length:Int) == 0)=false:=by simp; omega
    have b2:(es.length:Int)≤8:=by omega
    have hd1:=h.inv.d1
    have hd0:=h.inv.d0
    clear h
    go_enter Tryz.func103,Tryz.ntmps103
    go_wp2_with fail
    refine (FY.out _).mono ?_
    rintro e w1 ⟨rfl,rfl⟩
    go_wp2_with fail
    go_loopw [7,8,31] (fun s t i wr=>∃ k:Nat,k≤es.length∧i = .int .i64 k∧s = .int .i64 (sumE (es.take k))∧t = .int .i64 (debs (es.take k))∧Hid (∀ x ∈ es.take k,okE x=true)∧Below w.heap.size w wr) (fun _ _ i _=>es.length - (intOf i).toNat)
    case atStart=>exact ⟨0,Nat.zero_le _,rfl,rfl,rfl,hid (by simp),Below.refl _ _⟩
    case round =>
     obtain ⟨k,hk,rfl,rfl,rfl,hok,hb⟩:=hrel
     have hbd:=sumE_bd hok.out
     have hnn:=debs_nonneg (es.take k)
     rw [List.length_take,Nat.min_eq_left hk] at hbd
     by_cases hlt:k < es.length
     ·obtain ⟨x,hx⟩:∃ x,es[k]?=some x:=⟨es[k],List.getElem?_eq_getElem hlt⟩
      have hR1:=hR.below hb
      obtain ⟨b,off,rfl,hbs,hcc⟩:=hR1.at_ 2 enE_len (by omega) hx
      have HS:Hid (es.take (k + 1)=es.take k++[x]):=hid (by rw [List.take_add_one,hx]; rfl)
      have HM:=hid (List.mem_of_getElem? hx)
      obtain ⟨xa,xn⟩:=x
      have q0:wr.cell? ⟨b,off + k * 2,none⟩=some (.int .i64 xa):=hcc 0 _ rfl
      have q1:wr.cell? ⟨b,off + k * 2 + 1,none⟩=some (.int .i64 xn):=hcc 1 _ rfl
      clear hcc hx hR1
      by_cases hox:okE ⟨xa,xn⟩=true
      ·have ho:=(okE_iff _).1 hox
       obtain ⟨o1,o2,o3,o4,o5⟩:=ho
       simp only at o1 o2 o3 o4 o5
       have HSum:=hid (show sumE (es.take (k + 1))=sumE (es.take k) + xn from by rw [HS.out,sumE_snoc])
       have HDeb:=hid (show debs (es.take (k + 1))=debs (es.take k) + pos xn from by rw [HS.out,debs_snoc])
       have HOk:Hid (∀ x ∈ es.take (k + 1),okE x=true):=hid (by
        intro y hy
        rw [HS.out] at hy
        rcases List.mem_append.1 hy with hy | hy
        ·exact hok.out y hy
        ·simp at hy; subst hy; exact hox)
       have F1:=hid (fun w=>lfit_yes c xa w ⟨hc.1,hc.2,o1,o2⟩)
       have b3:(xn == 0)=false:=by simpa using o3
       generalize sumE (es.take k)=S at *
       generalize debs (es.take k)=D at *
       clear hox o3 HS HM
       by_cases hpx:0 < xn
       ·have HPx:Hid (pos xn=xn):=hid (if_pos hpx)
        go_wp2_with fail
        refine (F1.out _).mono ?_
        rintro e w2 ⟨rfl,rfl⟩
        go_wp2_with fail
        go_roundw
        case rel=>exact ⟨k + 1,by omega,by go_num,by rw [HSum.out],by first | (rw [HDeb.out,HPx.out]; done) | rw [HDeb.out,HPx.out,Int.max_eq_right (by omega)],HOk,hb.alloc hb.size _⟩
        case measure=>simp [intOf]; omega
       ·have HPx:Hid (pos xn=0):=hid (if_neg hpx)
        go_wp2_with fail
        refine (F1.out _).mono ?_
        rintro e w2 ⟨rfl,rfl⟩
        go_wp2_with fail
        go_roundw
        case rel=>exact ⟨k + 1,by omega,by go_num,by rw [HSum.out],by rw [HDeb.out,HPx.out]; go_num,HOk,hb.alloc hb.size _⟩
        case measure=>simp [intOf]; omega
      ·have hP:=hid (fun w' (hb':Below w.heap.size w w')=>PostL.no (w:=w) (hg0.out.next hb') (Touch.of_below hb') (c:=c) (es:=es) (r:=2) (by unfold postC; rw [if_neg (fun e=>hox (List.all_eq_true.1 e.2.2.2.2 _ HM.out))]) (by omega))
       have hcs:(fitB c xa=false)∨(fitB c xa=true∧xn=0)∨(fitB c xa=true∧xn ≠ 0∧1125899906842624 < xn)∨(fitB c xa=true∧xn ≠ 0∧xn < -1125899906842624):=by
        cases hf:fitB c xa with
        | false=>exact .inl rfl
        | true =>
         right
         have hf':=(fitB_iff _ _).1 hf
         by_cases h0:xn=0
         ·exact .inl ⟨rfl,h0⟩
         ·right
          by_cases h1:1125899906842624 < xn
          ·exact .inl ⟨rfl,h0,h1⟩
          ·right
           refine ⟨rfl,h0, ?_⟩
           refine Classical.byContradiction fun h2=>hox ((okE_iff _).2 ⟨hf'.2.2.1,hf'.2.2.2,h0, ?_, ?_⟩)
           ·show xn≤1125899906842624
            omega
           ·show -1125899906842624≤xn
            omega
       have F1:=fun w=>lfit_any c xa w
       have hb':=hid (hb.alloc hb.size (.cells #[.int .i64 xa,.int .i64 xn] 287))
       clear hox HM HS hok
       generalize sumE (es.take k)=S at *
       generalize debs (es.take k)=D at *
       rcases hcs with h1 | ⟨h1,h2⟩ | ⟨h1,h2,h3⟩ | ⟨h1,h2,h3⟩
       all_goals
        rw [h1] at F1
        replace F1:=hid F1
        clear h1
       ·go_wp2_with fail
        refine (F1.out _).mono ?_
        rintro e w2 ⟨rfl,rfl⟩
        go_wp2_with fail
        go_ret
        exact hP.out _ hb'.out
       ·subst h2
        go_wp2_with fail
        refine (F1.out _).mono ?_
        rintro e w2 ⟨rfl,rfl⟩
        go_wp2_with fail
        go_ret
        exact hP.out _ hb'.out
       ·have b3:(xn == 0)=false:=by simpa using h2
        clear h2
        go_wp2_with fail
        refine (F1.out _).mono ?_
        rintro e w2 ⟨rfl,rfl⟩
        go_wp2_with fail
        go_ret
        exact hP.out _ hb'.out
       ·have b3:(xn == 0)=false:=by simpa using h2
        have b4:decide (1125899906842624 < xn)=false:=by simp; omega
        clear h2
        go_wp2_with fail
        refine (F1.out _).mono ?_
        rintro e w2 ⟨rfl,rfl⟩
        go_wp2_with fail
        go_ret
        exact hP.out _ hb'.out
     ·have hk':k=es.length:=by omega
      subst hk'
      rw [List.take_length] at *
      have hall:es.all okE=true:=List.all_eq_true.2 hok.out
      have hok1:1≤c∧c≤64∧es ≠ []∧es.length≤8∧es.all okE=true:=⟨hc.1,hc.2,hn,h8,hall⟩
      by_cases hs:sumE es=0
      ·by_cases hm:d≤1152921504606846976 - debs es
       ·have hp0:postC d c es=0:=by
         unfold postC
         rw [if_pos hok1,if_neg (fun e=>e hs),if_neg (by omega)]
        have hP:=hid (fun w' (hb':IsLed w' X B (addF f c es) (d + debs es)) (ht:Touch (XB X B) w w')=>show PostL w X B f d c es (.returned (.int .i64 0)) w' from ⟨by rw [hp0],by unfold nextF nextD; rw [if_pos hp0,if_pos hp0]; exact hb',ht⟩)
        have hI2:=hid (hg0.out.inv.post hp0)
        have c1:wr.cell? ⟨X,1,none⟩=some (.int .i64 d):=(hg0.out.next hb).blk.cell 1
        have b3:(sumE es != 0)=false:=by simpa using hs
        obtain ⟨m0,hM0,hL0⟩:=(hg0.out.next hb).map
        have hB0:=(hg0.out.next hb).blk
        have hXB:=hg0.out.ne
        have hall:=hid hok.out
        have HI:=hid hg0.out.inv
        have h8':es.length≤8:=h8
        generalize sumE es=S at *
        generalize hD:debs es=D at *
        have HD:=hid hD
        have hT1:Touch (XB X B) w wr:=Touch.of_below hb
        have hR1:=hR.below hb
        clear hs hok1 hok hp0 hg0 FY hn hD hb hR hT0 b1
        go_wp2_with fail
        go_loopw [78] (fun i wr=>∃ (k:Nat) (m:LMap),k≤es.length∧i = .int .i64 k∧IsMap wr B kP vI m∧Hid (Led m (addF f c (es.take k)))∧Touch (XB X B) w wr∧Rd wr A (es.flatMap enE)∧Blk wr X 255 #[.map (some B),.int .i64 d,.int .i64 d]) (fun i _=>es.length - (intOf i).toNat)
        case atStart=>exact ⟨0,m0,Nat.zero_le _,rfl,hM0,hid hL0,hT1,hR1,hB0⟩
        case round =>
         clear hM0 hL0 hT1 hR1 hB0 c1
         obtain ⟨k,m,hk,rfl,hM,hL,hT,hF,hX⟩:=hrel
         by_cases hlt:k < es.length
         ·obtain ⟨x,hx⟩:∃ x,es[k]?=some x:=⟨es[k],List.getElem?_eq_getElem hlt⟩
          obtain ⟨b,off,rfl,hbs,hcc⟩:=hF.at_ 2 enE_len (by omega) hx
          have HS:Hid (es.take (k + 1)=es.take k++[x]):=hid (by rw [List.take_add_one,hx]; rfl)
          have hox:=(okE_iff x).1 (hall.out x (List.mem_of_getElem? hx))
          obtain ⟨xa,xn⟩:=x
          have q0:wr.cell? ⟨b,off + k * 2,none⟩=some (.int .i64 xa):=hcc 0 _ rfl
          have q1:wr.cell? ⟨b,off + k * 2 + 1,none⟩=some (.int .i64 xn):=hcc 1 _ rfl
          clear hcc hx
          have hpl:=(hL.out.getD (c,xa))
          have hbd2:=HI.out.one (c,xa)
          have HS2:=hid (show addF f c (es.take (k + 1))=updF (addF f c (es.take k)) (c,xa) xn from by rw [HS.out]; exact addF_snoc f c _ _)
          have hv1 : -1161928703861587968≤addF f c (es.take k) (c,xa)∧addF f c (es.take k) (c,xa)≤1161928703861587968:=by
           rw [addF_apply]
           have:=sumE_bd2 (es.take k) (fun y=>(c,xa)=(c,y.a)) (fun x hx=>hall.out x (List.mem_of_mem_take hx))
           rw [List.length_take,Nat.min_eq_left hk] at this
           omega
          simp only at hox
          have hF2:=hF
          obtain ⟨v0,hv0⟩:∃ v0,v0=addF f c (es.take k) (c,xa):=⟨_,rfl⟩
          rw [← hv0] at hpl hv1
          have HV0:=hid hv0
          have hWb:Below wr.heap.size wr (((wr.alloc (.cells #[.int .i64 xa,.int .i64 xn] 287)).alloc (.cells #[.int .i64 c,.int .i64 xa] 289)).drew):=((((Below.refl _ _).alloc (Nat.le_refl _) _).alloc (by simp) _)).trans (below_drewN (Below.refl _ _) 1)
          have g0:Blk (((wr.alloc (.cells #[.int .i64 xa,.int .i64 xn] 287)).alloc (.cells #[.int .i64 c,.int .i64 xa] 289)).drew) wr.heap.size 287 #[.int .i64 xa,.int .i64 xn]:=(Blk.new wr _ _).alloc _
          have g1:Blk (((wr.alloc (.cells #[.int .i64 xa,.int .i64 xn] 287)).alloc (.cells #[.int .i64 c,.int .i64 xa] 289)).drew) (wr.heap.size + 1) 289 #[.int .i64 c,.int .i64 xa]:=by
           have:=Blk.new (wr.alloc (.cells #[.int .i64 xa,.int .i64 xn] 287)) 289 #[.int .i64 c,.int .i64 xa]
           rw [World.size_alloc] at this
           exact this
          have HG0:=hid g0
          have HG1:=hid g1
          have HWb:=hid hWb
          clear g0 g1 hWb hv0 hbd2
          go_wp2_with fail
          obtain ⟨W,hW⟩:∃ W,W=(wr.alloc (.cells #[.int .i64 xa,.int .i64 xn] 287)).alloc (.cells #[.int .i64 c,.int .i64 xa] 289):=⟨_,rfl⟩
          obtain ⟨G,hG⟩:∃ G,G=wr.heap.size:=⟨_,rfl⟩
          have hGB:B < G:=by rw [hG]; exact hM.lt
          have hGX:X < G:=by rw [hG]; exact hX.lt
          rw [← hW, ← hG] at HG0 HG1
          rw [← hW] at HWb
          have hMW:=hM.next HWb.out
          have hXW:=hX.next HWb.out
          have hFW:=hF.below HWb.out
          have hTW:=hT.then (Touch.of_below HWb.out)
          rw [← hW, ← hG]
          clear hW hG HWb hM hX hF hT q0 q1 hbs hF2
          obtain ⟨st,w1,he1,he2,he3,he4,he5⟩:=hMW.entry keyLd Tryz.underlying253 0 zero64 (c,xa)
          have hl0:=hMW.look keyLd Tryz.underlying253 (zero64 _) (c,xa)
          have hl1:=he2.look keyLd Tryz.underlying253 (zero64 _) (c,xa)
          rw [show (Value.int .i64 0)=vI 0 from rfl,looked_vI] at hl0 hl1
          rw [mget_mset,if_pos rfl] at hl1
          simp only [Option.getD_some] at hl1
          rw [hpl] at hl0 hl1 he1
          simp only [kP,vI] at hl0 hl1 he1
          have z1:W.drew.cell? ⟨X,0,none⟩=some (.map (some B)):=hXW.cell 0
          have z2:W.drew.cell? ⟨G + 1,0,none⟩=some (.int .i64 c):=HG1.out.cell 0
          have z3:W.drew.cell? ⟨G + 1,1,none⟩=some (.int .i64 xa):=HG1.out.cell 1
          have z4:W.drew.cell? ⟨G,1,none⟩=some (.int .i64 xn):=HG0.out.cell 1
          have hneX:some X ≠ some B:=fun e=>hXB (by injection e)
          have y1:w1.cell? ⟨X,0,none⟩=some (.map (some B)):=(hXW.grown he3 hneX).cell 0
          have y2:w1.cell? ⟨G + 1,0,none⟩=some (.int .i64 c):=(HG1.out.grown he3 (fun e=>by injection e; omega)).cell 0
          have y3:w1.cell? ⟨G + 1,1,none⟩=some (.int .i64 xa):=(HG1.out.grown he3 (fun e=>by injection e; omega)).cell 1
          have y4:w1.cell? ⟨G,1,none⟩=some (.int .i64 xn):=(HG0.out.grown he3 (fun e=>by injection e; omega)).cell 1
          obtain ⟨s,hs⟩:∃ s,s=v0 + xn:=⟨_,rfl⟩
          have HSV:=hid hs
          clear hs
          refine wp_region_entry 9 11 w1 (by omega) (by kernel_rfl) (by kernel_rfl) ?_
          simp only [List.take_succ_cons,List.take_zero,List.drop_succ_cons,List.drop_zero]
          refine wpE_read rfl rfl (.pointer (some ⟨X,0,none⟩)) (fun b=>by cases b <;> (simp only [wAt]; go_simp)) ?_
          refine wpE_read rfl rfl (.pointer (some ⟨X,0,none⟩)) (fun b=>by cases b <;> (simp only [wAt]; go_simp)) ?_
          refine wpE_read rfl rfl (.pointer (some ⟨X,0,none⟩)) (fun b=>by cases b <;> (simp only [wAt]; go_simp)) ?_
          refine wpE_read rfl rfl (.map (some B)) (fun b=>by cases b <;> (simp only [wAt]; go_simp)) ?_
          refine wpE_read rfl rfl (.agg #[.int .i64 c,.int .i64 xa]) (fun b=>by cases b <;> (simp only [wAt]; go_simp)) ?_
          refine wpE_read rfl rfl (.int .i64 v0) (fun b=>by cases b <;> (simp only [wAt]; go_simp)) ?_
          refine wpE_read rfl rfl (.pointer (some ⟨G,1,none⟩)) (fun b=>by cases b <;> (simp only [wAt]; go_simp)) ?_
          refine wpE_read rfl rfl (.int .i64 xn) (fun b=>by cases b <;> (simp only [wAt]; go_simp)) ?_
          refine wpE_read rfl rfl (.int .i64 s) (fun b=>by cases b <;> (simp only [wAt]; go_simp; rw [HSV.out]; exact IntWalk.i64_in _ (by omega))) ?_
          refine wpE_turn rfl (.tuple #[.int .i64 v0,goInt st]) (by go_simp) ?_
          refine wpE_read rfl rfl (goInt st) (fun b=>by cases b <;> (simp only [wAt]; go_simp)) ?_
          refine wpE_nil fun K hK => ?_
          go_simp
          refine hK _ ?_
          clear hK K
          refine wpList_entryStore (kE:=kP) (vE:=vI) w1 w1 rfl (Operand.tmp 89) (Operand.tmp 96) (Operand.tmp 94) 253 rfl B st m (c,xa) s rfl rfl rfl rfl (hid he5) ?_
          intro w3 hM3 hg3 hs3
          have hX3:=(hXW.grown he3 hneX).grown hg3 hneX
          have hG3:=(HG1.out.grown he3 (fun e=>by injection e; omega)).grown hg3 (fun e=>by injection e; omega)
          have hT3:=hTW.then (((Touch.of_grown he3).mono (fun k (hk:k=B)=>(.inr hk:XB X B k))).then ((Touch.of_grown hg3).mono (fun k (hk:k=B)=>(.inr hk:XB X B k))))
          have hF3:Rd w3 (some ⟨b,off,none⟩) (es.flatMap enE):=((Touch.of_grown he3).rd hFW (fun b' hb'=>fun e=>hA b' hb' (.inr e))).grown' hg3 (fun b' hb' e=>hA b' hb' (.inr e))
          clear he1 he2 he3 he4 he5 hg3 hs3 hl0 hl1 z1 z2 z3 z4 y1 y2 y3 y4 hXW HG0 HG1 hTW hFW hMW hneX
          have hl3:∀ n,(Instr.lookup 253 (.map (some B)) (.agg #[.int .i64 c,.int .i64 xa]) false).run Tryz.prog (w3.drewN n) = .ok (.int .i64 s) (w3.drewN n):=fun n=>by
           have:=(hM3.keep (w':=w3.drewN n) rfl).look keyLd Tryz.underlying253 (zero64 _) (c,xa)
           rw [show (Value.int .i64 0)=vI 0 from rfl,looked_vI,mget_mset,if_pos rfl] at this
           exact this
          have z1:w3.cell? ⟨X,0,none⟩=some (.map (some B)):=hX3.cell 0
          have z2:w3.cell? ⟨G + 1,0,none⟩=some (.int .i64 c):=hG3.cell 0
          have z3:w3.cell? ⟨G + 1,1,none⟩=some (.int .i64 xa):=hG3.cell 1
          by_cases hsz:s=0
          ·have HL2:=hid (hL.out.cut (c,xa) xn s (by rw [← HV0.out, ← HSV.out]; exact hsz))
           subst hsz
           go_wp2_with fail
           go_quiet (fail)
           clear hl3
           go_wp2_with fail
           refine wp_tail 5 (by kernel_rfl) (by kernel_rfl) ?_
           simp only [List.take_succ_cons,List.take_zero,List.drop_succ_cons,List.drop_zero]
           repeat still_step
           refine wpStill_nil ?_
           go_wp2_with (first
            | (at_delete; refine wpList_drop _ rfl _ _ 253 2 289 rfl keyLd Tryz.underlying253 B (mset m (c,xa) 0) rfl (hM3.keep rfl) (c,xa) rfl ?_; intro w5 hM5 hg5 hs5))
           have hT5:=(hT3.drewN (nq + 1)).then ((Touch.of_grown hg5).mono (fun k (hk:k=B)=>(.inr hk:XB X B k)))
           have hX5:=(hX3.next (below_drewN (Below.refl _ _) (nq + 1))).grown hg5 (fun e=>hXB (by injection e))
           have hF5:=(hF3.below (below_drewN (Below.refl _ _) (nq + 1))).grown' hg5 (fun b' hb' e=>hA b' hb' (.inr e))
           have HL3:Hid (Led (mdel (mset m (c,xa) 0) (c,xa)) (addF f c (es.take (k + 1)))):=hid (by rw [HS2.out]; exact HL2.out)
           go_roundw
           case rel=>exact ⟨k + 1,_,by omega,by go_num,hM5,HL3,hT5,hF5,hX5⟩
           case measure=>simp [intOf]; omega
          ·have HL2:=hid (hL.out.put (c,xa) xn (by rw [← HV0.out, ← HSV.out]; exact hsz))
           rw [← HV0.out, ← HSV.out] at HL2
           have b4:(s == 0)=false:=by simpa using hsz
           have HL3:Hid (Led (mset m (c,xa) s) (addF f c (es.take (k + 1)))):=hid (by rw [HS2.out]; exact HL2.out)
           clear hsz HL2
           go_wp2_with fail
           go_quiet (fail)
           go_wp2_with fail
           go_roundw
           case rel=>exact ⟨k + 1,_,by omega,by go_num,hM3,HL3,hT3.drewN _,hF3.below (below_drewN (Below.refl _ _) _),hX3⟩
           case measure=>simp [intOf]; omega
         ·have hk':k=es.length:=by omega
          subst hk'
          have hL2:=hL.out
          rw [List.take_length] at hL2
          have HLL:=hid hL2
          have z1:wr.cell? ⟨X,1,none⟩=some (.int .i64 d):=hX.cell 1
          have z2:wr.cell? ⟨X,2,none⟩=some (.int .i64 d):=hX.cell 2
          have z3:wr.frozen? ⟨X,1,none⟩=false:=hX.free 1
          have z4:wr.frozen? ⟨X,2,none⟩=false:=hX.free 2
          clear hlt hk hL hL2 hF
          have HE:=hid (show IsLed ((wr.setCell ⟨X,1,none⟩ (.int .i64 (d + D))).setCell ⟨X,2,none⟩ (.int .i64 (d + D))) X B (addF f c es) (d + D) from
           ⟨(hX.set_ 1 _).set_ 2 _,⟨m,(hM.setCell _ _).setCell _ _,HLL.out⟩,hI2.out⟩)
          have HT:=hid ((hT.then ((Touch.setCell wr X 1 (.int .i64 (d + D))).mono (fun k (hk:k=X)=>(.inl hk:XB X B k)))).then ((Touch.setCell (wr.setCell ⟨X,1,none⟩ (.int .i64 (d + D))) X 2 (.int .i64 (d + D))).mono (fun k (hk:k=X)=>(.inl hk:XB X B k))))
          clear hX hM hT HLL
          go_wp2_with fail
          go_ret
          exact hP.out _ HE.out HT.out
       ·have hP:=hid (fun w' (hb':Below w.heap.size w w')=>PostL.no (w:=w) (hg0.out.next hb') (Touch.of_below hb') (c:=c) (es:=es) (r:=72) (by unfold postC; rw [if_pos hok1,if_neg (fun e=>e hs),if_pos (by omega)]) (by omega))
        have c1:wr.cell? ⟨X,1,none⟩=some (.int .i64 d):=(hg0.out.next hb).blk.cell 1
        have b3:(sumE es != 0)=false:=by simpa using hs
        generalize sumE es=S at *
        generalize debs es=D at *
        clear hs hall hok1 hok
        go_wp2_with fail
        go_ret
        exact hP.out _ hb
      ·have hP:=hid (fun w' (hb':Below w.heap.size w w')=>PostL.no (w:=w) (hg0.out.next hb') (Touch.of_below hb') (c:=c) (es:=es) (r:=160) (by unfold postC; rw [if_pos hok1,if_pos hs]) (by omega))
       have b3:(sumE es != 0)=true:=by simpa using hs
       generalize sumE es=S at *
       generalize debs es=D at *
       clear hs hall hok1 hok
       go_wp2_with fail
       go_ret
       exact hP.out _ hb
   ·have hP:=hid (PostL.no h hT0 (c:=c) (es:=es) (r:=2) (by unfold postC; rw [if_neg (fun e=>h8 e.2.2.2.1)]) (by omega))
    have b1:((es.length:Int) == 0)=false:=by simp; omega
    have b2:(8:Int) < (es.length:Int):=by omega
    clear h hR hT0 hn h8 hpos hA
    go_enter Tryz.func103,Tryz.ntmps103
    go_wp2_with fail
    refine (FY.out _).mono ?_
    rintro e w1 ⟨rfl,rfl⟩
    go_wp2_with fail
    go_ret
    exact hP.out
 ·have FN:=hid (fun w=>lfit_no c 0 w (fun e=>hc ⟨e.1,e.2.1⟩))
  have hP:=hid (PostL.no h hT0 (c:=c) (es:=es) (r:=2) (by unfold postC; rw [if_neg (fun e=>hc ⟨e.1,e.2.1⟩)]) (by omega))
  clear h hR hT0 hc hA0
  go_enter Tryz.func103,Tryz.ntmps103
  go_wp2_with fail
  refine (FN.out _).mono ?_
  rintro e w1 ⟨rfl,rfl⟩
  go_wp2_with fail
  go_ret
  exact hP.out
end Go.Proofs.YtakaalldbnklcaaGreat.Mo
namespace Go.Proofs.YtakaalldbnklcaaGreat.Mo
open Go.RowKit Go.WideShapes Go.ChangeShapes Go.ChangeAt Go.Deep
set_option linter.unusedVariables false
theorem takeE_snoc {α:Type} {l:List α} {k:Nat} {x:α} (h:l[k]?=some x):l.take (k + 1)=l.take k++[x]:=by rw [List.take_add_one,h]; rfl
theorem info_entry:(Tryz.prog.info? 287).map (fun i=>(i.zero,i.size,i.bytes))=some (some (.agg #[.int .i64 0,.int .i64 0]),2,16):=by kernel_rfl
def some0 (l:List En):List En:=l.filter fun x=>x.n != 0
theorem _root_.Go.Proofs.YtakaalldbnklcaaGreat.Rd.of_own {w:World} {base:Nat} {e:TypeId} {size:Nat} {v:Value} {n:Nat} {xs:List Value} (h:w.ownsRow base e size v n xs):∃ A cap,v = .slice A n cap∧Rd w A xs∧∀ b,A.map (·.block)=some b→base≤b:=by
 have h0:=h
 obtain ⟨hl,h1 | ⟨g,cap,cur,rfl,_,hh,hn,_⟩⟩:=h
 ·obtain ⟨rfl,rfl⟩:=h1
  exact ⟨none,0,rfl,.inl (List.eq_nil_of_length_eq_zero (by simpa using hl)),fun b hb=>by cases hb⟩
 ·refine ⟨_,cap,rfl, ?_,fun b hb => ?_⟩
  ·rcases xs with _ | ⟨x,xs⟩
   ·exact .inl rfl
   ·have hlt:=(h0.lt g rfl).2
    refine .inr ⟨g,0,rfl,hlt,fun j u hu => ?_⟩
    have:=h0.cells (g:=g) rfl j u hu
    rw [add_plain] at this
    exact this
  ·simp at hb
   subst hb
   exact (h0.lt g rfl).1
set_option maxHeartbeats 400000 in
theorem posting_any (es:List En) (A:Option Addr) (cap:Nat) (w:World) (hn:es.length≤100) (hL:Rd w A (es.flatMap enE)) :
  Calls Tryz.prog 146 #[.slice A es.length cap] w fun e w'=>∃ A' cap',e = .returned (.slice A' (some0 es).length cap')∧Rd w' A' ((some0 es).flatMap enE)∧(∀ b,A'.map (·.block)=some b→w.heap.size≤b)∧Below w.heap.size w w':=by
 obtain ⟨i0,hi,hz0,hz1,hz2⟩:=info_parts info_entry
 go_enter Tryz.func146,Tryz.ntmps146
 go_wp2
 go_loopw [3,8] (fun v i wr=>∃ k:Nat,k≤es.length∧i = .int .i64 k∧wr.ownsRow w.heap.size 287 2 v (some0 (es.take k)).length ((some0 (es.take k)).flatMap enE)∧Below w.heap.size w wr) (fun _ i _=>es.length - (intOf i).toNat)
 case atStart=>exact ⟨0,Nat.zero_le _,rfl,World.ownsRow_nil _ _ _ _,Below.refl _ _⟩
 case round =>
  obtain ⟨k,hk,rfl,hown,hb⟩:=hrel
  by_cases hlt:k < es.length
  ·obtain ⟨x,hx⟩:∃ x,es[k]?=some x:=⟨es[k],List.getElem?_eq_getElem hlt⟩
   obtain ⟨b,off,rfl,hbs,hc⟩:=hL.at_ 2 enE_len (by omega) hx
   have hq:=hc 0 _ rfl
   have hp:=hc 1 _ rfl
   rw [← hb.cell (p:=⟨b,_,none⟩) hbs] at hq hp
   simp only [Nat.add_zero] at hq
   clear hc hL
   have HS:=hid (takeE_snoc hx)
   have hml:(some0 (es.take k)).length≤100:=Nat.le_trans (List.length_filter_le _ _) (by simp; omega)
   by_cases h0:x.n=0
   ·have hb0:(x.n != 0)=false:=by simp [h0]
    have HK:Hid (some0 (es.take (k + 1))=some0 (es.take k)):=hid (by rw [HS.out]; simp [some0,h0])
    clear h0
    go_wp2
    go_roundw
    case rel=>exact ⟨k + 1,by omega,by go_num,by rw [HK.out]; exact hown.alloc _,hb.alloc hb.size _⟩
    case measure=>simp [intOf]; omega
   ·have hb0:(x.n != 0)=true:=by simp [h0]
    have HK:Hid (some0 (es.take (k + 1))=some0 (es.take k)++[x]):=hid (by rw [HS.out]; simp [some0,h0])
    clear h0
    go_wp2_with (first
     | (at_builtin; refine wpList_append_own _ rfl _ _ 217 rfl w.heap.size 287 i0 _ 2 16 Tryz.underlying217 hi hz0 hz1 hz2 rfl (by decide) _ _ _ rfl ((hown.alloc _).alloc _) ⟨wr.heap.size + 1,0,none⟩ 1 1 (enE x) rfl rfl ?c1 ?c2 ?c3 ?c4 ?c5 ?_))
    case c1 =>
     intro j u hj
     match j,hj with
     | 0,hj=>simp [enE] at hj; subst hj; simp [Addr.add]
     | 1,hj=>simp [enE] at hj; subst hj; simp [Addr.add]
    case c2=>intro u hu; simp [enE] at hu; rcases hu with rfl | rfl <;> rfl
    case c3=>unfold maxLen; omega
    case c4=>omega
    case c5=>have:=hb.size; simp; omega
    intro v' w1 hown' hgrow _
    go_wp2
    go_roundw
    case rel =>
     refine ⟨k + 1,by omega,by go_num, ?_, ?_⟩
     ·rw [HK.out]; simpa using hown'
     ·exact ((hb.alloc hb.size _).alloc (by have:=hb.size; simp; omega) _).grown hgrow (by have:=hb.size; simp; omega) (fun g hg=>(hown.lt g hg).1)
    case measure=>simp [intOf]; omega
  ·have hk':k=es.length:=by omega
   subst hk'
   rw [List.take_length] at hown
   go_wp2
   go_ret
   obtain ⟨A',cap',rfl,hR,hlo⟩:=Rd.of_own hown
   exact ⟨A',cap',rfl,hR,hlo,hb⟩
theorem _root_.Go.Proofs.YtakaalldbnklcaaGreat.Rd.new (w:World) (cs:Array Value) (t:TypeId):Rd (w.alloc (.cells cs t)) (some ⟨w.heap.size,0,none⟩) cs.toList:=by
 refine .inr ⟨w.heap.size,0,rfl,by simp,fun j u hu => ?_⟩
 rw [cell_of_row _ _ _ cs t (0,0) (heap_alloc_new w _)]
 simpa using hu
def Posts (es:List En) (w:World) (e:Ending) (w':World):Prop :=
 ∃ A cap,e = .returned (.slice A (some0 es).length cap)∧Rd w' A ((some0 es).flatMap enE)∧(∀ b,A.map (·.block)=some b→w.heap.size≤b)∧Below w.heap.size w w'
theorem posting_n (es:List En) (n:Nat) (A:Option Addr) (cap:Nat) (w:World) (h:es.length=n) (hn:n≤100) (hL:Rd w A (es.flatMap enE)) :
  Calls Tryz.prog 146 #[.slice A n cap] w (Posts es w):=by
 subst h
 exact posting_any es A cap w hn hL
def moveL (ta fr n:Int):List En:=[⟨ta,n⟩,⟨fr,wrap64 (-n)⟩]
def invoiceL (n t:Int):List En:=[⟨1,wrap64 (n + t)⟩,⟨2,wrap64 (-n)⟩,⟨3,wrap64 (-t)⟩]
def memoL (n t a r:Int):List En:=[⟨2,n⟩,⟨3,t⟩,⟨1,wrap64 (wrap64 (wrap64 (a + r) - n) - t)⟩,⟨4,wrap64 (-a)⟩,⟨5,wrap64 (-r)⟩]
set_option maxHeartbeats 400000 in
theorem move_any (ta fr n:Int) (w:World):Calls Tryz.prog 104 #[.int .i64 ta,.int .i64 fr,.int .i64 n] w (Posts (moveL ta fr n) w):=by
 go_enter Tryz.func104,Tryz.ntmps104
 go_wp2_with fail
 refine (posting_n (moveL ta fr n) 2 _ _ _ rfl (by omega) (Rd.new _ _ _)).mono ?_
 rintro e w' ⟨A,cap,rfl,hR,hlo,hb⟩
 go_wp2
 go_ret
 exact ⟨A,cap,rfl,hR,fun b hbb=>by have:=hlo b hbb; simp at this; omega,((Below.refl _ _).alloc (Nat.le_refl _) _).trans (hb.mono (by simp))⟩
set_option maxHeartbeats 400000 in
theorem invoice_any (n t:Int) (w:World):Calls Tryz.prog 176 #[.int .i64 n,.int .i64 t] w (Posts (invoiceL n t) w):=by
 go_enter Tryz.func176,Tryz.ntmps176
 go_wp2_with fail
 refine (posting_n (invoiceL n t) 3 _ _ _ rfl (by omega) (Rd.new _ _ _)).mono ?_
 rintro e w' ⟨A,cap,rfl,hR,hlo,hb⟩
 go_wp2
 go_ret
 exact ⟨A,cap,rfl,hR,fun b hbb=>by have:=hlo b hbb; simp at this; omega,((Below.refl _ _).alloc (Nat.le_refl _) _).trans (hb.mono (by simp))⟩
set_option maxHeartbeats 400000 in
theorem memo_any (n t a r:Int) (w:World):Calls Tryz.prog 225 #[.int .i64 n,.int .i64 t,.int .i64 a,.int .i64 r] w (Posts (memoL n t a r) w):=by
 go_enter Tryz.func225,Tryz.ntmps225
 go_wp2_with fail
 refine (posting_n (memoL n t a r) 5 _ _ _ rfl (by omega) (Rd.new _ _ _)).mono ?_
 rintro e w' ⟨A,cap,rfl,hR,hlo,hb⟩
 go_wp2
 go_ret
 exact ⟨A,cap,rfl,hR,fun b hbb=>by have:=hlo b hbb; simp at this; omega,((Below.refl _ _).alloc (Nat.le_refl _) _).trans (hb.mono (by simp))⟩
set_option maxHeartbeats 400000 in
theorem receipt_any (n:Int) (w:World):Calls Tryz.prog 73 #[.int .i64 n] w (Posts (moveL 0 4 n) w):=by
 go_enter Tryz.func73,Tryz.ntmps73
 go_wp2_with fail
 refine (move_any _ _ _ _).mono ?_
 rintro e w' ⟨A,cap,rfl,hR,hlo,hb⟩
 go_wp2
 go_ret
 exact ⟨A,cap,rfl,hR,hlo,hb⟩
set_option maxHeartbeats 400000 in
theorem apply_any (n:Int) (w:World):Calls Tryz.prog 106 #[.int .i64 n] w (Posts (moveL 4 1 n) w):=by
 go_enter Tryz.func106,Tryz.ntmps106
 go_wp2_with fail
 refine (move_any _ _ _ _).mono ?_
 rintro e w' ⟨A,cap,rfl,hR,hlo,hb⟩
 go_wp2
 go_ret
 exact ⟨A,cap,rfl,hR,hlo,hb⟩
set_option maxHeartbeats 400000 in
theorem refund_any (n:Int) (w:World):Calls Tryz.prog 226 #[.int .i64 n] w (Posts (moveL 4 0 n) w):=by
 go_enter Tryz.func226,Tryz.ntmps226
 go_wp2_with fail
 refine (move_any _ _ _ _).mono ?_
 rintro e w' ⟨A,cap,rfl,hR,hlo,hb⟩
 go_wp2
 go_ret
 exact ⟨A,cap,rfl,hR,hlo,hb⟩
end Go.Proofs.YtakaalldbnklcaaGreat.Mo
