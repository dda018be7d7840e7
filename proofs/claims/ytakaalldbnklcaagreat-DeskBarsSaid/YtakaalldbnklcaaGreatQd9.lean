/-
  Plain facts of the ledger: sums by customer and account as a function of places (kept apart from the program).
  The ledger: the order of sums.
-/
import Derived.Test.YtakaalldbnklcaaGreatQd2
namespace Go.Proofs.YtakaalldbnklcaaGreat.Mo
set_option linter.unusedVariables false
structure En where
 a:Int
 n:Int
deriving DecidableEq
instance:Inhabited En:=⟨⟨0,0⟩⟩
structure Sm where
 c:Int
 a:Int
 n:Int
deriving DecidableEq
instance:Inhabited Sm:=⟨⟨0,0,0⟩⟩
abbrev LMap:=List ((Int × Int) × Int)
abbrev Fn:=Int × Int→Int
theorem sum_map_add {α:Type} (f g:α→Int) (l:List α):(l.map fun x=>f x + g x).sum=(l.map f).sum + (l.map g).sum:=by
 induction l with
 | nil=>rfl
 | cons x l ih=>simp only [List.map_cons,List.sum_cons,ih]; omega
theorem sum_map_zero {α:Type} (f:α→Int) (l:List α) (h:∀ x ∈ l,f x=0):(l.map f).sum=0:=by
 induction l with
 | nil=>rfl
 | cons x l ih=>rw [List.map_cons,List.sum_cons,h x (by simp),ih (fun y hy=>h y (by simp [hy]))]; rfl
theorem sum_map_le {α:Type} (f g:α→Int) (l:List α) (h:∀ x ∈ l,f x≤g x):(l.map f).sum≤(l.map g).sum:=by
 induction l with
 | nil=>exact Int.le_refl _
 | cons x l ih=>simp only [List.map_cons,List.sum_cons]; have:=h x (by simp); have:=ih (fun y hy=>h y (by simp [hy])); omega
theorem sum_map_congr {α:Type} {f g:α→Int} {l:List α} (h:∀ x ∈ l,f x=g x):(l.map f).sum=(l.map g).sum:=by
 rw [List.map_congr_left h]
theorem sum_swap {α β:Type} (g:α→β→Int) (l:List α) (s:List β):(l.map fun x=>(s.map fun y=>g x y).sum).sum=(s.map fun y=>(l.map fun x=>g x y).sum).sum:=by
 induction l with
 | nil=>simp only [List.map_nil,List.sum_nil]; exact (sum_map_zero _ _ (fun _ _=>rfl)).symm
 | cons x l ih=>simp only [List.map_cons,List.sum_cons,ih,sum_map_add]
theorem sum_ite_nodup {α:Type} [DecidableEq α] (q:α) (v:Int):∀ {S:List α},S.Nodup→(S.map fun p=>if p=q then v else 0).sum=if q ∈ S then v else 0
 | [],_=>by simp
 | p :: S,h=>by
  rw [List.nodup_cons] at h
  rw [List.map_cons,List.sum_cons,sum_ite_nodup q v h.2]
  by_cases e:p=q
  ·subst e
   simp [h.1]
  ·have e':¬ q=p:=fun x=>e x.symm
   simp [e,e']
theorem sum_nonneg_sub {α:Type} (f:α→Int) (l:List α) (h:∀ x ∈ l,0≤f x):0≤(l.map f).sum:=by
 have:=sum_map_le (fun _=>0) f l h
 rw [sum_map_zero (fun _=>0) l (fun _ _=>rfl)] at this
 exact this
def pos (x:Int):Int:=if 0 < x then x else 0
def sumE (es:List En):Int:=(es.map (·.n)).sum
def debs (es:List En):Int:=(es.map fun x=>pos x.n).sum
def okE (x:En):Bool:=decide (0≤x.a) && decide (x.a < 6) && decide (x.n ≠ 0) && decide (x.n≤1125899906842624) && decide (-1125899906842624≤x.n)
theorem okE_iff (x:En):okE x=true ↔ 0≤x.a∧x.a < 6∧x.n ≠ 0∧x.n≤1125899906842624 ∧ -1125899906842624≤x.n:=by
 unfold okE
 simp only [Bool.and_eq_true,decide_eq_true_eq]
 exact ⟨fun h=>⟨h.1.1.1.1,h.1.1.1.2,h.1.1.2,h.1.2,h.2⟩,fun h=>⟨⟨⟨⟨h.1,h.2.1⟩,h.2.2.1⟩,h.2.2.2.1⟩,h.2.2.2.2⟩⟩
def postC (d c:Int) (es:List En):Int :=
 if 1≤c∧c≤64∧es ≠ []∧es.length≤8∧es.all okE=true then (if sumE es ≠ 0 then 160 else if 1152921504606846976 - debs es < d then 72 else 0) else 2
theorem debs_nonneg (es:List En):0≤debs es:=sum_nonneg_sub _ _ (fun x _=>by unfold pos; split <;> omega)
theorem sumE_bd {es:List En} (h:∀ x ∈ es,okE x=true) : -(1125899906842624 * (es.length:Int))≤sumE es∧sumE es≤1125899906842624 * (es.length:Int)∧debs es≤1125899906842624 * (es.length:Int):=by
 unfold sumE debs
 induction es with
 | nil=>simp
 | cons x es ih =>
  have h0:=(okE_iff x).1 (h x (by simp))
  have:=ih (fun y hy=>h y (by simp [hy]))
  simp only [List.map_cons,List.sum_cons,List.length_cons]
  have hp:pos x.n≤1125899906842624:=by unfold pos; split <;> omega
  omega
def updF (f:Fn) (p:Int × Int) (x:Int):Fn:=fun q=>if q=p then f q + x else f q
def addF (f:Fn) (c:Int) (es:List En):Fn:=es.foldl (fun f x=>updF f (c,x.a) x.n) f
theorem addF_snoc (f:Fn) (c:Int) (es:List En) (x:En):addF f c (es++[x])=updF (addF f c es) (c,x.a) x.n:=by unfold addF; rw [List.foldl_append]; rfl
theorem addF_apply (f:Fn) (c:Int) (es:List En) (p:Int × Int):addF f c es p=f p + (es.map fun x=>if p=(c,x.a) then x.n else 0).sum:=by
 unfold addF
 induction es generalizing f with
 | nil=>simp
 | cons x es ih =>
  rw [List.foldl_cons,ih,List.map_cons,List.sum_cons]
  unfold updF
  split <;> omega
theorem addF_sum (f:Fn) (c:Int) (es:List En) {S:List (Int × Int)} (hS:S.Nodup):(S.map (addF f c es)).sum=(S.map f).sum + (es.map fun x=>if (c,x.a) ∈ S then x.n else 0).sum:=by
 rw [sum_map_congr (fun p _=>addF_apply f c es p),sum_map_add,sum_swap]
 congr 1
 refine sum_map_congr (fun x _ => ?_)
 rw [sum_ite_nodup (c,x.a) x.n hS]
 by_cases h:(c,x.a) ∈ S <;> simp [h]
structure LInv (f:Fn) (d:Int):Prop where
 d0:0≤d
 d1:d≤1152921504606846976
 sup:∀ p,f p ≠ 0→1≤p.1∧p.1≤64∧0≤p.2∧p.2 < 6
 bd:∀ S:List (Int × Int),S.Nodup → -d≤(S.map f).sum∧(S.map f).sum≤d
 zero:∀ c:Int,((List.range 6).map fun a:Nat=>f (c,(a:Int))).sum=0
theorem LInv.one {f:Fn} {d:Int} (h:LInv f d) (p:Int × Int) : -d≤f p∧f p≤d:=by
 have:=h.bd [p] (by simp)
 simpa using this
def f0:Fn:=fun _=>0
theorem LInv.init:LInv f0 0:=⟨by omega,by omega,fun p h=>absurd rfl h,fun S _=>by rw [sum_map_zero f0 S (fun _ _=>rfl)]; omega,fun c=>sum_map_zero _ _ (fun _ _=>rfl)⟩
theorem postC_zero {d c:Int} {es:List En} (h:postC d c es=0):1≤c∧c≤64∧es ≠ []∧es.length≤8∧(∀ x ∈ es,okE x=true)∧sumE es=0∧d≤1152921504606846976 - debs es:=by
 unfold postC at h
 split at h
 ·rename_i hc
  split at h
  ·omega
  ·rename_i hs
   split at h
   ·omega
   ·rename_i hd
    exact ⟨hc.1,hc.2.1,hc.2.2.1,hc.2.2.2.1,List.all_eq_true.1 hc.2.2.2.2,by omega,by omega⟩
 ·omega
theorem debs_split (es:List En) (P:En→Prop) [DecidablePred P]:(es.map fun x=>if P x then x.n else 0).sum≤debs es ∧ -(debs es - sumE es)≤(es.map fun x=>if P x then x.n else 0).sum:=by
 unfold debs sumE
 induction es with
 | nil=>simp
 | cons x es ih =>
  simp only [List.map_cons,List.sum_cons]
  unfold pos at ih ⊢
  split <;> split <;> omega
theorem LInv.post {f:Fn} {d c:Int} {es:List En} (h:LInv f d) (hp:postC d c es=0):LInv (addF f c es) (d + debs es):=by
 obtain ⟨h1,h2,h3,h4,h5,h6,h7⟩:=postC_zero hp
 have h0:=debs_nonneg es
 refine ⟨by have:=h.d0; omega,by omega, ?_, ?_, ?_⟩
 ·intro p hne
  by_cases e:f p=0
  ·rw [addF_apply,e] at hne
   have:∃ x ∈ es,p=(c,x.a):=by
    refine Classical.byContradiction fun hn=>hne ?_
    rw [sum_map_zero]
    ·rfl
    ·intro x hx
     rw [if_neg (fun e=>hn ⟨x,hx,e⟩)]
   obtain ⟨x,hx,rfl⟩:=this
   have:=(okE_iff x).1 (h5 x hx)
   exact ⟨h1,h2,this.1,this.2.1⟩
  ·exact h.sup p e
 ·intro S hS
  rw [addF_sum f c es hS]
  have:=h.bd S hS
  have:=debs_split es (fun x=>(c,x.a) ∈ S)
  omega
 ·intro c'
  have e1:((List.range 6).map fun a:Nat=>addF f c es (c',(a:Int)))=(((List.range 6).map fun a:Nat=>(c',(a:Int))).map (addF f c es)):=by rw [List.map_map]; rfl
  have hn:((List.range 6).map fun a:Nat=>(c',(a:Int))).Nodup:=by
   rw [List.nodup_iff_pairwise_ne,List.pairwise_map]
   refine List.Pairwise.imp ?_ List.nodup_range
   intro a b hab e
   simp only [Prod.mk.injEq,true_and] at e
   omega
  rw [e1,addF_sum f c es hn,List.map_map]
  have e2:=h.zero c'
  rw [show ((List.range 6).map (f ∘ fun a:Nat=>(c',(a:Int))))=((List.range 6).map fun a:Nat=>f (c',(a:Int))) from rfl,e2]
  by_cases hc:c=c'
  ·subst hc
   rw [sum_map_congr (g:=(·.n)) (fun x hx=>by
    have:=(okE_iff x).1 (h5 x hx)
    rw [if_pos (List.mem_map.2 ⟨x.a.toNat,List.mem_range.2 (by omega),by rw [Prod.mk.injEq]; exact ⟨rfl,by omega⟩⟩)])]
   have:(es.map (·.n)).sum=0:=h6
   omega
  ·rw [sum_map_zero]
   ·rfl
   ·intro x _
    rw [if_neg (fun hm=>by
     obtain ⟨a,_,ha⟩:=List.mem_map.1 hm
     simp only [Prod.mk.injEq] at ha
     exact hc ha.1.symm)]
def Led (m:LMap) (f:Fn):Prop:=∀ p,mget m p=if f p=0 then none else some (f p)
theorem Led.nil:Led [] f0:=fun _=>rfl
theorem Led.getD {m:LMap} {f:Fn} (h:Led m f) (p:Int × Int):(mget m p).getD 0=f p:=by
 rw [h p]
 split
 ·rename_i e; exact e.symm
 ·rfl
theorem Led.put {m:LMap} {f:Fn} (h:Led m f) (p:Int × Int) (x:Int) (hn:f p + x ≠ 0):Led (mset m p (f p + x)) (updF f p x):=by
 intro q
 rw [mget_mset]
 unfold updF
 by_cases e:q=p
 ·subst e
  simp [hn]
 ·simp only [e,if_false]
  exact h q
theorem Led.cut {m:LMap} {f:Fn} (h:Led m f) (p:Int × Int) (x v:Int) (hn:f p + x=0):Led (mdel (mset m p v) p) (updF f p x):=by
 intro q
 rw [mget_mdel,mget_mset]
 unfold updF
 by_cases e:q=p
 ·subst e
  simp [hn]
 ·simp only [e,if_false]
  exact h q
end Go.Proofs.YtakaalldbnklcaaGreat.Mo
namespace Go.Proofs.YtakaalldbnklcaaGreat.Mo
open Go.RowKit Go.WideShapes Go.ChangeShapes Go.ChangeAt Go.Deep
set_option linter.unusedVariables false
end Go.Proofs.YtakaalldbnklcaaGreat.Mo
