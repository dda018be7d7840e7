/-
  A region that draws its order: reads, calls and writes that keep to a class of worlds, in whatever order; then what comes last, walked in every world of the class.
  A region that draws its order, and in which ONE operation (a call) turns the world; all others read, or call what leaves the world's kind as it is: two classes of worlds, ahead of it and behind it.
  A region that draws its order and in whose head ONE operation turns the world (an entry of a map that is made); all others only read, in the world ahead of it and in the one behind it alike.
  A region that draws its order, walked in segments: each segment's operations come up in any order, all of them ahead of what stands behind the segment; in a segment one operation may turn the world (two classes); between segments the world is known.
  The laws' words for the document's inbox: ref, alike.
  The library's sort at the inbox's entries: every length. No condition.
  Great regions whose operations fill one temporary behind the other: that they may be walked in the text's order is seen in one pass. No program, no condition.
-/
import Derived.Test.YtakaalldbnklcaaGreatQd2
import Derived.Test.YtakaalldbnklcaaGreatQd3
import Derived.Test.YtakaalldbnklcaaGreatQd4
import Derived.StillTail
import Derived.Shelf.SlSortCmp.NoneTotal
namespace Go.Proofs.YtakaalldbnklcaaGreat
open Go.RowKit
set_option linter.unusedVariables false
section
variable {P:Program} {ops:Array Oper} {md:Region.Mode} {C:World→Prop}
def inUpon (P:Program) (C:World→Prop) (v:Value):Result Next→Prop
 | .ok (.value u) w'=>C w'∧u=v
 | .ok .skip w'=>C w'∧v=undef
 | .ok (.enter f args) w'=>Calls P f args w' (fun e w''=>e = .returned v∧C w'')
 | _=>False
def inAt (P:Program) (C:World→Prop) (o:Oper) (a:Act) (v:Value):Prop:=∀ w,C w→inUpon P C v ((execOp a.eval o).run P w)
def yld (P:Program) (ops:Array Oper) (C:World→Prop) (o:Oper) (v:Value) (a:Act):Prop :=
 (Region.wanted o (yielded ops a.tmps)=true∧inAt P C o a v)∨(Region.wanted o (yielded ops a.tmps)=false∧v=undef)
theorem yld.same {o:Oper} {v:Value} {a a':Act} (h:yld P ops C o v a) (he:execOp a'.eval o=execOp a.eval o) (hw:Region.wanted o (yielded ops a'.tmps)=Region.wanted o (yielded ops a.tmps)):yld P ops C o v a':=by
 unfold yld inAt at *
 rw [he,hw]
 exact h
def anyC (P:Program) (md:Region.Mode) (ops:Array Oper) (C:World→Prop) (n:Nat) (L:Array Bool→Act→Prop):Nat→Array Bool→Act→Prop
 | 0,listed,a=>L listed a
 | f + 1,listed,a=>Region.ready md ops listed ≠ []∧∀ i ∈ Region.ready md ops listed,i < n∧∃ o v,ops[i]?=some o∧yld P ops C o v a∧anyC P md ops C n L f (listed.setIfInBounds i true) (a.put o.dst v)
theorem wp_of_yld {o:Oper} {v:Value} {a:Act} {w:World} {i:Nat} {K:Act→World→Prop} {Q':Exit→Act→World→Prop} (hi:ops[i]?=some o) (hC:C w) (hy:yld P ops C o v a) (hK:∀ w',C w'→K (a.put o.dst v) w'):wpOp P ops Q' i K a w:=by
 unfold wpOp
 simp only [hi]
 rcases hy with ⟨hw,hv⟩ | ⟨hw,rfl⟩
 ·simp only [hw,if_true]
  left
  have h1:=hv w hC
  unfold Oper.wp
  generalize (execOp a.eval o).run P w=r at *
  cases r with
  | ok n w' =>
   cases n <;> simp only [inUpon] at h1 <;> simp only [Oper.upon]
   case value u=>obtain ⟨c1,rfl⟩:=h1; exact hK _ c1
   case skip=>obtain ⟨c1,rfl⟩:=h1; exact hK _ c1
   case enter f args=>exact h1.mono fun e w'' ⟨he,hw''⟩=>by subst he; exact hK _ hw''
  | halt x w'=>simp only [inUpon] at h1
 ·simp only [hw,Bool.false_eq_true,if_false]
  exact hK _ hC
theorem any_of_anyC {n g:Nat} {L:Array Bool→Act→Prop} {Q':Exit→Act→World→Prop} (hL:∀ listed a w,C w→L listed a→wpAny P md ops Q' g listed a w) :
  ∀ (f:Nat) (listed:Array Bool) (a:Act) (w:World),C w→anyC P md ops C n L f listed a→wpAny P md ops Q' (f + g) listed a w:=by
 intro f
 induction f with
 | zero=>intro listed a w hC h; rw [Nat.zero_add]; exact hL _ _ _ hC h
 | succ f ih =>
  intro listed a w hC h
  rw [show f + 1 + g=(f + g) + 1 from by omega]
  refine ⟨fun h0=>absurd h0 h.1,fun i hi => ?_⟩
  obtain ⟨_,o,v,h1,h2,h3⟩:=h.2 i hi
  exact wp_of_yld h1 hC h2 (fun w' hw'=>ih _ _ _ hw' h3)
theorem anyC_first {n i:Nat} {oi:Oper} {v:Value} {L:Array Bool→Act→Prop} (hi:ops[i]?=some oi) (hsel:∀ (j:Nat) (o:Oper) cs b,ops[j]?=some o→o.op ≠ .select cs b)
  (hs:Region.sinkB md ops n=true) (hc:Region.chainB md ops n=true) (hn:n < ops.size) (hin:i < n) (hdone:∀ listed a,L listed a→∀ j ∈ Region.ready md ops listed,n≤j) :
  ∀ (f:Nat) (listed:Array Bool) (a:Act),HeadInv md ops n listed →
   (∀ j oj,ops[j]?=some oj→j ≠ i→listed.getD j true=false→(∀ e ∈ oj.after,Region.binds md e=true→e.on ≠ i)→oi.apart ops oj=true) →
   i ∈ Region.ready md ops listed→yld P ops C oi v a→anyC P md ops C n L f (listed.setIfInBounds i true) (a.put oi.dst v)→anyC P md ops C n L (f + 1) listed a:=by
 intro f
 induction f with
 | zero =>
  intro listed a inv _ hr hy H
  have hun:=(mem_ready.1 hr).1
  refine ⟨fun h=>(by rw [h] at hr; cases hr),fun j hj => ?_⟩
  have hjn:j < n:=Nat.lt_of_not_le fun h=>tail_waits hs hc hn inv _ i rfl hin hun j h hj
  by_cases hji:j=i
  ·subst hji
   exact ⟨hjn,oi,v,hi,hy,H⟩
  ·have:=hdone _ _ H j (ready_mono hj hji)
   omega
 | succ f ih =>
  intro listed a inv hfree hr hy H
  have hun:=(mem_ready.1 hr).1
  refine ⟨fun h=>(by rw [h] at hr; cases hr),fun j hj => ?_⟩
  have hjn:j < n:=Nat.lt_of_not_le fun h=>tail_waits hs hc hn inv _ i rfl hin hun j h hj
  by_cases hji:j=i
  ·subst hji
   exact ⟨hjn,oi,v,hi,hy,H⟩
  ·obtain ⟨_,oj',vj,hoj,hyj,hrest⟩:=H.2 j (ready_mono hj hji)
   obtain ⟨hjun,oj,hoj2,hall⟩:=mem_ready.1 hj
   obtain rfl:oj'=oj:=Option.some.inj (hoj.symm.trans hoj2)
   have hno:∀ e ∈ oj'.after,Region.binds md e=true→e.on ≠ i:=fun e he hb heq=>by
    have h1:=hall e he hb
    rw [heq,getD_both hun] at h1
    cases h1
   obtain ⟨a1,a2,a3⟩:=Oper.apart_spec (hfree j oj' hoj hji hjun hno)
   have hyj':yld P ops C oj' vj a:=by
    refine hyj.same ?_ ?_
    ·rw [execOp_put oj' (fun cs b=>hsel j oj' cs b hoj) a oi.dst v a1]
    ·rw [wanted_put oj' a oi.dst v a1]
   have hyi':yld P ops C oi v (a.put oj'.dst vj):=by
    refine hy.same ?_ ?_
    ·exact execOp_put oi (fun cs b=>hsel i oi cs b hi) a oj'.dst vj a3
    ·exact wanted_put oi a oj'.dst vj a3
   refine ⟨hjn,oj',vj,hoj,hyj',ih (listed.setIfInBounds j true) (a.put oj'.dst vj) (inv.set hj hjn) (fun k ok hk hki hun' hno' => ?_) (ready_mono hr (Ne.symm hji)) hyi' ?_⟩
   ·refine hfree k ok hk hki ?_ hno'
    by_cases hjk:j=k
    ·subst hjk; exact hjun
    ·rw [getD_set_ne true hjk] at hun'; exact hun'
   ·rw [Array.setIfInBounds_comm _ _ hji, ← Act.put_comm a v vj a2]
    exact hrest
def wpIn (P:Program) (ops:Array Oper) (C:World→Prop) (Q:Act→Prop):List Oper→Act→Prop
 | [],a=>Q a
 | o :: rest,a=>∃ v,yld P ops C o v a∧wpIn P ops C Q rest (a.put o.dst v)
theorem wpIn_of_quiet {Q:Act→Prop} {r:List Oper}:∀ (l:List Oper) (a:Act),wpQuiet P ops C (wpIn P ops C Q r) l a→wpIn P ops C Q (l++r) a:=by
 intro l
 induction l with
 | nil=>intro a h; exact h
 | cons o l ih =>
  intro a h
  simp only [wpQuiet] at h
  by_cases hw:Region.wanted o (yielded ops a.tmps)=true
  ·simp only [hw,if_true] at h
   obtain ⟨v,h1,h2⟩:=h
   refine ⟨v,.inl ⟨hw,fun w hC => ?_⟩,ih _ h2⟩
   have h3:=h1 w hC
   unfold Oper.quietAt at h3
   generalize (execOp a.eval o).run P w=r' at *
   cases r' with
   | ok n w' =>
    cases n <;> simp only [Oper.quietUpon] at h3 <;> simp only [inUpon]
    case value u=>obtain ⟨rfl,rfl⟩:=h3; exact ⟨hC,rfl⟩
    case skip=>obtain ⟨rfl,rfl⟩:=h3; exact ⟨hC,rfl⟩
    case enter f args=>obtain ⟨rfl,h4⟩:=h3; exact h4
   | halt x w'=>simp only [Oper.quietUpon] at h3
  ·simp only [hw] at h
   exact ⟨undef,.inr ⟨by simpa using hw,rfl⟩,ih _ h⟩
theorem anyC_lex {n g:Nat} {Lq:Act→Prop} (hsel:Region.noSelect ops=true) (hs:Region.sinkB md ops n=true) (hc:Region.chainB md ops n=true) (hn:n < ops.size) :
  ∀ (l:List Oper) (k:Nat) (listed:Array Bool) (a:Act),(∀ j,j < l.length→l[j]?=ops[k + j]?)→k + l.length=n→HeadInv md ops n listed→Region.lexHead md ops g l.length k listed=true→wpIn P ops C Lq l a →
  anyC P md ops C n (fun listed' a'=>Region.seqB md ops g n listed'=true∧Lq a') l.length listed a:=by
 intro l
 induction l with
 | nil =>
  intro k listed a _ hk _ hB h
  obtain rfl:k=n:=by simpa using hk
  exact ⟨by simpa [Region.lexHead] using hB,h⟩
 | cons o l ih =>
  intro k listed a hl hk inv hB h
  have h0:ops[k]?=some o:=by simpa using (hl 0 (by simp)).symm
  simp only [List.length_cons,Region.lexHead,Bool.and_eq_true] at hB
  obtain ⟨⟨hr,hf⟩,hB'⟩:=hB
  have hkn:k < n:=by simp only [List.length_cons] at hk; omega
  have hr':k ∈ Region.ready md ops listed:=by simpa using hr
  obtain ⟨v,hy,hK⟩:=h
  exact anyC_first h0 (Region.noSelect_spec hsel) hs hc hn hkn (fun listed' a' hL=>seqB_ready hL.1) l.length listed a inv (Region.free_spec h0 hf) hr' hy
   (ih (k + 1) _ _ (fun j hj=>by have:=hl (j + 1) (by simp; omega); simpa [Nat.add_assoc,Nat.add_comm 1 j] using this) (by simp only [List.length_cons] at hk; omega) (inv.set hr' hkn) hB' hK)
theorem wp_region_in_tail {id:Nat} {Q:Exit→Act→World→Prop} {a:Act} {w:World} {l:List Oper} (C:World→Prop) (n:Nat) (hm:P.follows .mixedOrders=true) (hB:Region.lexTailB .any l.toArray n=true) (hC:C w.drew)
  (h:Nonempty (In C)→wpIn P l.toArray (fun w'=>∃ p:In C,w'=p.w) (fun a'=>∀ w',C w'→wpList P l.toArray Q (l.drop n) a' w') (l.take n) a):(Code.region id l.toArray true).wp P Q a w:=by
 have h1:=h ⟨⟨w.drew,hC⟩⟩
 simp only [Region.lexTailB,Bool.and_eq_true,decide_eq_true_eq] at hB
 obtain ⟨⟨⟨⟨hsel,hn⟩,hs⟩,hc⟩,hlex⟩:=hB
 have hn':n < l.length:=by simpa using hn
 have htl:(l.take n).length=n:=by simp; omega
 have hdl:(l.drop n).length=l.toArray.size - n:=by simp
 have inv0:HeadInv .any l.toArray n (Array.replicate l.toArray.size false) :=
  ⟨by simp,fun j oj _ hl=>(by rw [getD_replicate_false] at hl; cases hl),fun t _ ht=>getD_in (by simpa using ht) (getD_replicate_false _ _)⟩
 have H:=anyC_lex (md:=.any) (g:=l.toArray.size - n) hsel hs hc hn (l.take n) 0 _ a (fun j hj=>by
  have hj':j < n:=by rw [htl] at hj; exact hj
  simp [hj']) (by simpa using htl) inv0 (by rw [htl]; exact hlex) h1
 refine wp_region_any hm ?_
 have:=any_of_anyC (Q':=Q) (g:=l.toArray.size - n) (fun listed a' w' hw' hL=>by
  obtain ⟨p,rfl⟩:=hw'
  have:=wpAny_of_seq (md:=.any) (Q':=Q) (l.drop n) n listed a' p.w (fun j=>by simp [List.getElem?_drop]) (by rw [hdl]; exact hL.1) (hL.2 _ p.h)
  rwa [hdl] at this) _ _ _ _ ⟨⟨w.drew,hC⟩,rfl⟩ H
 rw [htl,show n + (l.toArray.size - n)=l.toArray.size from by omega] at this
 exact this
theorem wpIn_quiet {Q:Act→Prop} {a:Act} {l:List Oper} (h:wpQuiet P ops C Q l a):wpIn P ops C Q l a:=by
 have:=wpIn_of_quiet (r:=[]) (Q:=Q) l a h
 rwa [List.append_nil] at this
end
end Go.Proofs.YtakaalldbnklcaaGreat
namespace Go.Proofs.YtakaalldbnklcaaGreat
open Go.RowKit
set_option linter.unusedVariables false
section
variable {P:Program} {ops:Array Oper} {md:Region.Mode} {CB:Bool→World→Prop} {m:Nat}
def yldT (P:Program) (md:Region.Mode) (ops:Array Oper) (CB:Bool→World→Prop) (m i:Nat) (o:Oper) (v:Value) (a:Act):Prop :=
 (Region.wanted o (yielded ops a.tmps)=true∧if i=m then (∀ w,CB false w→inUpon P (CB true) v ((execOp a.eval o).run P w)) else ∀ b w,(b=true→Region.waitsFor md ops m i=false)→CB b w→inUpon P (CB b) v ((execOp a.eval o).run P w)) ∨
 (i ≠ m∧Region.wanted o (yielded ops a.tmps)=false∧v=undef)
theorem yldT.same {i:Nat} {o:Oper} {v:Value} {a a':Act} (h:yldT P md ops CB m i o v a) (he:execOp a'.eval o=execOp a.eval o) (hw:Region.wanted o (yielded ops a'.tmps)=Region.wanted o (yielded ops a.tmps)):yldT P md ops CB m i o v a':=by
 unfold yldT at *
 rw [he,hw]
 exact h
def anyT (P:Program) (md:Region.Mode) (ops:Array Oper) (CB:Bool→World→Prop) (m n:Nat) (L:Array Bool→Act→Prop):Nat→Array Bool→Act→Prop
 | 0,listed,a=>L listed a
 | f + 1,listed,a=>Region.ready md ops listed ≠ []∧∀ i ∈ Region.ready md ops listed,i < n∧∃ o v,ops[i]?=some o∧yldT P md ops CB m i o v a∧anyT P md ops CB m n L f (listed.setIfInBounds i true) (a.put o.dst v)
theorem wp_of_upon {o:Oper} {v:Value} {a:Act} {w:World} {C:World→Prop} {K:Act→World→Prop} {Q':Exit→Act→World→Prop} (h1:inUpon P C v ((execOp a.eval o).run P w)) (hK:∀ w',C w'→K (a.put o.dst v) w'):Oper.wp P o a w K Q':=by
 unfold Oper.wp
 generalize (execOp a.eval o).run P w=r at *
 cases r with
 | ok n w' =>
  cases n <;> simp only [inUpon] at h1 <;> simp only [Oper.upon]
  case value u=>obtain ⟨c1,rfl⟩:=h1; exact hK _ c1
  case skip=>obtain ⟨c1,rfl⟩:=h1; exact hK _ c1
  case enter f args=>exact h1.mono fun e w'' ⟨he,hw''⟩=>by subst he; exact hK _ hw''
 | halt x w'=>simp only [inUpon] at h1
theorem any_of_anyT {n g:Nat} {L:Array Bool→Act→Prop} {Q':Exit→Act→World→Prop} (hL:∀ listed a w,HeadInv md ops n listed→CB (listed.getD m false) w→L listed a→wpAny P md ops Q' g listed a w) :
  ∀ (f:Nat) (listed:Array Bool) (a:Act) (w:World),HeadInv md ops n listed→CB (listed.getD m false) w→anyT P md ops CB m n L f listed a→wpAny P md ops Q' (f + g) listed a w:=by
 intro f
 induction f with
 | zero=>intro listed a w inv hC h; rw [Nat.zero_add]; exact hL _ _ _ inv hC h
 | succ f ih =>
  intro listed a w inv hC h
  rw [show f + 1 + g=(f + g) + 1 from by omega]
  refine ⟨fun h0=>absurd h0 h.1,fun i hi => ?_⟩
  obtain ⟨hin,o,v,h1,h2,h3⟩:=h.2 i hi
  have h4:=fun w' hC'=>ih _ _ w' (inv.set hi hin) hC' h3
  have hun:=(mem_ready.1 hi).1
  have hsz:i < listed.size:=by rw [inv.size]; exact (Array.getElem?_eq_some_iff.1 h1).1
  unfold wpOp
  simp only [h1]
  rcases h2 with ⟨hw,hv⟩ | ⟨hne,hw,rfl⟩
  ·simp only [hw,if_true]
   left
   by_cases him:i=m
   ·rw [if_pos him] at hv
    subst him
    rw [getD_both hun] at hC
    rw [show (listed.setIfInBounds i true).getD i false=true from by simp [hsz]] at h4
    exact wp_of_upon (hv w hC) h4
   ·rw [if_neg him] at hv
    rw [getD_set_ne false him] at h4
    refine wp_of_upon (hv _ w (fun hb => ?_) hC) h4
    cases hwf:Region.waitsFor md ops m i with
    | false=>rfl
    | true =>
     obtain ⟨oj,hoj,e,he,hbd,hon⟩:=Region.waitsFor_spec hwf
     have:=inv.closed m oj hoj hb e he hbd
     rw [hon,getD_both hun] at this
     cases this
  ·simp only [hw,Bool.false_eq_true,if_false]
   rw [getD_set_ne false hne] at h4
   exact h4 w hC
theorem anyT_first {n i:Nat} {oi:Oper} {v:Value} {L:Array Bool→Act→Prop} (hi:ops[i]?=some oi) (hsel:∀ (j:Nat) (o:Oper) cs b,ops[j]?=some o→o.op ≠ .select cs b)
  (hs:Region.sinkB md ops n=true) (hc:Region.chainB md ops n=true) (hn:n < ops.size) (hin:i < n) (hdone:∀ listed a,L listed a→∀ j ∈ Region.ready md ops listed,n≤j) :
  ∀ (f:Nat) (listed:Array Bool) (a:Act),HeadInv md ops n listed →
   (∀ j oj,ops[j]?=some oj→j ≠ i→listed.getD j true=false→(∀ e ∈ oj.after,Region.binds md e=true→e.on ≠ i)→oi.apart ops oj=true) →
   i ∈ Region.ready md ops listed→yldT P md ops CB m i oi v a→anyT P md ops CB m n L f (listed.setIfInBounds i true) (a.put oi.dst v)→anyT P md ops CB m n L (f + 1) listed a:=by
 intro f
 induction f with
 | zero =>
  intro listed a inv _ hr hy H
  have hun:=(mem_ready.1 hr).1
  refine ⟨fun h=>(by rw [h] at hr; cases hr),fun j hj => ?_⟩
  have hjn:j < n:=Nat.lt_of_not_le fun h=>tail_waits hs hc hn inv _ i rfl hin hun j h hj
  by_cases hji:j=i
  ·subst hji
   exact ⟨hjn,oi,v,hi,hy,H⟩
  ·have:=hdone _ _ H j (ready_mono hj hji)
   omega
 | succ f ih =>
  intro listed a inv hfree hr hy H
  have hun:=(mem_ready.1 hr).1
  refine ⟨fun h=>(by rw [h] at hr; cases hr),fun j hj => ?_⟩
  have hjn:j < n:=Nat.lt_of_not_le fun h=>tail_waits hs hc hn inv _ i rfl hin hun j h hj
  by_cases hji:j=i
  ·subst hji
   exact ⟨hjn,oi,v,hi,hy,H⟩
  ·obtain ⟨_,oj',vj,hoj,hyj,hrest⟩:=H.2 j (ready_mono hj hji)
   obtain ⟨hjun,oj,hoj2,hall⟩:=mem_ready.1 hj
   obtain rfl:oj'=oj:=Option.some.inj (hoj.symm.trans hoj2)
   have hno:∀ e ∈ oj'.after,Region.binds md e=true→e.on ≠ i:=fun e he hb heq=>by
    have h1:=hall e he hb
    rw [heq,getD_both hun] at h1
    cases h1
   obtain ⟨a1,a2,a3⟩:=Oper.apart_spec (hfree j oj' hoj hji hjun hno)
   have hyj':yldT P md ops CB m j oj' vj a:=by
    refine hyj.same ?_ ?_
    ·rw [execOp_put oj' (fun cs b=>hsel j oj' cs b hoj) a oi.dst v a1]
    ·rw [wanted_put oj' a oi.dst v a1]
   have hyi':yldT P md ops CB m i oi v (a.put oj'.dst vj):=by
    refine hy.same ?_ ?_
    ·exact execOp_put oi (fun cs b=>hsel i oi cs b hi) a oj'.dst vj a3
    ·exact wanted_put oi a oj'.dst vj a3
   refine ⟨hjn,oj',vj,hoj,hyj',ih (listed.setIfInBounds j true) (a.put oj'.dst vj) (inv.set hj hjn) (fun k ok hk hki hun' hno' => ?_) (ready_mono hr (Ne.symm hji)) hyi' ?_⟩
   ·refine hfree k ok hk hki ?_ hno'
    by_cases hjk:j=k
    ·subst hjk; exact hjun
    ·rw [getD_set_ne true hjk] at hun'; exact hun'
   ·rw [Array.setIfInBounds_comm _ _ hji, ← Act.put_comm a v vj a2]
    exact hrest
def wpT (P:Program) (md:Region.Mode) (ops:Array Oper) (CB:Bool→World→Prop) (m:Nat) (Q:Act→Prop):Nat→List Oper→Act→Prop
 | _,[],a=>Q a
 | i,o :: rest,a=>∃ v,yldT P md ops CB m i o v a∧wpT P md ops CB m Q (i + 1) rest (a.put o.dst v)
theorem anyT_lex {n g:Nat} {Lq:Act→Prop} (hsel:Region.noSelect ops=true) (hs:Region.sinkB md ops n=true) (hc:Region.chainB md ops n=true) (hn:n < ops.size) :
  ∀ (l:List Oper) (k:Nat) (listed:Array Bool) (a:Act),(∀ j,j < l.length→l[j]?=ops[k + j]?)→k + l.length=n→HeadInv md ops n listed→Region.lexHead md ops g l.length k listed=true→wpT P md ops CB m Lq k l a →
  anyT P md ops CB m n (fun listed' a'=>Region.seqB md ops g n listed'=true∧Lq a') l.length listed a:=by
 intro l
 induction l with
 | nil =>
  intro k listed a _ hk _ hB h
  obtain rfl:k=n:=by simpa using hk
  exact ⟨by simpa [Region.lexHead] using hB,h⟩
 | cons o l ih =>
  intro k listed a hl hk inv hB h
  have h0:ops[k]?=some o:=by simpa using (hl 0 (by simp)).symm
  simp only [List.length_cons,Region.lexHead,Bool.and_eq_true] at hB
  obtain ⟨⟨hr,hf⟩,hB'⟩:=hB
  have hkn:k < n:=by simp only [List.length_cons] at hk; omega
  have hr':k ∈ Region.ready md ops listed:=by simpa using hr
  obtain ⟨v,hy,hK⟩:=h
  exact anyT_first h0 (Region.noSelect_spec hsel) hs hc hn hkn (fun listed' a' hL=>seqB_ready hL.1) l.length listed a inv (Region.free_spec h0 hf) hr' hy
   (ih (k + 1) _ _ (fun j hj=>by have:=hl (j + 1) (by simp; omega); simpa [Nat.add_assoc,Nat.add_comm 1 j] using this) (by simp only [List.length_cons] at hk; omega) (inv.set hr' hkn) hB' hK)
theorem wp_region_turn {id:Nat} {Q:Exit→Act→World→Prop} {a:Act} {w:World} {l:List Oper} (CB:Bool→World→Prop) (m n:Nat) (hmn:m < n) (hm:P.follows .mixedOrders=true) (hB:Region.lexTailB .any l.toArray n=true) (hC:CB false w.drew)
  (h:wpT P .any l.toArray CB m (fun a'=>∀ w',CB true w'→wpList P l.toArray Q (l.drop n) a' w') 0 (l.take n) a):(Code.region id l.toArray true).wp P Q a w:=by
 simp only [Region.lexTailB,Bool.and_eq_true,decide_eq_true_eq] at hB
 obtain ⟨⟨⟨⟨hsel,hn⟩,hs⟩,hc⟩,hlex⟩:=hB
 have hn':n < l.length:=by simpa using hn
 have htl:(l.take n).length=n:=by simp; omega
 have hdl:(l.drop n).length=l.toArray.size - n:=by simp
 have inv0:HeadInv .any l.toArray n (Array.replicate l.toArray.size false) :=
  ⟨by simp,fun j oj _ hl=>(by rw [getD_replicate_false] at hl; cases hl),fun t _ ht=>getD_in (by simpa using ht) (getD_replicate_false _ _)⟩
 have H:=anyT_lex (md:=.any) (g:=l.toArray.size - n) hsel hs hc hn (l.take n) 0 _ a (fun j hj=>by
  have hj':j < n:=by rw [htl] at hj; exact hj
  simp [hj']) (by simpa using htl) inv0 (by rw [htl]; exact hlex) h
 refine wp_region_any hm ?_
 have:=any_of_anyT (Q':=Q) (g:=l.toArray.size - n) (fun listed a' w' inv hCw hL=>by
  have hd:listed.getD m false=true:=by
   cases hh:listed.getD m false with
   | true=>rfl
   | false =>
    exfalso
    have hms:m < listed.size:=by rw [inv.size]; omega
    have h1:=hL.1
    rw [← hdl] at h1
    have hg:(l.drop n).length ≠ 0:=by rw [List.length_drop]; omega
    obtain ⟨g,hg'⟩:=Nat.exists_eq_succ_of_ne_zero hg
    rw [hg'] at h1
    simp only [Region.seqB,Bool.and_eq_true,decide_eq_true_eq] at h1
    exact tail_waits hs hc hn inv _ m rfl hmn (getD_in hms hh) n (Nat.le_refl _) (by rw [h1.1]; simp)
  rw [hd] at hCw
  have:=wpAny_of_seq (md:=.any) (Q':=Q) (l.drop n) n listed a' w' (fun j=>by simp [List.getElem?_drop]) (by rw [hdl]; exact hL.1) (hL.2 _ hCw)
  rwa [hdl] at this) _ _ _ _ inv0 (by rw [getD_replicate_false]; exact hC) H
 rw [htl,show n + (l.toArray.size - n)=l.toArray.size from by omega] at this
 exact this
def plainB:Op→Bool
 | .move _ | .assign _ | .pick _ _ _ | .load _ _ | .fieldAddr _ _ _ | .indexAddr _ _ _ | .binOp _ _ _ _ _ | .unOp _ _ _ | .extract _ _ | .build _ _=>true
 | _=>false
theorem val_only {α:Type} {s:Sem α} {g:α→Value} {w w':World} {n:Next} (e:(s >>= fun x=>pure (Next.value (g x)):Sem Next).run P w = .ok n w'):∃ u,n = .value u:=by
 rw [Sem.run_bind] at e
 cases hs:s.run P w with
 | ok u w1=>rw [hs] at e; simp [Result.andThen] at e; exact ⟨_,e.1.symm⟩
 | halt x w1=>rw [hs] at e; simp [Result.andThen] at e
theorem plain_value {o:Oper} (h:plainB o.op=true) {ρ:Operand→Value} {w w':World} {n:Next} (e:(execOp ρ o).run P w = .ok n w'):∃ u,n = .value u:=by
 unfold execOp at e
 cases ho:o.op <;> rw [ho] at h e <;> first | (simp only [plainB,Bool.false_eq_true] at h; done) | exact val_only e | (simp at e; exact ⟨_,e.1.symm⟩)
theorem wpT_of_quiet {Q:Act→Prop} {r:List Oper} (C:World→Prop) (hCC:∀ b w,CB b w→C w):∀ (l:List Oper) (i:Nat) (a:Act),l.all (fun o=>plainB o.op)=true→(i + l.length≤m∨m < i)→wpQuiet P ops (fun w=>∃ p:In C,w=p.w) (wpT P md ops CB m Q (i + l.length) r) l a→wpT P md ops CB m Q i (l++r) a:=by
 intro l
 induction l with
 | nil=>intro i a _ _ h; exact h
 | cons o l ih =>
  intro i a hp him h
  simp only [List.all_cons,Bool.and_eq_true] at hp
  have him':i ≠ m:=by simp only [List.length_cons] at him; omega
  have hnext:i + 1 + l.length≤m∨m < i + 1:=by simp only [List.length_cons] at him; omega
  have hlen:i + (o :: l).length=i + 1 + l.length:=by simp only [List.length_cons]; omega
  rw [hlen] at h
  simp only [wpQuiet] at h
  by_cases hw:Region.wanted o (yielded ops a.tmps)=true
  ·simp only [hw,if_true] at h
   obtain ⟨v,h1,h2⟩:=h
   have hall:∀ b w,CB b w→inUpon P (CB b) v ((execOp a.eval o).run P w):=by
    intro b w hC
    have h3:=h1 w ⟨⟨w,hCC b w hC⟩,rfl⟩
    unfold Oper.quietAt at h3
    cases hr:(execOp a.eval o).run P w with
    | ok n w' =>
     rw [hr] at h3
     obtain ⟨u,rfl⟩:=plain_value hp.1 hr
     simp only [Oper.quietUpon] at h3
     obtain ⟨rfl,rfl⟩:=h3
     exact ⟨hC,rfl⟩
    | halt x w'=>rw [hr] at h3; simp only [Oper.quietUpon] at h3
   exact ⟨v,.inl ⟨hw,by rw [if_neg him']; exact fun b w _ hC=>hall b w hC⟩,ih (i + 1) _ hp.2 hnext h2⟩
  ·simp only [hw] at h
   exact ⟨undef,.inr ⟨him',by simpa using hw,rfl⟩,ih (i + 1) _ hp.2 hnext h⟩
theorem wpT_part {Q:Act→Prop} {a:Act} {l:List Oper} {i:Nat} (C:World→Prop) (hCC:∀ b w,CB b w→C w) (k j:Nat) (hp:(l.take k).all (fun o=>plainB o.op)=true) (hj:i + (l.take k).length=j) (him:j≤m∨m < i) (h:wpQuiet P ops (fun w=>∃ p:In C,w=p.w) (wpT P md ops CB m Q j (l.drop k)) (l.take k) a):wpT P md ops CB m Q i l a:=by
 subst hj
 have:=wpT_of_quiet (r:=l.drop k) (Q:=Q) C hCC (l.take k) i a hp him h
 rwa [List.take_append_drop] at this
theorem wpT_of_quiet0 {Q:Act→Prop} {r:List Oper} (C:World→Prop) (hCC:∀ w,CB false w→C w):∀ (l:List Oper) (i:Nat) (a:Act),l.all (fun o=>plainB o.op)=true→i + l.length≤m→(List.range l.length).all (fun j=>Region.waitsFor md ops m (i + j))=true→wpQuiet P ops (fun w=>∃ p:In C,w=p.w) (wpT P md ops CB m Q (i + l.length) r) l a→wpT P md ops CB m Q i (l++r) a:=by
 intro l
 induction l with
 | nil=>intro i a _ _ _ h; exact h
 | cons o l ih =>
  intro i a hp him hwt h
  simp only [List.all_cons,Bool.and_eq_true] at hp
  have him':i ≠ m:=by simp only [List.length_cons] at him; omega
  have hnext:i + 1 + l.length≤m:=by simp only [List.length_cons] at him; omega
  have hlen:i + (o :: l).length=i + 1 + l.length:=by simp only [List.length_cons]; omega
  have hw0:Region.waitsFor md ops m i=true:=by
   have:=List.all_eq_true.1 hwt 0 (by simp)
   simpa using this
  have hwn:(List.range l.length).all (fun j=>Region.waitsFor md ops m (i + 1 + j))=true:=by
   rw [List.all_eq_true]
   intro j hj
   have:=List.all_eq_true.1 hwt (j + 1) (by simp at hj ⊢; omega)
   rw [show i + 1 + j=i + (j + 1) from by omega]
   exact this
  rw [hlen] at h
  simp only [wpQuiet] at h
  by_cases hw:Region.wanted o (yielded ops a.tmps)=true
  ·simp only [hw,if_true] at h
   obtain ⟨v,h1,h2⟩:=h
   have hall:∀ b w,(b=true→Region.waitsFor md ops m i=false)→CB b w→inUpon P (CB b) v ((execOp a.eval o).run P w):=by
    intro b w hb hC
    cases b with
    | true=>rw [hw0] at hb; exact absurd (hb rfl) (by simp)
    | false =>
     have h3:=h1 w ⟨⟨w,hCC w hC⟩,rfl⟩
     unfold Oper.quietAt at h3
     cases hr:(execOp a.eval o).run P w with
     | ok n w' =>
      rw [hr] at h3
      obtain ⟨u,rfl⟩:=plain_value hp.1 hr
      simp only [Oper.quietUpon] at h3
      obtain ⟨rfl,rfl⟩:=h3
      exact ⟨hC,rfl⟩
     | halt x w'=>rw [hr] at h3; simp only [Oper.quietUpon] at h3
   exact ⟨v,.inl ⟨hw,by rw [if_neg him']; exact hall⟩,ih (i + 1) _ hp.2 hnext hwn h2⟩
  ·simp only [hw] at h
   exact ⟨undef,.inr ⟨him',by simpa using hw,rfl⟩,ih (i + 1) _ hp.2 hnext hwn h⟩
theorem wpT_part0 {Q:Act→Prop} {a:Act} {l:List Oper} {i:Nat} (C:World→Prop) (hCC:∀ w,CB false w→C w) (k j:Nat) (hp:(l.take k).all (fun o=>plainB o.op)=true) (hj:i + (l.take k).length=j) (him:j≤m) (hwt:(List.range (l.take k).length).all (fun j=>Region.waitsFor md ops m (i + j))=true) (h:wpQuiet P ops (fun w=>∃ p:In C,w=p.w) (wpT P md ops CB m Q j (l.drop k)) (l.take k) a):wpT P md ops CB m Q i l a:=by
 subst hj
 have:=wpT_of_quiet0 (r:=l.drop k) (Q:=Q) C hCC (l.take k) i a hp him hwt h
 rwa [List.take_append_drop] at this
theorem wpT_nil {Q:Act→Prop} {a:Act} {i:Nat} (h:Q a):wpT P md ops CB m Q i [] a:=h
theorem wpT_turn {Q:Act→Prop} {a:Act} {o:Oper} {rest:List Oper} (v:Value) (hw:Region.wanted o (yielded ops a.tmps)=true) (h:∀ w,CB false w→inUpon P (CB true) v ((execOp a.eval o).run P w)) (hK:wpT P md ops CB m Q (m + 1) rest (a.put o.dst v)):wpT P md ops CB m Q m (o :: rest) a :=
 ⟨v,.inl ⟨hw,by rw [if_pos rfl]; exact h⟩,hK⟩
theorem wpT_call {Q:Act→Prop} {a:Act} {o:Oper} {rest:List Oper} {i:Nat} (him:(i == m)=false) (v:Value) (hw:Region.wanted o (yielded ops a.tmps)=true) (h:∀ b w,CB b w→inUpon P (CB b) v ((execOp a.eval o).run P w)) (hK:wpT P md ops CB m Q (i + 1) rest (a.put o.dst v)):wpT P md ops CB m Q i (o :: rest) a :=
 ⟨v,.inl ⟨hw,by rw [if_neg (by simpa using him)]; exact fun b w _ hC=>h b w hC⟩,hK⟩
end
end Go.Proofs.YtakaalldbnklcaaGreat
namespace Go.Proofs.YtakaalldbnklcaaGreat
open Go.RowKit
set_option linter.unusedVariables false
section
variable {P:Program} {ops:Array Oper} {md:Region.Mode} {w0 w1:World} {m:Nat}
def wAt (w0 w1:World) (b:Bool):World:=if b then w1 else w0
def yldE (P:Program) (ops:Array Oper) (w0 w1:World) (m i:Nat) (o:Oper) (v:Value) (a:Act):Prop :=
 (Region.wanted o (yielded ops a.tmps)=true∧if i=m then (execOp a.eval o).run P w0 = .ok (.value v) w1 else ∀ b,(execOp a.eval o).run P (wAt w0 w1 b) = .ok (.value v) (wAt w0 w1 b)) ∨
 (i ≠ m∧Region.wanted o (yielded ops a.tmps)=false∧v=undef)
theorem yldE.same {i:Nat} {o:Oper} {v:Value} {a a':Act} (h:yldE P ops w0 w1 m i o v a) (he:execOp a'.eval o=execOp a.eval o) (hw:Region.wanted o (yielded ops a'.tmps)=Region.wanted o (yielded ops a.tmps)):yldE P ops w0 w1 m i o v a':=by
 unfold yldE at *
 rw [he,hw]
 exact h
def anyE (P:Program) (md:Region.Mode) (ops:Array Oper) (w0 w1:World) (m n:Nat) (L:Array Bool→Act→Prop):Nat→Array Bool→Act→Prop
 | 0,listed,a=>L listed a
 | f + 1,listed,a=>Region.ready md ops listed ≠ []∧∀ i ∈ Region.ready md ops listed,i < n∧∃ o v,ops[i]?=some o∧yldE P ops w0 w1 m i o v a∧anyE P md ops w0 w1 m n L f (listed.setIfInBounds i true) (a.put o.dst v)
theorem any_of_anyE {n g:Nat} {L:Array Bool→Act→Prop} {Q':Exit→Act→World→Prop} (hL:∀ listed a,HeadInv md ops n listed→L listed a→wpAny P md ops Q' g listed a (wAt w0 w1 (listed.getD m false))) :
  ∀ (f:Nat) (listed:Array Bool) (a:Act),HeadInv md ops n listed→anyE P md ops w0 w1 m n L f listed a→wpAny P md ops Q' (f + g) listed a (wAt w0 w1 (listed.getD m false)):=by
 intro f
 induction f with
 | zero=>intro listed a inv h; rw [Nat.zero_add]; exact hL _ _ inv h
 | succ f ih =>
  intro listed a inv h
  rw [show f + 1 + g=(f + g) + 1 from by omega]
  refine ⟨fun h0=>absurd h0 h.1,fun i hi => ?_⟩
  obtain ⟨hin,o,v,h1,h2,h3⟩:=h.2 i hi
  have h4:=ih _ _ (inv.set hi hin) h3
  have hun:=(mem_ready.1 hi).1
  have hsz:i < listed.size:=by rw [inv.size]; exact (Array.getElem?_eq_some_iff.1 h1).1
  unfold wpOp
  simp only [h1]
  rcases h2 with ⟨hw,hv⟩ | ⟨hne,hw,rfl⟩
  ·simp only [hw,if_true]
   left
   unfold Oper.wp
   by_cases him:i=m
   ·rw [if_pos him] at hv
    subst him
    rw [getD_both hun,show wAt w0 w1 false=w0 from rfl,hv]
    rw [show (listed.setIfInBounds i true).getD i false=true from by simp [hsz]] at h4
    exact h4
   ·rw [if_neg him] at hv
    rw [hv]
    rw [getD_set_ne false him] at h4
    exact h4
  ·simp only [hw,Bool.false_eq_true,if_false]
   rw [getD_set_ne false hne] at h4
   exact h4
theorem anyE_first {n i:Nat} {oi:Oper} {v:Value} {L:Array Bool→Act→Prop} (hi:ops[i]?=some oi) (hsel:∀ (j:Nat) (o:Oper) cs b,ops[j]?=some o→o.op ≠ .select cs b)
  (hs:Region.sinkB md ops n=true) (hc:Region.chainB md ops n=true) (hn:n < ops.size) (hin:i < n) (hdone:∀ listed a,L listed a→∀ j ∈ Region.ready md ops listed,n≤j) :
  ∀ (f:Nat) (listed:Array Bool) (a:Act),HeadInv md ops n listed →
   (∀ j oj,ops[j]?=some oj→j ≠ i→listed.getD j true=false→(∀ e ∈ oj.after,Region.binds md e=true→e.on ≠ i)→oi.apart ops oj=true) →
   i ∈ Region.ready md ops listed→yldE P ops w0 w1 m i oi v a→anyE P md ops w0 w1 m n L f (listed.setIfInBounds i true) (a.put oi.dst v)→anyE P md ops w0 w1 m n L (f + 1) listed a:=by
 intro f
 induction f with
 | zero =>
  intro listed a inv _ hr hy H
  have hun:=(mem_ready.1 hr).1
  refine ⟨fun h=>(by rw [h] at hr; cases hr),fun j hj => ?_⟩
  have hjn:j < n:=Nat.lt_of_not_le fun h=>tail_waits hs hc hn inv _ i rfl hin hun j h hj
  by_cases hji:j=i
  ·subst hji
   exact ⟨hjn,oi,v,hi,hy,H⟩
  ·have:=hdone _ _ H j (ready_mono hj hji)
   omega
 | succ f ih =>
  intro listed a inv hfree hr hy H
  have hun:=(mem_ready.1 hr).1
  refine ⟨fun h=>(by rw [h] at hr; cases hr),fun j hj => ?_⟩
  have hjn:j < n:=Nat.lt_of_not_le fun h=>tail_waits hs hc hn inv _ i rfl hin hun j h hj
  by_cases hji:j=i
  ·subst hji
   exact ⟨hjn,oi,v,hi,hy,H⟩
  ·obtain ⟨_,oj',vj,hoj,hyj,hrest⟩:=H.2 j (ready_mono hj hji)
   obtain ⟨hjun,oj,hoj2,hall⟩:=mem_ready.1 hj
   obtain rfl:oj'=oj:=Option.some.inj (hoj.symm.trans hoj2)
   have hno:∀ e ∈ oj'.after,Region.binds md e=true→e.on ≠ i:=fun e he hb heq=>by
    have h1:=hall e he hb
    rw [heq,getD_both hun] at h1
    cases h1
   obtain ⟨a1,a2,a3⟩:=Oper.apart_spec (hfree j oj' hoj hji hjun hno)
   have hyj':yldE P ops w0 w1 m j oj' vj a:=by
    refine hyj.same ?_ ?_
    ·rw [execOp_put oj' (fun cs b=>hsel j oj' cs b hoj) a oi.dst v a1]
    ·rw [wanted_put oj' a oi.dst v a1]
   have hyi':yldE P ops w0 w1 m i oi v (a.put oj'.dst vj):=by
    refine hy.same ?_ ?_
    ·exact execOp_put oi (fun cs b=>hsel i oi cs b hi) a oj'.dst vj a3
    ·exact wanted_put oi a oj'.dst vj a3
   refine ⟨hjn,oj',vj,hoj,hyj',ih (listed.setIfInBounds j true) (a.put oj'.dst vj) (inv.set hj hjn) (fun k ok hk hki hun' hno' => ?_) (ready_mono hr (Ne.symm hji)) hyi' ?_⟩
   ·refine hfree k ok hk hki ?_ hno'
    by_cases hjk:j=k
    ·subst hjk; exact hjun
    ·rw [getD_set_ne true hjk] at hun'; exact hun'
   ·rw [Array.setIfInBounds_comm _ _ hji, ← Act.put_comm a v vj a2]
    exact hrest
def wpE (P:Program) (ops:Array Oper) (w0 w1:World) (m:Nat) (Q:Act→Prop):Nat→List Oper→Act→Prop
 | _,[],a=>Q a
 | i,o :: rest,a=>∃ v,yldE P ops w0 w1 m i o v a∧wpE P ops w0 w1 m Q (i + 1) rest (a.put o.dst v)
theorem anyE_lex {n g:Nat} {Lq:Act→Prop} (hsel:Region.noSelect ops=true) (hs:Region.sinkB md ops n=true) (hc:Region.chainB md ops n=true) (hn:n < ops.size) :
  ∀ (l:List Oper) (k:Nat) (listed:Array Bool) (a:Act),(∀ j,j < l.length→l[j]?=ops[k + j]?)→k + l.length=n→HeadInv md ops n listed→Region.lexHead md ops g l.length k listed=true→wpE P ops w0 w1 m Lq k l a →
  anyE P md ops w0 w1 m n (fun listed' a'=>Region.seqB md ops g n listed'=true∧Lq a') l.length listed a:=by
 intro l
 induction l with
 | nil =>
  intro k listed a _ hk _ hB h
  obtain rfl:k=n:=by simpa using hk
  exact ⟨by simpa [Region.lexHead] using hB,h⟩
 | cons o l ih =>
  intro k listed a hl hk inv hB h
  have h0:ops[k]?=some o:=by simpa using (hl 0 (by simp)).symm
  simp only [List.length_cons,Region.lexHead,Bool.and_eq_true] at hB
  obtain ⟨⟨hr,hf⟩,hB'⟩:=hB
  have hkn:k < n:=by simp only [List.length_cons] at hk; omega
  have hr':k ∈ Region.ready md ops listed:=by simpa using hr
  obtain ⟨v,hy,hK⟩:=h
  exact anyE_first h0 (Region.noSelect_spec hsel) hs hc hn hkn (fun listed' a' hL=>seqB_ready hL.1) l.length listed a inv (Region.free_spec h0 hf) hr' hy
   (ih (k + 1) _ _ (fun j hj=>by have:=hl (j + 1) (by simp; omega); simpa [Nat.add_assoc,Nat.add_comm 1 j] using this) (by simp only [List.length_cons] at hk; omega) (inv.set hr' hkn) hB' hK)
theorem wp_region_entry {id:Nat} {Q:Exit→Act→World→Prop} {a:Act} {w:World} {l:List Oper} (m n:Nat) (w1:World) (hmn:m < n) (hm:P.follows .mixedOrders=true) (hB:Region.lexTailB .any l.toArray n=true)
  (h:wpE P l.toArray w.drew w1 m (fun a'=>wpList P l.toArray Q (l.drop n) a' w1) 0 (l.take n) a):(Code.region id l.toArray true).wp P Q a w:=by
 simp only [Region.lexTailB,Bool.and_eq_true,decide_eq_true_eq] at hB
 obtain ⟨⟨⟨⟨hsel,hn⟩,hs⟩,hc⟩,hlex⟩:=hB
 have hn':n < l.length:=by simpa using hn
 have htl:(l.take n).length=n:=by simp; omega
 have hdl:(l.drop n).length=l.toArray.size - n:=by simp
 have inv0:HeadInv .any l.toArray n (Array.replicate l.toArray.size false) :=
  ⟨by simp,fun j oj _ hl=>(by rw [getD_replicate_false] at hl; cases hl),fun t _ ht=>getD_in (by simpa using ht) (getD_replicate_false _ _)⟩
 have H:=anyE_lex (md:=.any) (g:=l.toArray.size - n) hsel hs hc hn (l.take n) 0 _ a (fun j hj=>by
  have hj':j < n:=by rw [htl] at hj; exact hj
  simp [hj']) (by simpa using htl) inv0 (by rw [htl]; exact hlex) h
 refine wp_region_any hm ?_
 have:=any_of_anyE (Q':=Q) (g:=l.toArray.size - n) (fun listed a' inv hL=>by
  have hd:listed.getD m false=true:=by
   cases hh:listed.getD m false with
   | true=>rfl
   | false =>
    exfalso
    have hms:m < listed.size:=by rw [inv.size]; omega
    have h1:=hL.1
    rw [← hdl] at h1
    have hg:(l.drop n).length ≠ 0:=by rw [List.length_drop]; omega
    obtain ⟨g,hg'⟩:=Nat.exists_eq_succ_of_ne_zero hg
    rw [hg'] at h1
    simp only [Region.seqB,Bool.and_eq_true,decide_eq_true_eq] at h1
    exact tail_waits hs hc hn inv _ m rfl hmn (getD_in hms hh) n (Nat.le_refl _) (by rw [h1.1]; simp)
  rw [hd]
  have:=wpAny_of_seq (md:=.any) (Q':=Q) (l.drop n) n listed a' w1 (fun j=>by simp [List.getElem?_drop]) (by rw [hdl]; exact hL.1) hL.2
  rwa [hdl] at this) _ _ _ inv0 H
 rw [htl,show n + (l.toArray.size - n)=l.toArray.size from by omega,getD_replicate_false] at this
 exact this
theorem wpE_nil {Q:Act→Prop} {a:Act} {i:Nat} (h:∀ K:Act→Prop,(∀ a,Q a→K a)→K a):wpE P ops w0 w1 m Q i [] a:=h Q (fun _ h=>h)
theorem wpE_read {Q:Act→Prop} {a:Act} {o:Oper} {rest:List Oper} {i:Nat} (hg:o.guard=none) (him:(i == m)=false) (v:Value) (h:∀ b,(execOp a.eval o).run P (wAt w0 w1 b) = .ok (.value v) (wAt w0 w1 b)) (hK:wpE P ops w0 w1 m Q (i + 1) rest (a.put o.dst v)):wpE P ops w0 w1 m Q i (o :: rest) a :=
 ⟨v,.inl ⟨by simp [Region.wanted,hg],by rw [if_neg (by simpa using him)]; exact h⟩,hK⟩
theorem wpE_turn {Q:Act→Prop} {a:Act} {o:Oper} {rest:List Oper} (hg:o.guard=none) (v:Value) (h:(execOp a.eval o).run P w0 = .ok (.value v) w1) (hK:wpE P ops w0 w1 m Q (m + 1) rest (a.put o.dst v)):wpE P ops w0 w1 m Q m (o :: rest) a :=
 ⟨v,.inl ⟨by simp [Region.wanted,hg],by rw [if_pos rfl]; exact h⟩,hK⟩
end
end Go.Proofs.YtakaalldbnklcaaGreat
namespace Go.Proofs.YtakaalldbnklcaaGreat
open Go.RowKit
set_option linter.unusedVariables false
section
variable {P:Program} {ops:Array Oper} {md:Region.Mode} {CB:Bool→World→Prop} {m:Nat}
def preA (ops:Array Oper) (k:Nat):Array Bool:=(Array.range ops.size).map (fun i=>decide (i < k))
theorem preA_size (k:Nat):(preA ops k).size=ops.size:=by simp [preA]
theorem preA_get (k j:Nat) (hj:j < ops.size):(preA ops k)[j]?=some (decide (j < k)):=by
 unfold preA
 simp [hj]
theorem preA_getD (k j:Nat) (hj:j < ops.size) (b:Bool):(preA ops k).getD j b=decide (j < k):=by
 rw [Array.getD_eq_getD_getElem?,preA_get k j hj]
 rfl
theorem preA_out (k j:Nat) (hj:ops.size≤j) (b:Bool):(preA ops k).getD j b=b:=by
 rw [Array.getD_eq_getD_getElem?,Array.getElem?_eq_none (by rw [preA_size]; exact hj)]
 rfl
theorem preA_set (k:Nat) (hk:k < ops.size):(preA ops k).setIfInBounds k true=preA ops (k + 1):=by
 apply Array.ext_getElem?
 intro j
 rcases Nat.lt_or_ge j ops.size with hj | hj
 ·rw [preA_get (k + 1) j hj]
  by_cases e:k=j
  ·subst e
   rw [Array.getElem?_setIfInBounds_self_of_lt (by rw [preA_size]; exact hk)]
   simp
  ·rw [Array.getElem?_setIfInBounds_ne e,preA_get k j hj]
   congr 1
   rw [decide_eq_decide]
   omega
 ·rw [Array.getElem?_eq_none (by simp [preA_size]; exact hj),Array.getElem?_eq_none (by rw [preA_size]; exact hj)]
theorem preA_zero:preA ops 0=Array.replicate ops.size false:=by
 apply Array.ext_getElem?
 intro j
 rcases Nat.lt_or_ge j ops.size with hj | hj
 ·rw [preA_get 0 j hj]
  simp [hj]
 ·rw [Array.getElem?_eq_none (by rw [preA_size]; exact hj),Array.getElem?_eq_none (by simpa using hj)]
def sinkS (md:Region.Mode) (ops:Array Oper) (k n:Nat):Bool:=(List.range n).all fun i=>decide (i < k) || (List.range (n + 1)).any fun j=>decide (i < j) && Region.waitsFor md ops j i
def treeB (md:Region.Mode) (ops:Array Oper) (n:Nat):Bool:=(List.range ops.size).all fun t=>decide (t≤n) || (List.range t).any fun s=>decide (n≤s) && Region.waitsFor md ops t s
def closedS (md:Region.Mode) (ops:Array Oper) (k:Nat):Bool:=(List.range k).all fun j=>match ops[j]? with | some oj=>oj.after.all (fun e => !(Region.binds md e) || decide (e.on < k)) | none=>true
def lexS (md:Region.Mode) (ops:Array Oper):Nat→Nat→Bool
 | 0,_=>true
 | f + 1,k=>(Region.ready md ops (preA ops k)).contains k && Region.free md ops (preA ops k) k && lexS md ops f (k + 1)
def segB (md:Region.Mode) (ops:Array Oper) (k n:Nat):Bool :=
 Region.noSelect ops && decide (k≤n) && decide (n≤ops.size) && (decide (n=ops.size) || (sinkS md ops k n && treeB md ops n)) && closedS md ops k && lexS md ops (n - k) k
theorem tail_waitsS {k n:Nat} {listed:Array Bool} (hs:n=ops.size∨(sinkS md ops k n=true∧treeB md ops n=true)) (inv:HeadInv md ops n listed) :
  ∀ (d i:Nat),n - i=d→k≤i→i < n→listed.getD i true=false→∀ t,n≤t→t ∉ Region.ready md ops listed:=by
 intro d
 induction d using Nat.strongRecOn with
 | _ d ih =>
  intro i hd hki hi hun t ht hr
  obtain ⟨_,ot,hot,hall⟩:=mem_ready.1 hr
  have htlt:t < ops.size:=(Array.getElem?_eq_some_iff.1 hot).1
  rcases hs with hs | ⟨hs,hc⟩
  ·omega
  by_cases htn:t=n
  ·subst htn
   have h1:=List.all_eq_true.1 hs i (List.mem_range.2 hi)
   simp only [Bool.or_eq_true,decide_eq_true_eq] at h1
   rcases h1 with h1 | h1
   ·omega
   obtain ⟨j,hj,hj2⟩:=List.any_eq_true.1 h1
   simp only [Bool.and_eq_true,decide_eq_true_eq] at hj2
   obtain ⟨oj,hoj,e,he,hb,hon⟩:=Region.waitsFor_spec hj2.2
   have hjle:j≤t:=by have:=List.mem_range.1 hj; omega
   by_cases hjt:j=t
   ·subst hjt
    have:oj=ot:=Option.some.inj (hoj.symm.trans hot)
    subst this
    have h2:=hall e he hb
    rw [hon,getD_both hun] at h2
    cases h2
   ·cases hl:listed.getD j false with
    | true =>
     have h2:=inv.closed j oj hoj hl e he hb
     rw [hon,getD_both hun] at h2
     cases h2
    | false =>
     have hjs:j < listed.size:=by rw [inv.size]; omega
     exact ih (t - j) (by omega) j rfl (by omega) (by omega) (getD_in hjs hl) t (Nat.le_refl _) hr
  ·have h1:=List.all_eq_true.1 hc t (List.mem_range.2 htlt)
   simp only [Bool.or_eq_true,decide_eq_true_eq] at h1
   rcases h1 with h1 | h1
   ·omega
   ·obtain ⟨s,hs1,hs2⟩:=List.any_eq_true.1 h1
    simp only [Bool.and_eq_true,decide_eq_true_eq] at hs2
    obtain ⟨o',ho',e,he,hb,hon⟩:=Region.waitsFor_spec hs2.2
    have hst:=List.mem_range.1 hs1
    have:o'=ot:=Option.some.inj (ho'.symm.trans hot)
    subst this
    have h2:=hall e he hb
    rw [hon,getD_both (inv.tail s hs2.1 (by omega))] at h2
    cases h2
theorem anyT_firstS {k n i:Nat} {oi:Oper} {v:Value} {L:Array Bool→Act→Prop} (hi:ops[i]?=some oi) (hsel:∀ (j:Nat) (o:Oper) cs b,ops[j]?=some o→o.op ≠ .select cs b)
  (hs:n=ops.size∨(sinkS md ops k n=true∧treeB md ops n=true)) (hki:k≤i) (hin:i < n) (hdone:∀ listed a,L listed a→∀ j ∈ Region.ready md ops listed,n≤j) :
  ∀ (f:Nat) (listed:Array Bool) (a:Act),HeadInv md ops n listed →
   (∀ j oj,ops[j]?=some oj→j ≠ i→listed.getD j true=false→(∀ e ∈ oj.after,Region.binds md e=true→e.on ≠ i)→oi.apart ops oj=true) →
   i ∈ Region.ready md ops listed→yldT P md ops CB m i oi v a→anyT P md ops CB m n L f (listed.setIfInBounds i true) (a.put oi.dst v)→anyT P md ops CB m n L (f + 1) listed a:=by
 intro f
 induction f with
 | zero =>
  intro listed a inv _ hr hy H
  have hun:=(mem_ready.1 hr).1
  refine ⟨fun h=>(by rw [h] at hr; cases hr),fun j hj => ?_⟩
  have hjn:j < n:=Nat.lt_of_not_le fun h=>tail_waitsS hs inv _ i rfl hki hin hun j h hj
  by_cases hji:j=i
  ·subst hji
   exact ⟨hjn,oi,v,hi,hy,H⟩
  ·have:=hdone _ _ H j (ready_mono hj hji)
   omega
 | succ f ih =>
  intro listed a inv hfree hr hy H
  have hun:=(mem_ready.1 hr).1
  refine ⟨fun h=>(by rw [h] at hr; cases hr),fun j hj => ?_⟩
  have hjn:j < n:=Nat.lt_of_not_le fun h=>tail_waitsS hs inv _ i rfl hki hin hun j h hj
  by_cases hji:j=i
  ·subst hji
   exact ⟨hjn,oi,v,hi,hy,H⟩
  ·obtain ⟨_,oj',vj,hoj,hyj,hrest⟩:=H.2 j (ready_mono hj hji)
   obtain ⟨hjun,oj,hoj2,hall⟩:=mem_ready.1 hj
   obtain rfl:oj'=oj:=Option.some.inj (hoj.symm.trans hoj2)
   have hno:∀ e ∈ oj'.after,Region.binds md e=true→e.on ≠ i:=fun e he hb heq=>by
    have h1:=hall e he hb
    rw [heq,getD_both hun] at h1
    cases h1
   obtain ⟨a1,a2,a3⟩:=Oper.apart_spec (hfree j oj' hoj hji hjun hno)
   have hyj':yldT P md ops CB m j oj' vj a:=by
    refine hyj.same ?_ ?_
    ·rw [execOp_put oj' (fun cs b=>hsel j oj' cs b hoj) a oi.dst v a1]
    ·rw [wanted_put oj' a oi.dst v a1]
   have hyi':yldT P md ops CB m i oi v (a.put oj'.dst vj):=by
    refine hy.same ?_ ?_
    ·exact execOp_put oi (fun cs b=>hsel i oi cs b hi) a oj'.dst vj a3
    ·exact wanted_put oi a oj'.dst vj a3
   refine ⟨hjn,oj',vj,hoj,hyj',ih (listed.setIfInBounds j true) (a.put oj'.dst vj) (inv.set hj hjn) (fun k ok hk hki hun' hno' => ?_) (ready_mono hr (Ne.symm hji)) hyi' ?_⟩
   ·refine hfree k ok hk hki ?_ hno'
    by_cases hjk:j=k
    ·subst hjk; exact hjun
    ·rw [getD_set_ne true hjk] at hun'; exact hun'
   ·rw [Array.setIfInBounds_comm _ _ hji, ← Act.put_comm a v vj a2]
    exact hrest
theorem anyT_lexS {k0 n:Nat} {Lq:Act→Prop} (hsel:Region.noSelect ops=true) (hs:n=ops.size∨(sinkS md ops k0 n=true∧treeB md ops n=true)) (hn:n≤ops.size) :
  ∀ (l:List Oper) (k:Nat) (a:Act),(∀ j,j < l.length→l[j]?=ops[k + j]?)→k0≤k→k + l.length=n→HeadInv md ops n (preA ops k)→lexS md ops l.length k=true→wpT P md ops CB m Lq k l a →
  anyT P md ops CB m n (fun listed' a'=>listed'=preA ops n∧Lq a') l.length (preA ops k) a:=by
 intro l
 induction l with
 | nil =>
  intro k a _ _ hk _ hB h
  obtain rfl:k=n:=by simpa using hk
  exact ⟨rfl,h⟩
 | cons o l ih =>
  intro k a hl hk0 hk inv hB h
  have h0:ops[k]?=some o:=by simpa using (hl 0 (by simp)).symm
  simp only [List.length_cons,lexS,Bool.and_eq_true] at hB
  obtain ⟨⟨hr,hf⟩,hB'⟩:=hB
  have hkn:k < n:=by simp only [List.length_cons] at hk; omega
  have hr':k ∈ Region.ready md ops (preA ops k):=by simpa using hr
  obtain ⟨v,hy,hK⟩:=h
  have hset:=preA_set (ops:=ops) k (by omega)
  refine anyT_firstS h0 (Region.noSelect_spec hsel) hs hk0 hkn (fun listed' a' hL j hj => ?_) l.length _ a inv (Region.free_spec h0 hf) hr' hy ?_
  ·obtain ⟨rfl,_⟩:=hL
   obtain ⟨hun,oj,hoj,_⟩:=mem_ready.1 hj
   rw [preA_getD n j (Array.getElem?_eq_some_iff.1 hoj).1] at hun
   simp at hun
   exact hun
  ·rw [hset]
   exact ih (k + 1) _ (fun j hj=>by have:=hl (j + 1) (by simp; omega); simpa [Nat.add_assoc,Nat.add_comm 1 j] using this) (by omega) (by simp only [List.length_cons] at hk; omega) (hset ▸ inv.set hr' hkn) hB' hK
def SegAt (P:Program) (ops:Array Oper) (Q':Exit→Act→World→Prop) (n:Nat) (a:Act) (w:World):Prop:=wpAny P .any ops Q' (ops.size - n) (preA ops n) a w
theorem seg_start {id:Nat} {Q:Exit→Act→World→Prop} {a:Act} {w:World} {l:List Oper} (hm:P.follows .mixedOrders=true) (h:SegAt P l.toArray Q 0 a w.drew):(Code.region id l.toArray true).wp P Q a w:=by
 refine wp_region_any hm ?_
 unfold SegAt at h
 rw [preA_zero,Nat.sub_zero] at h
 exact h
theorem seg_end {Q:Exit→Act→World→Prop} {a:Act} {w:World} (hr:(Region.ready .any ops (preA ops ops.size)).isEmpty=true) (h:Q .normal a w):SegAt P ops Q ops.size a w:=by
 unfold SegAt
 rw [Nat.sub_self]
 exact ⟨by simpa using hr,h⟩
theorem headInv_pre {k n:Nat} (hkn:k≤n) (hk:k≤ops.size) (hc:closedS md ops k=true):HeadInv md ops n (preA ops k):=by
 refine ⟨preA_size k,fun j oj hj hl e he hb => ?_,fun t ht hts=>by rw [preA_getD k t hts]; exact decide_eq_false (by omega)⟩
 have hjs:=(Array.getElem?_eq_some_iff.1 hj).1
 rw [preA_getD k j hjs] at hl
 have hjk:j < k:=of_decide_eq_true hl
 have h1:=List.all_eq_true.1 hc j (List.mem_range.2 hjk)
 rw [hj] at h1
 have h2:=Array.all_eq_true'.1 h1 e he
 simp only [hb,Bool.not_true,Bool.false_or,decide_eq_true_eq] at h2
 rw [preA_getD k e.on (by omega)]
 exact decide_eq_true h2
theorem seg_turn {Q':Exit→Act→World→Prop} {a:Act} {w:World} (CB:Bool→World→Prop) (m k n:Nat) (hkm:k≤m) (hB:segB .any ops k n=true) (hC:CB false w)
  (h:wpT P .any ops CB m (fun a'=>∀ w',CB (decide (m < n)) w'→SegAt P ops Q' n a' w') k ((ops.toList.drop k).take (n - k)) a):SegAt P ops Q' k a w:=by
 simp only [segB,Bool.and_eq_true,decide_eq_true_eq,Bool.or_eq_true] at hB
 obtain ⟨⟨⟨⟨⟨hsel,hkn⟩,hn⟩,hs⟩,hcl⟩,hlex⟩:=hB
 have hlen:((ops.toList.drop k).take (n - k)).length=n - k:=by simp; omega
 have inv0:=headInv_pre (n:=n) hkn (by omega) hcl
 have H:=anyT_lexS hsel hs hn _ k a (fun j hj=>by
  rw [hlen] at hj
  rw [List.getElem?_take_of_lt hj,List.getElem?_drop,Array.getElem?_toList]) (Nat.le_refl _) (by rw [hlen]; omega) inv0 (by rw [hlen]; exact hlex) h
 rw [hlen] at H
 have hgm:(preA ops k).getD m false=false:=by
  rcases Nat.lt_or_ge m ops.size with hm | hm
  ·rw [preA_getD k m hm]; exact decide_eq_false (by omega)
  ·exact preA_out k m hm false
 have:=any_of_anyT (Q':=Q') (g:=ops.size - n) (fun listed a' w' inv hCw hL=>by
  obtain ⟨rfl,hL⟩:=hL
  refine hL w' ?_
  rcases Nat.lt_or_ge m ops.size with hm | hm
  ·rw [preA_getD n m hm] at hCw; exact hCw
  ·rw [preA_out n m hm] at hCw
   rw [decide_eq_false (by omega:¬ m < n)]
   exact hCw) (n - k) (preA ops k) a w inv0 (by rw [hgm]; exact hC) H
 unfold SegAt
 rw [show ops.size - k=n - k + (ops.size - n) from by omega]
 exact this
theorem wpIn_to {C:World→Prop} {Q R:Act→Prop} (hQ:∀ a,Q a→R a):∀ {l:List Oper} {a:Act},wpIn P ops C Q l a→wpIn P ops C R l a:=by
 intro l
 induction l with
 | nil=>intro a h; exact hQ a h
 | cons o l ih=>intro a h; obtain ⟨v,h1,h2⟩:=h; exact ⟨v,h1,ih h2⟩
theorem wpT_of_in {C:World→Prop} {Q:Act→Prop}:∀ (l:List Oper) (i:Nat) (a:Act),i + l.length≤m→wpIn P ops C Q l a→wpT P md ops (fun _=>C) m Q i l a:=by
 intro l
 induction l with
 | nil=>intro i a _ h; exact h
 | cons o l ih =>
  intro i a hi h
  simp only [List.length_cons] at hi
  obtain ⟨v,h1,h2⟩:=h
  refine ⟨v, ?_,ih (i + 1) _ (by omega) h2⟩
  rcases h1 with ⟨hw,h1⟩ | ⟨hw,h1⟩
  ·exact .inl ⟨hw,by rw [if_neg (by omega)]; exact fun _ w _ hC=>h1 w hC⟩
  ·exact .inr ⟨by omega,hw,h1⟩
theorem seg_in {Q':Exit→Act→World→Prop} {a:Act} {w:World} {l:List Oper} (C:World→Prop) (k n:Nat) (hB:segB .any l.toArray k n=true) (hC:C w)
  (h:Nonempty (In C)→wpQuiet P l.toArray (fun w'=>∃ p:In C,w'=p.w) (fun a'=>∀ w',C w'→SegAt P l.toArray Q' n a' w') ((l.drop k).take (n - k)) a):SegAt P l.toArray Q' k a w:=by
 have hn:n≤l.length∧k≤n:=by
  simp only [segB,Bool.and_eq_true,decide_eq_true_eq] at hB
  have:=hB.1.1.1.2
  simp at this
  exact ⟨this,hB.1.1.1.1.2⟩
 have h1:=h ⟨⟨w,hC⟩⟩
 have h2:=wpIn_of_quiet (P:=P) (ops:=l.toArray) (C:=fun w'=>∃ p:In C,w'=p.w) (Q:=fun a'=>∀ w',C w'→SegAt P l.toArray Q' n a' w') (r:=[]) _ a h1
 rw [List.append_nil] at h2
 refine seg_turn (fun _ w'=>∃ p:In C,w'=p.w) n k n hn.2 hB ⟨⟨w,hC⟩,rfl⟩ ?_
 refine wpT_of_in _ _ _ ?_ (wpIn_to (fun a' g w' ⟨p,hp⟩=>by subst hp; exact g _ p.h) h2)
 simp
 omega
theorem seg_enter {Q':Exit→Act→World→Prop} {a:Act} {w:World} (n:Nat) {o:Oper} (ho:ops[n]?=some o) (hr:Region.ready .any ops (preA ops n)=[n]) (hw:Region.wanted o (yielded ops a.tmps)=true) {f:FuncId} {args:Array Value}
  (he:(execOp a.eval o).run P w = .ok (.enter f args) w) (hc:Calls P f args w fun e w'=>∃ v,e = .returned v∧SegAt P ops Q' (n + 1) (a.put o.dst v) w'):SegAt P ops Q' n a w:=by
 have hns:=(Array.getElem?_eq_some_iff.1 ho).1
 unfold SegAt
 rw [show ops.size - n=(ops.size - (n + 1)) + 1 from by omega]
 refine ⟨fun h0=>(by rw [hr] at h0; cases h0),fun i hi => ?_⟩
 rw [hr] at hi
 obtain rfl:i=n:=by simpa using hi
 unfold wpOp
 simp only [ho,hw,if_true]
 left
 unfold Oper.wp
 rw [he]
 simp only [Oper.upon]
 refine hc.mono ?_
 rintro e w' ⟨v,rfl,h⟩
 rw [preA_set i hns]
 exact h
end
end Go.Proofs.YtakaalldbnklcaaGreat
namespace Go.Proofs.YtakaalldbnklcaaGreat.In
open Go.RowKit Go.WideShapes Go.ChangeShapes Go.ChangeAt Go.Deep
set_option linter.unusedVariables false
def toE (q:(Int × Int) × Ent):Ent:=⟨q.1.1,q.1.2,q.2.t,q.2.c,q.2.b⟩
theorem toE_key (q:(Int × Int) × Ent):keyE (toE q)=q.1:=rfl
theorem toE_of {p:Int × Int} {v:Ent} (h:keyE v=p):toE (p,v)=v:=by
 subst h; rfl
structure RelM (m:List ((Int × Int) × Ent)) (r:List Ent):Prop where
 ok:MapOk m
 rel:RelK keyE ltP toE m r
theorem RelM.nil:RelM [] []:=⟨(fun p hp=>by cases hp),RelK.nil toE_key⟩
theorem RelM.toE_map {m:List ((Int × Int) × Ent)} {r:List Ent} (h:RelM m r):m.map toE=m.map (·.2):=List.map_congr_left fun q hq=>toE_of (h.ok q hq).1
theorem RelM.here {m:List ((Int × Int) × Ent)} {r:List Ent} (h:RelM m r) (p:Int × Int) :
  (∃ v,mget m p=some v∧keyE v=p∧r[posK keyE ltP r p]?=some v∧hasK r p=true∧entR r p=v)∨(mget m p=none∧hasK r p=false∧entR r p=noEnt):=by
 rcases h.rel.at_ linP p with ⟨v,h1,h2⟩ | ⟨h1,h2⟩
 ·left
  have hk:=(h.ok _ (mget_mem h1)).1
  simp only at hk
  rw [toE_of hk] at h2
  have hh:hasK r p=true:=by
   unfold hasK
   rw [h2]
   simp only [keyE] at hk
   rw [← hk]; simp
  obtain ⟨y,hy,_,he⟩:=hasK_true hh
  rw [h2] at hy
  injection hy with hy
  subst hy
  exact ⟨v,h1,hk,h2,hh,he⟩
 ·right
  have hh:hasK r p=false:=by
   cases hc:hasK r p with
   | false=>rfl
   | true =>
    obtain ⟨y,hy,hky,_⟩:=hasK_true hc
    exact absurd hky (h2 y hy)
  exact ⟨h1,hh,by unfold entR; rw [hh]; rfl⟩
theorem RelM.ent {m:List ((Int × Int) × Ent)} {r:List Ent} (h:RelM m r) (p:Int × Int):entR r p=entAt m p:=by
 unfold entAt
 rcases h.here p with ⟨v,h1,_,_,_,h2⟩ | ⟨h1,_,h2⟩
 ·rw [h1,h2]; rfl
 ·rw [h1,h2]; rfl
theorem RelM.keep {m:List ((Int × Int) × Ent)} {r:List Ent} (h:RelM m r) (o s t:Int) (u:Bool) (c:Int):RelM (keepM m o s t u c) (keepL r o s t u c):=by
 refine ⟨mapOk_keep h.ok o s t u c, ?_⟩
 have hE:=h.ent (o,s)
 unfold keepM keepL
 rw [hE]
 split
 ·have hke:∀ e,keyE (keepE e o s t u c)=(o,s):=fun e=>by unfold keepE; split <;> rfl
  rcases h.here (o,s) with ⟨v,h1,h2,h3,h4,h5⟩ | ⟨h1,h4,h5⟩
  ·rw [if_pos h4]
   have:=h.rel.upd (p:=(o,s)) (keepE (entAt m (o,s)) o s t u c) h1
   rw [toE_of (hke _),updK_set linP h.rel.sorted h3 (by rw [hke]; exact h2)] at this
   exact this
  ·rw [h4,if_neg (by decide)]
   have:=h.rel.ins linP (p:=(o,s)) (keepE (entAt m (o,s)) o s t u c) h1
   rw [toE_of (hke _)] at this
   unfold insK at this
   rw [hke, ← hE,h5] at this
   rw [← hE,h5]
   exact this
 ·exact h.rel
theorem RelM.list {m:List ((Int × Int) × Ent)} {r l:List Ent} (h:RelM m r) (hp:l.Perm (m.map (·.2))) (hs:l.Pairwise (fun a b=>ltE b a=false)):l=r:=by
 refine h.rel.unique' linP (by rw [h.toE_map]; exact hp) (hs.imp ?_)
 intro a b hab
 rw [ltE_ltP] at hab
 exact hab
theorem RelM.len {m:List ((Int × Int) × Ent)} {r:List Ent} (h:RelM m r):r.length=m.length:=h.rel.len
end Go.Proofs.YtakaalldbnklcaaGreat.In
namespace Go.Proofs.YtakaalldbnklcaaGreat.In
open Go.RowKit Go.WideShapes
set_option linter.unusedVariables false
theorem sortsEnt:SortsAt Tryz.prog 94 (.func (.func 95) #[] #[]) enE5 5 ltE:=by
 refine ⟨fun blk off cap d w hH hb hsz => ?_,fun p cap w => ?_⟩
 ·have eg:∀ args w,(callFunc 95 args).run Tryz.prog w = .ok (.enter 95 args) w:=enters_of Tryz.func95 (by kernel_rfl) rfl
  exact AnyQ.slices_SortFunc Tryz.sortEnt 5 Tryz.isAgg170 Tryz.sizeOf170 enE5 enE5_len enE5_one cfE swoE 95 #[] blk off cap d w eg (fun _ _ _ _ x y=>order_any x y _) hH hb hsz
 ·exact AnyF.slices_SortFunc_none Tryz.sortEnt p cap _ w
end Go.Proofs.YtakaalldbnklcaaGreat.In
namespace Go.Proofs.YtakaalldbnklcaaGreat
open Go.RowKit
set_option linter.unusedVariables false
def ssaLooks (base:Nat) (o:Oper):List Nat :=
 (o.op.operands.toList.filterMap fun | .tmp t=>some t | _=>none)++(match o.guard with | some (g,_)=>[base + g] | none=>[])
def ssaOp (md:Region.Mode) (base n i:Nat) (o:Oper):Bool :=
 (match o.dst with | some d=>decide (d=base + i) | none=>false) &&
 (ssaLooks base o).all (fun t=>decide (t < base) || decide (base + n≤t) || (decide (t < base + i) && o.after.any (fun e=>Region.binds md e && decide (base + e.on=t)))) &&
 o.after.all (fun e => !Region.binds md e || decide (e.on < i)) &&
 (match o.op with | .select _ _=>false | _=>true)
def ssaL (md:Region.Mode) (base n:Nat):Nat→List Oper→Bool
 | _,[]=>true
 | i,o :: l=>ssaOp md base n i o && ssaL md base n (i + 1) l
variable {md:Region.Mode} {base n:Nat}
theorem ssaL_at:∀ {l:List Oper} {i:Nat},ssaL md base n i l=true→∀ j o,l[j]?=some o→ssaOp md base n (i + j) o=true
 | [],_,_,j,o,h=>by simp at h
 | o :: l,i,hl,j,o',h=>by
  simp only [ssaL,Bool.and_eq_true] at hl
  cases j with
  | zero =>
   simp at h
   subst h
   exact hl.1
  | succ j =>
   have:=ssaL_at hl.2 j o' (by simpa using h)
   rw [show i + (j + 1)=i + 1 + j from by omega]
   exact this
section
variable {l:List Oper} (h:ssaL md base l.length 0 l=true)
include h
theorem ssa_op {j:Nat} {o:Oper} (ho:l.toArray[j]?=some o):ssaOp md base l.length j o=true:=by
 have:=ssaL_at h j o (by simpa using ho)
 rwa [Nat.zero_add] at this
theorem ssa_dst {j:Nat} {o:Oper} (ho:l.toArray[j]?=some o):o.dst=some (base + j):=by
 have:=ssa_op h ho
 unfold ssaOp at this
 simp only [Bool.and_eq_true] at this
 have h1:=this.1.1.1
 cases hd:o.dst with
 | none=>rw [hd] at h1; cases h1
 | some d=>rw [hd] at h1; simp at h1; rw [h1]
theorem ssa_looks {j:Nat} {o:Oper} (ho:l.toArray[j]?=some o) {t:Nat} (ht:t ∈ o.looksAt l.toArray):t ∈ ssaLooks base o:=by
 unfold Oper.looksAt at ht
 unfold ssaLooks
 rw [List.mem_append] at ht ⊢
 rcases ht with ht | ht
 ·exact .inl ht
 ·right
  cases hg:o.guard with
  | none=>rw [hg] at ht; simp at ht
  | some g =>
   obtain ⟨g,b⟩:=g
   rw [hg] at ht
   simp only at ht ⊢
   cases hog:l.toArray[g]? with
   | none=>rw [hog] at ht; simp at ht
   | some og =>
    rw [hog] at ht
    simp only [Option.bind_some,ssa_dst h hog] at ht
    simp at ht
    simp [ht]
theorem ssa_look {j:Nat} {o:Oper} (ho:l.toArray[j]?=some o) {k:Nat} (hk:k < l.length) (ht:base + k ∈ o.looksAt l.toArray):k < j∧o.after.any (fun e=>Region.binds md e && e.on == k)=true:=by
 have h1:=ssa_op h ho
 unfold ssaOp at h1
 simp only [Bool.and_eq_true] at h1
 have h2:=List.all_eq_true.1 h1.1.1.2 _ (ssa_looks h ho ht)
 simp only [Bool.or_eq_true,decide_eq_true_eq,Bool.and_eq_true] at h2
 rcases h2 with (h2 | h2) | ⟨h2,h3⟩
 ·omega
 ·omega
 ·refine ⟨by omega, ?_⟩
  rw [Array.any_eq_true] at h3 ⊢
  obtain ⟨i,hi,h4⟩:=h3
  refine ⟨i,hi, ?_⟩
  simp only [Bool.and_eq_true,decide_eq_true_eq] at h4
  simp only [Bool.and_eq_true,beq_iff_eq]
  exact ⟨h4.1,by omega⟩
theorem ssa_lex:Region.lexB md l.toArray=true:=by
 have hns:Region.noSelect l.toArray=true:=by
  unfold Region.noSelect
  rw [Array.all_eq_true]
  intro i hi
  have h1:=ssa_op h (Array.getElem?_eq_getElem hi)
  unfold ssaOp at h1
  simp only [Bool.and_eq_true] at h1
  exact h1.2
 unfold Region.lexB
 rw [hns,Bool.true_and, ← preA_zero]
 have key:∀ fuel k,k + fuel=l.toArray.size→Region.lexFrom md l.toArray fuel k (preA l.toArray k)=true:=by
  intro fuel
  induction fuel with
  | zero =>
   intro k hk
   unfold Region.lexFrom Region.ready
   rw [List.isEmpty_iff,List.filter_eq_nil_iff]
   intro i hi
   have hi':=List.mem_range.1 hi
   rw [preA_getD k i hi']
   simp [show i < k from by omega]
  | succ fuel ih =>
   intro k hk
   have hkn:k < l.toArray.size:=by omega
   have hok:=Array.getElem?_eq_getElem hkn
   have h1:=ssa_op h hok
   unfold Region.lexFrom
   rw [preA_set k hkn,ih (k + 1) (by omega),Bool.and_true,Bool.and_eq_true]
   constructor
   ·rw [List.contains_iff_mem]
    unfold Region.ready
    rw [List.mem_filter]
    refine ⟨List.mem_range.2 hkn, ?_⟩
    rw [preA_getD k k hkn,hok]
    simp only [Nat.lt_irrefl,decide_false,Bool.not_false,Bool.true_and,Option.map_some,Option.getD_some]
    unfold ssaOp at h1
    simp only [Bool.and_eq_true] at h1
    have h2:=h1.1.2
    rw [Array.all_eq_true] at h2 ⊢
    intro i hi
    have h3:=h2 i hi
    simp only [Bool.or_eq_true,Bool.not_eq_true',decide_eq_true_eq] at h3 ⊢
    rcases h3 with h3 | h3
    ·exact .inl h3
    ·right
     rw [preA_getD k _ (by omega)]
     exact decide_eq_true h3
   ·unfold Region.free
    rw [hok]
    simp only
    rw [List.all_eq_true]
    intro j hj
    have hj':=List.mem_range.1 hj
    have hoj:=Array.getElem?_eq_getElem hj'
    rw [preA_getD k j hj',hoj]
    simp only [Bool.or_eq_true,beq_iff_eq,decide_eq_true_eq]
    by_cases hjk:j=k
    ·exact .inl (.inl hjk)
    ·by_cases hlt:j < k
     ·exact .inl (.inr hlt)
     ·right
      have hd1:=ssa_dst h hok
      have hd2:=ssa_dst h hoj
      by_cases hlook:base + k ∈ (l.toArray[j]'hj').looksAt l.toArray
      ·exact .inl (ssa_look h hoj (by simpa using hkn) hlook).2
      ·right
       unfold Oper.apart
       rw [hd1,hd2]
       simp only [Bool.and_eq_true,Bool.not_eq_true',bne_iff_ne,ne_eq,Option.some.injEq]
       refine ⟨⟨?_,by omega⟩, ?_⟩
       ·rw [← Bool.not_eq_true,List.contains_iff_mem]
        exact hlook
       ·rw [← Bool.not_eq_true,List.contains_iff_mem]
        intro hin
        have:=(ssa_look h hok (by simpa using hj') hin).1
        omega
 exact key _ 0 (by simp)
end
end Go.Proofs.YtakaalldbnklcaaGreat
