/-
  The statement DeskOnce: for every input the law returns true. No condition.
  A region that draws its order, and in which several operations make memory: each yields one of many values (where its block lies hangs on the order); what each has made is known at the end.
  Layer 20: the walk of DeskOnce.
-/
import Derived.Test.YtakaalldbnklcaaGreatQd5
import Derived.Test.YtakaalldbnklcaaGreatQd23
import Derived.Test.YtakaalldbnklcaaGreatQd24
namespace Go.Proofs.YtakaalldbnklcaaGreat
open Go.RowKit
set_option linter.unusedVariables false
section
variable {P:Program} {ops:Array Oper} {md:Region.Mode} {C:World→Prop} {V:Nat→Option Value}
def can (P:Program) (C:World→Prop) (o:Oper) (a:Act) (u:Value) (w':World):Prop:=∃ w0 w1,C w0∧(execOp a.eval o).run P w0 = .ok (.value u) w1∧Below w1.heap.size w1 w'
def gets (P:Program) (C:World→Prop) (V:Nat→Option Value) (i:Nat) (o:Oper) (a:Act) (u:Value) (w':World):Prop :=
 match V i with
 | none=>can P C o a u w'
 | some v=>u=v
def yldM (P:Program) (ops:Array Oper) (C:World→Prop) (V:Nat→Option Value) (i:Nat) (o:Oper) (a:Act):Prop :=
 Region.wanted o (yielded ops a.tmps)=true∧match V i with
  | none=>∀ w,C w→∃ u w',(execOp a.eval o).run P w = .ok (.value u) w'∧C w'∧Below w.heap.size w w'
  | some v=>∀ w,C w→∃ f args,(execOp a.eval o).run P w = .ok (.enter f args) w∧Calls P f args w fun e w''=>e = .returned v∧C w''∧Below w.heap.size w w''
theorem gets.same {i:Nat} {o:Oper} {a a':Act} (he:execOp a'.eval o=execOp a.eval o):gets P C V i o a'=gets P C V i o a:=by
 funext u w'
 unfold gets can
 rw [he]
theorem yldM.same {i:Nat} {o:Oper} {a a':Act} (h:yldM P ops C V i o a) (he:execOp a'.eval o=execOp a.eval o) (hw:Region.wanted o (yielded ops a'.tmps)=Region.wanted o (yielded ops a.tmps)):yldM P ops C V i o a':=by
 unfold yldM at *
 rw [he,hw]
 exact h
theorem gets.stable {i:Nat} {o:Oper} {a:Act} {u:Value} {w w':World} (h:gets P C V i o a u w) (hb:Below w.heap.size w w'):gets P C V i o a u w':=by
 unfold gets at *
 split at h
 ·obtain ⟨w0,w1,h1,h2,h3⟩:=h
  exact ⟨w0,w1,h1,h2,bthen h3 hb⟩
 ·exact h
theorem yldM.some {i:Nat} {o:Oper} {a:Act} (h:yldM P ops C V i o a) (hC:∃ w,C w):∃ u w',gets P C V i o a u w':=by
 unfold yldM at h
 unfold gets
 obtain ⟨w,hw⟩:=hC
 cases hv:V i with
 | none =>
  simp only [hv] at h ⊢
  obtain ⟨u,w',h1,h2,h3⟩:=h.2 w hw
  exact ⟨u,w',w,w',hw,h1,Below.refl _ _⟩
 | some v=>exact ⟨v,w,rfl⟩
def anyM (P:Program) (md:Region.Mode) (ops:Array Oper) (C:World→Prop) (V:Nat→Option Value) (n:Nat) (L:Array Bool→Act→(World→Prop)→Prop):Nat→(World→Prop)→Array Bool→Act→Prop
 | 0,D,listed,a=>L listed a D
 | f + 1,D,listed,a=>Region.ready md ops listed ≠ []∧∀ i ∈ Region.ready md ops listed,i < n∧∃ o,ops[i]?=some o∧yldM P ops C V i o a∧∀ u,(∃ w',gets P C V i o a u w')→anyM P md ops C V n L f (fun w=>D w∧gets P C V i o a u w) (listed.setIfInBounds i true) (a.put o.dst u)
theorem any_of_anyM {n g:Nat} {L:Array Bool→Act→(World→Prop)→Prop} {Q':Exit→Act→World→Prop} (hL:∀ listed a D w,C w→D w→L listed a D→wpAny P md ops Q' g listed a w) :
  ∀ (f:Nat) (D:World→Prop) (listed:Array Bool) (a:Act) (w:World),C w→D w→(∀ w w',D w→Below w.heap.size w w'→D w')→anyM P md ops C V n L f D listed a→wpAny P md ops Q' (f + g) listed a w:=by
 intro f
 induction f with
 | zero=>intro D listed a w hC hD _ h; rw [Nat.zero_add]; exact hL _ _ _ _ hC hD h
 | succ f ih =>
  intro D listed a w hC hD hst h
  rw [show f + 1 + g=(f + g) + 1 from by omega]
  refine ⟨fun h0=>absurd h0 h.1,fun i hi => ?_⟩
  obtain ⟨_,o,h1,h2,h3⟩:=h.2 i hi
  have next:∀ u w',C w'→Below w.heap.size w w'→gets P C V i o a u w'→wpAny P md ops Q' (f + g) (listed.setIfInBounds i true) (a.put o.dst u) w':=fun u w' hC' hb hg =>
   ih _ _ _ _ hC' ⟨hst _ _ hD hb,hg⟩ (fun w1 w2 hh hb'=>⟨hst _ _ hh.1 hb',hh.2.stable hb'⟩) (h3 u ⟨w',hg⟩)
  unfold wpOp
  simp only [h1]
  unfold yldM at h2
  obtain ⟨hw,h2⟩:=h2
  simp only [hw,if_true]
  left
  unfold Oper.wp
  cases hv:V i with
  | none =>
   simp only [hv] at h2
   obtain ⟨u,w',hr,hC',hb⟩:=h2 w hC
   rw [hr]
   simp only [Oper.upon]
   exact next u w' hC' hb (by unfold gets; rw [hv]; exact ⟨w,w',hC,hr,Below.refl _ _⟩)
  | some v =>
   simp only [hv] at h2
   obtain ⟨f',args,hr,hc⟩:=h2 w hC
   rw [hr]
   simp only [Oper.upon]
   exact hc.mono fun e w'' ⟨he,hC',hb⟩=>by subst he; exact next v w'' hC' hb (by unfold gets; rw [hv])
theorem anyM_first {n i:Nat} {oi:Oper} {L:Array Bool→Act→(World→Prop)→Prop} (hCn:∃ w,C w) (hi:ops[i]?=some oi) (hsel:∀ (j:Nat) (o:Oper) cs b,ops[j]?=some o→o.op ≠ .select cs b)
  (hs:Region.sinkB md ops n=true) (hc:Region.chainB md ops n=true) (hn:n < ops.size) (hin:i < n) (hdone:∀ listed a D,L listed a D→∀ j ∈ Region.ready md ops listed,n≤j) :
  ∀ (f:Nat) (D:World→Prop) (listed:Array Bool) (a:Act),HeadInv md ops n listed →
   (∀ j oj,ops[j]?=some oj→j ≠ i→listed.getD j true=false→(∀ e ∈ oj.after,Region.binds md e=true→e.on ≠ i)→oi.apart ops oj=true) →
   i ∈ Region.ready md ops listed→yldM P ops C V i oi a→(∀ u,(∃ w',gets P C V i oi a u w')→anyM P md ops C V n L f (fun w=>D w∧gets P C V i oi a u w) (listed.setIfInBounds i true) (a.put oi.dst u))→anyM P md ops C V n L (f + 1) D listed a:=by
 intro f
 induction f with
 | zero =>
  intro D listed a inv _ hr hy H
  have hun:=(mem_ready.1 hr).1
  refine ⟨fun h=>(by rw [h] at hr; cases hr),fun j hj => ?_⟩
  have hjn:j < n:=Nat.lt_of_not_le fun h=>tail_waits hs hc hn inv _ i rfl hin hun j h hj
  by_cases hji:j=i
  ·subst hji
   exact ⟨hjn,oi,hi,hy,H⟩
  ·obtain ⟨u0,hu0⟩:=hy.some hCn
   have:=hdone _ _ _ (H u0 hu0) j (ready_mono hj hji)
   omega
 | succ f ih =>
  intro D listed a inv hfree hr hy H
  have hun:=(mem_ready.1 hr).1
  refine ⟨fun h=>(by rw [h] at hr; cases hr),fun j hj => ?_⟩
  have hjn:j < n:=Nat.lt_of_not_le fun h=>tail_waits hs hc hn inv _ i rfl hin hun j h hj
  by_cases hji:j=i
  ·subst hji
   exact ⟨hjn,oi,hi,hy,H⟩
  ·obtain ⟨hjun,oj,hoj,hall⟩:=mem_ready.1 hj
   have hno:∀ e ∈ oj.after,Region.binds md e=true→e.on ≠ i:=fun e he hb heq=>by
    have h1:=hall e he hb
    rw [heq,getD_both hun] at h1
    cases h1
   obtain ⟨a1,a2,a3⟩:=Oper.apart_spec (hfree j oj hoj hji hjun hno)
   have ej:∀ u,execOp (a.put oi.dst u).eval oj=execOp a.eval oj:=fun u=>execOp_put oj (fun cs b=>hsel j oj cs b hoj) a oi.dst u a1
   have ei:∀ u,execOp (a.put oj.dst u).eval oi=execOp a.eval oi:=fun u=>execOp_put oi (fun cs b=>hsel i oi cs b hi) a oj.dst u a3
   have hyj:yldM P ops C V j oj a:=by
    obtain ⟨u0,hu0⟩:=hy.some hCn
    obtain ⟨_,oj',hoj',hyj,_⟩:=(H u0 hu0).2 j (ready_mono hj hji)
    obtain rfl:oj'=oj:=Option.some.inj (hoj'.symm.trans hoj)
    exact hyj.same (ej u0).symm (wanted_put oj' a oi.dst u0 a1).symm
   refine ⟨hjn,oj,hoj,hyj,fun uj huj => ?_⟩
   refine ih _ (listed.setIfInBounds j true) (a.put oj.dst uj) (inv.set hj hjn) (fun k ok hk hki hun' hno' => ?_) (ready_mono hr (Ne.symm hji)) (hy.same (ei uj) (wanted_put oi a oj.dst uj a3)) (fun ui hui => ?_)
   ·refine hfree k ok hk hki ?_ hno'
    by_cases hjk:j=k
    ·subst hjk; exact hjun
    ·rw [getD_set_ne true hjk] at hun'; exact hun'
   ·rw [gets.same (ei uj)] at hui
    obtain ⟨_,oj',hoj',_,hrest⟩:=(H ui hui).2 j (ready_mono hj hji)
    obtain rfl:oj'=oj:=Option.some.inj (hoj'.symm.trans hoj)
    have h1:=hrest uj (by rw [gets.same (ej ui)]; exact huj)
    rw [gets.same (ej ui)] at h1
    have e1:(fun w=>(D w∧gets P C V i oi a ui w)∧gets P C V j oj' a uj w)=(fun w=>(D w∧gets P C V j oj' a uj w)∧gets P C V i oi (a.put oj'.dst uj) ui w):=by
     funext w
     rw [gets.same (ei uj)]
     exact propext ⟨fun ⟨⟨x,y⟩,z⟩=>⟨⟨x,z⟩,y⟩,fun ⟨⟨x,y⟩,z⟩=>⟨⟨x,z⟩,y⟩⟩
    rw [e1] at h1
    rw [Array.setIfInBounds_comm _ _ hji, ← Act.put_comm a ui uj a2]
    exact h1
def wpM (P:Program) (ops:Array Oper) (C:World→Prop) (V:Nat→Option Value) (Q:Act→(World→Prop)→Prop):Nat→List Oper→(World→Prop)→Act→Prop
 | _,[],D,a=>Q a D
 | i,o :: rest,D,a=>yldM P ops C V i o a∧∀ u,(∃ w',gets P C V i o a u w')→wpM P ops C V Q (i + 1) rest (fun w=>D w∧gets P C V i o a u w) (a.put o.dst u)
theorem anyM_lex {n g:Nat} {Lq:Act→(World→Prop)→Prop} (hCn:∃ w,C w) (hsel:Region.noSelect ops=true) (hs:Region.sinkB md ops n=true) (hc:Region.chainB md ops n=true) (hn:n < ops.size) :
  ∀ (l:List Oper) (k:Nat) (D:World→Prop) (listed:Array Bool) (a:Act),(∀ j,j < l.length→l[j]?=ops[k + j]?)→k + l.length=n→HeadInv md ops n listed→Region.lexHead md ops g l.length k listed=true→wpM P ops C V Lq k l D a →
  anyM P md ops C V n (fun listed' a' D'=>Region.seqB md ops g n listed'=true∧Lq a' D') l.length D listed a:=by
 intro l
 induction l with
 | nil =>
  intro k D listed a _ hk _ hB h
  obtain rfl:k=n:=by simpa using hk
  exact ⟨by simpa [Region.lexHead] using hB,h⟩
 | cons o l ih =>
  intro k D listed a hl hk inv hB h
  have h0:ops[k]?=some o:=by simpa using (hl 0 (by simp)).symm
  simp only [List.length_cons,Region.lexHead,Bool.and_eq_true] at hB
  obtain ⟨⟨hr,hf⟩,hB'⟩:=hB
  have hkn:k < n:=by simp only [List.length_cons] at hk; omega
  have hr':k ∈ Region.ready md ops listed:=by simpa using hr
  obtain ⟨hy,hK⟩:=h
  exact anyM_first hCn h0 (Region.noSelect_spec hsel) hs hc hn hkn (fun listed' a' D' hL=>seqB_ready hL.1) l.length D listed a inv (Region.free_spec h0 hf) hr' hy
   (fun u hu=>ih (k + 1) _ _ _ (fun j hj=>by have:=hl (j + 1) (by simp; omega); simpa [Nat.add_assoc,Nat.add_comm 1 j] using this) (by simp only [List.length_cons] at hk; omega) (inv.set hr' hkn) hB' (hK u hu))
theorem wp_region_many {id:Nat} {Q:Exit→Act→World→Prop} {a:Act} {w:World} {l:List Oper} (C:World→Prop) (V:Nat→Option Value) (n:Nat) (hm:P.follows .mixedOrders=true) (hB:Region.lexTailB .any l.toArray n=true) (hC:C w.drew)
  (h:wpM P l.toArray C V (fun a' D=>∀ w',C w'→D w'→wpList P l.toArray Q (l.drop n) a' w') 0 (l.take n) (fun _=>True) a):(Code.region id l.toArray true).wp P Q a w:=by
 simp only [Region.lexTailB,Bool.and_eq_true,decide_eq_true_eq] at hB
 obtain ⟨⟨⟨⟨hsel,hn⟩,hs⟩,hc⟩,hlex⟩:=hB
 have hn':n < l.length:=by simpa using hn
 have htl:(l.take n).length=n:=by simp; omega
 have hdl:(l.drop n).length=l.toArray.size - n:=by simp
 have inv0:HeadInv .any l.toArray n (Array.replicate l.toArray.size false) :=
  ⟨by simp,fun j oj _ hl=>(by rw [getD_replicate_false] at hl; cases hl),fun t _ ht=>getD_in (by simpa using ht) (getD_replicate_false _ _)⟩
 have H:=anyM_lex (md:=.any) (g:=l.toArray.size - n) ⟨_,hC⟩ hsel hs hc hn (l.take n) 0 _ _ a (fun j hj=>by
  have hj':j < n:=by rw [htl] at hj; exact hj
  simp [hj']) (by simpa using htl) inv0 (by rw [htl]; exact hlex) h
 refine wp_region_any hm ?_
 have:=any_of_anyM (Q':=Q) (g:=l.toArray.size - n) (fun listed a' D' w' hw' hD' hL=>by
  have:=wpAny_of_seq (md:=.any) (Q':=Q) (l.drop n) n listed a' w' (fun j=>by simp [List.getElem?_drop]) (by rw [hdl]; exact hL.1) (hL.2 _ hw' hD')
  rwa [hdl] at this) _ _ _ _ _ hC trivial (fun _ _ h _=>h) H
 rw [htl,show n + (l.toArray.size - n)=l.toArray.size from by omega] at this
 exact this
theorem wpM_mono {Q:Act→(World→Prop)→Prop} (hQ:∀ a D D',(∀ w,D' w→D w)→Q a D→Q a D'):∀ (l:List Oper) (i:Nat) (D D':World→Prop) (a:Act),(∀ w,D' w→D w)→wpM P ops C V Q i l D a→wpM P ops C V Q i l D' a:=by
 intro l
 induction l with
 | nil=>intro i D D' a hD h; exact hQ a D D' hD h
 | cons o l ih=>intro i D D' a hD h; exact ⟨h.1,fun u hu=>ih _ _ _ _ (fun w hw=>⟨hD w hw.1,hw.2⟩) (h.2 u hu)⟩
theorem wpM_nil {Q:Act→(World→Prop)→Prop} {D:World→Prop} {a:Act} {i:Nat} (h:Q a D):wpM P ops C V Q i [] D a:=h
theorem wpM_one {Q:Act→(World→Prop)→Prop} (hQ:∀ a D D',(∀ w,D' w→D w)→Q a D→Q a D') {D:World→Prop} {a:Act} {o:Oper} {rest:List Oper} {i:Nat} (hv:V i=none) (hw:Region.wanted o (yielded ops a.tmps)=true) (v:Value) (h:∀ w,C w→(execOp a.eval o).run P w = .ok (.value v) w)
  (hK:wpM P ops C V Q (i + 1) rest D (a.put o.dst v)):wpM P ops C V Q i (o :: rest) D a:=by
 refine ⟨⟨hw, ?_⟩,fun u hu => ?_⟩
 ·rw [hv]
  exact fun w hC=>⟨v,w,h w hC,hC,Below.refl _ _⟩
 ·unfold gets at hu
  rw [hv] at hu
  obtain ⟨w',w0,w1,h1,h2,_⟩:=hu
  rw [h w0 h1] at h2
  simp only [Result.ok.injEq,Next.value.injEq] at h2
  rw [← h2.1]
  exact wpM_mono hQ _ _ _ _ _ (fun w hw=>hw.1) hK
theorem wpM_call {Q:Act→(World→Prop)→Prop} (hQ:∀ a D D',(∀ w,D' w→D w)→Q a D→Q a D') {D:World→Prop} {a:Act} {o:Oper} {rest:List Oper} {i:Nat} {v:Value} (hv:V i=some v) (hw:Region.wanted o (yielded ops a.tmps)=true) (h:∀ w,C w→∃ f args,(execOp a.eval o).run P w = .ok (.enter f args) w∧Calls P f args w fun e w''=>e = .returned v∧C w''∧Below w.heap.size w w'')
  (hK:wpM P ops C V Q (i + 1) rest D (a.put o.dst v)):wpM P ops C V Q i (o :: rest) D a:=by
 refine ⟨⟨hw, ?_⟩,fun u hu => ?_⟩
 ·rw [hv]; exact h
 ·unfold gets at hu
  rw [hv] at hu
  obtain ⟨_,rfl⟩:=hu
  exact wpM_mono hQ _ _ _ _ _ (fun w hw=>hw.1) hK
theorem wpM_many {Q:Act→(World→Prop)→Prop} (hQ:∀ a D D',(∀ w,D' w→D w)→Q a D→Q a D') {D:World→Prop} {a:Act} {o:Oper} {rest:List Oper} {i:Nat} (hv:V i=none) (hw:Region.wanted o (yielded ops a.tmps)=true) (R:Value→World→Prop) (hR:∀ u w w',R u w→Below w.heap.size w w'→R u w')
  (h:∀ w,C w→∃ u w',(execOp a.eval o).run P w = .ok (.value u) w'∧C w'∧Below w.heap.size w w'∧R u w') (hK:∀ u,(∃ w,R u w)→wpM P ops C V Q (i + 1) rest (fun w=>D w∧R u w) (a.put o.dst u)):wpM P ops C V Q i (o :: rest) D a:=by
 refine ⟨⟨hw, ?_⟩,fun u hu => ?_⟩
 ·rw [hv]
  exact fun w hC=>by obtain ⟨u,w',h1,h2,h3,_⟩:=h w hC; exact ⟨u,w',h1,h2,h3⟩
 ·unfold gets at hu ⊢
  rw [hv] at hu
  have key:∀ w',can P C o a u w'→R u w':=fun w' ⟨w0,w1,h1,h2,h3⟩=>by
   obtain ⟨u',w2,g1,_,_,g4⟩:=h w0 h1
   rw [h2] at g1
   simp only [Result.ok.injEq,Next.value.injEq] at g1
   obtain ⟨rfl,rfl⟩:=g1
   exact hR _ _ _ g4 h3
  obtain ⟨w',hu⟩:=hu
  refine wpM_mono hQ _ _ _ _ _ (fun w hw=>⟨hw.1, ?_⟩) (hK u ⟨w',key w' hu⟩)
  have:=hw.2
  simp only [hv] at this
  exact key w this
theorem wpM_of_quiet {Q:Act→(World→Prop)→Prop} (hQ:∀ a D D',(∀ w,D' w→D w)→Q a D→Q a D') (hCn:∃ w,C w) {D:World→Prop} {r:List Oper}:∀ (l:List Oper) (i:Nat) (a:Act),l.all (fun o=>plainB o.op && o.guard.isNone)=true→(∀ j,j < l.length→V (i + j)=none)→wpQuiet P ops (fun w=>∃ p:In C,w=p.w) (wpM P ops C V Q (i + l.length) r D) l a→wpM P ops C V Q i (l++r) D a:=by
 intro l
 induction l with
 | nil=>intro i a _ _ h; exact h
 | cons o l ih =>
  intro i a hp hV h
  simp only [List.all_cons,Bool.and_eq_true] at hp
  obtain ⟨⟨hp1,hp2⟩,hp3⟩:=hp
  have hw:Region.wanted o (yielded ops a.tmps)=true:=by
   unfold Region.wanted
   rw [Option.isNone_iff_eq_none.1 hp2]
  simp only [wpQuiet] at h
  simp only [hw,if_true] at h
  obtain ⟨v,h1,h2⟩:=h
  have hone:∀ w,C w→(execOp a.eval o).run P w = .ok (.value v) w:=fun w hC=>by
   have h3:=h1 w ⟨⟨w,hC⟩,rfl⟩
   unfold Oper.quietAt at h3
   generalize hr:(execOp a.eval o).run P w=r' at *
   cases r' with
   | ok n w' =>
    obtain ⟨u,rfl⟩:=plain_value hp1 hr
    simp only [Oper.quietUpon] at h3
    obtain ⟨rfl,rfl⟩:=h3
    rfl
   | halt x w'=>simp only [Oper.quietUpon] at h3
  refine wpM_one hQ (by have:=hV 0 (by simp); simpa using this) hw v hone ?_
  refine ih (i + 1) _ hp3 (fun j hj=>by have:=hV (j + 1) (by simp; omega); rwa [show i + (j + 1)=i + 1 + j from by omega] at this) ?_
  rw [List.length_cons,show i + (l.length + 1)=i + 1 + l.length from by omega] at h2
  exact h2
theorem wpM_part {Q:Act→(World→Prop)→Prop} (hQ:∀ a D D',(∀ w,D' w→D w)→Q a D→Q a D') (hCn:∃ w,C w) {D:World→Prop} {a:Act} {l:List Oper} {i:Nat} (k j:Nat) (hp:(l.take k).all (fun o=>plainB o.op && o.guard.isNone)=true) (hj:i + (l.take k).length=j) (hV:(List.range (l.take k).length).all (fun j=>(V (i + j)).isNone)=true) (h:wpQuiet P ops (fun w=>∃ p:In C,w=p.w) (wpM P ops C V Q j (l.drop k) D) (l.take k) a):wpM P ops C V Q i l D a:=by
 subst hj
 have:=wpM_of_quiet (r:=l.drop k) hQ hCn (l.take k) i a hp (fun j hj=>by
  have:=List.all_eq_true.1 hV j (List.mem_range.2 hj)
  exact Option.isNone_iff_eq_none.1 this) h
 rwa [List.take_append_drop] at this
end
end Go.Proofs.YtakaalldbnklcaaGreat
namespace Go.Proofs.YtakaalldbnklcaaGreat
open Go.RowKit Go.WideShapes Go.ChangeShapes Go.ChangeAt Go.Deep
set_option linter.unusedVariables false
theorem keyI20:KeyLaw Tryz.prog 3 (fun n:Int=>Value.int .i64 n):=intKey Tryz.underlying3
def kI20 (n:Int):Value:=.int .i64 n
def vA20 (a:Bool × Int × Bool × Bool):Value:=vAns a.1 a.2.1 a.2.2.1 a.2.2.2
theorem zeroA20 (w:World):(zeroValue 33).run Tryz.prog w = .ok (vA20 (false,0,false,false)) w:=by kernel_rfl
theorem PD.maps_lt {n0 K:Nat} {w:World} {I:DkI} {x:DkX} (h:PD n0 K w I x):∀ m ∈ I.maps,m < w.heap.size:=by
 have hl:=h.mo.bk.led
 obtain ⟨m0,hm0,_⟩:=hl.map
 intro m hm
 simp only [DkI.maps,List.mem_cons,List.not_mem_nil,or_false] at hm
 rcases hm with rfl | rfl | rfl | rfl | rfl | rfl | rfl | rfl | rfl
 ·exact h.cr.acs.lt
 ·exact h.cr.hds.lt
 ·exact h.sk.lvs.lt
 ·exact h.sk.gds.lt
 ·exact hm0.lt
 ·exact h.mo.bk.acs.lt
 ·exact h.od.prs.lt
 ·exact h.od.ods.lt
 ·exact h.ib.2.lt
theorem DK.grownM {n0 base K:Nat} {w w':World} {I:DkI} {x:DkX} {J:RdI} {y:RdX} {κ ν:Type} {kE:κ→Value} {vE:ν→Value} {m:List (κ × ν)} {M:Nat} (h:DK n0 base K w I x J y) (hM:IsMap w M kE vE m) (hg:w.grownBy w' (some M)) (hn:M ∉ I.maps):DK n0 base K w' I x J y :=
 have hk:Touch (KindIn 0 w [] [M]) w w':=(Touch.of_grown hg).kind (fun k _ hk=>by rw [hk]; exact KindIn.of_map hM (List.mem_singleton.2 rfl) (Nat.zero_le _))
 ⟨h.p.away hk (by simp) (fun m hm e=>hn (by rw [List.mem_singleton.1 e] at hm; exact hm)),h.r.away hk (by simp),h.ok,h.oo⟩
def OnceOk (l:List DOp) (k:Nat) (x:DkX) (fm:List (Int × (Bool × Int × Bool × Bool))):Prop :=
 ∀ j o,j < k→l[j]?=some o→∃ a,mget fm (j:Int)=some a∧(o.kd=1→Seen x.m o.ky o.st o.tr o.un a)
theorem OnceOk.step {l:List DOp} {k:Nat} {x x':DkX} {fm:List (Int × (Bool × Int × Bool × Bool))} (h:OnceOk l k x fm) {o:DOp} {a:Bool × Int × Bool × Bool} (ho:l[k]?=some o) (hs:StepR o x x' a):OnceOk l (k + 1) x' (mset fm (k:Int) a):=by
 intro j q hj hq
 by_cases e:j=k
 ·subst e
  rw [ho] at hq
  injection hq with hq
  subst hq
  refine ⟨a,by rw [mget_mset,if_pos rfl],fun hk => ?_⟩
  rcases hs with ⟨_,hd⟩ | ⟨h1,_⟩
  ·exact hd.seen
  ·exact absurd hk h1
 ·obtain ⟨b,hb,hS⟩:=h j q (by omega) hq
  refine ⟨b,by rw [mget_mset,if_neg (by omega)]; exact hb,fun hk => ?_⟩
  rcases hs with ⟨_,hd⟩ | ⟨_,hm,_⟩
  ·exact (hS hk).step hd
  ·rw [hm]; exact hS hk
set_option maxRecDepth 100000 in
set_option maxHeartbeats 16000000 in
theorem deskOnce_walk (l:List DOp) (A:Option Addr) (cp:Nat) (l2:List Int) (A2:Option Addr) (cp2:Nat) (w:World) (hR:Rd w A (l.flatMap enDo)) (hok:∀ x ∈ l,OkDo w x) (hl:l.length * 80≤140737488351232) (hR2:Rd w A2 (l2.flatMap en1)) (hok2:∀ x ∈ l2,ok1 x) (hl2:l2.length * 8≤140737488351232) :
  Calls Tryz.prog 5 #[.slice A l.length cp,.slice A2 l2.length cp2] w (Law w):=by
 have hmm:=@run_makeMap Tryz.prog
 go_enter Tryz.func5,Tryz.ntmps5
 go_wp2_with fail
 refine (wakes_any _).mono ?_
 rintro e wn ⟨rfl,hbn⟩
 have HL:=hid hbn
 replace hR:=hR.below hbn
 replace hR2:=hR2.below hbn
 have hok':∀ x ∈ l,OkDo wn x:=fun x hx=>(hok x hx).next hbn
 clear hok hbn
 go_wp2_with fail
 refine (dnew20 _).mono ?_
 rintro e w1 ⟨I,rfl,hP,hb1⟩
 have HP:=hid (And.intro hP hb1)
 clear hP hb1
 go_wp2_with fail
 refine (rdnew20 _).mono ?_
 rintro e w2 ⟨J,base,rfl,hRD,hb2⟩
 have hD0:=dk_new HP.out.1 HP.out.2 hRD hb2
 have hbx:=bthen HP.out.2 hb2
 have hba:Below w2.heap.size w2 (w2.alloc (.map #[] 0)):=(Below.refl _ _).alloc (Nat.le_refl _) _
 have hMap:=IsMap.made w2 kI20 vA20
 have HD:=hid (And.intro (hD0.next hba) (And.intro (bthen hbx hba) (And.intro hMap (show OnceOk l 0 x0 [] from fun j o hj=>by omega))))
 have HMn:=hid (show w2.heap.size ∉ I.maps from fun hin=>by have:=hD0.p.maps_lt _ hin; omega)
 have HMg:=hid (show wn.heap.size≤w2.heap.size from hbx.size)
 clear HP hRD hb2 hD0 hbx hba hMap
 go_upto_region 5 with fail
 obtain ⟨M,hM⟩:∃ M,M=w2.heap.size:=⟨_,rfl⟩
 obtain ⟨w3,hw3⟩:∃ w3,w3=w2.alloc (.map #[] 0):=⟨_,rfl⟩
 rw [← hw3] at HD
 rw [← hM] at HD HMn HMg
 rw [← hw3, ← hM]
 clear hw3 hM hmm
 go_wp2_with fail
 go_loopw [22] (fun i wr=>∃ (k:Nat) (x:DkX) (y:RdX) (fm:List (Int × (Bool × Int × Bool × Bool))),k≤l.length∧i = .int .i64 k∧Hid (DK wn.heap.size base k wr I x J y∧Below wn.heap.size wn wr∧IsMap wr M kI20 vA20 fm∧OnceOk l k x fm)) (fun i _=>l.length - nOf i)
 case atStart=>exact ⟨0,x0,y0,[],Nat.zero_le _,rfl,HD⟩
 case round =>
  clear HD
  obtain ⟨k,x,y,fm,hk,rfl,H⟩:=hrel
  by_cases hlt:k < l.length
  ·obtain ⟨o,ho⟩:∃ o,l[k]?=some o:=⟨l[k],List.getElem?_eq_getElem hlt⟩
   obtain ⟨⟨b,off,hAA,hbs,hcc⟩,_,HN⟩:=script_at hR hok' H.out.2.1 ho
   replace HN:=hid HN
   have HOo:=hid ho
   obtain ⟨kd,ky,st,tr,vb,un,OA,ocp,ls⟩:=o
   have q0:wr.cell? ⟨b,off + k * 7,none⟩=some (.int .i64 kd):=hcc 0 _ rfl
   have q1:wr.cell? ⟨b,off + k * 7 + 1,none⟩=some (.int .i64 ky):=hcc 1 _ rfl
   have q2:wr.cell? ⟨b,off + k * 7 + 2,none⟩=some (.int .i64 st):=hcc 2 _ rfl
   have q3:wr.cell? ⟨b,off + k * 7 + 3,none⟩=some (.int .i64 tr):=hcc 3 _ rfl
   have q4:wr.cell? ⟨b,off + k * 7 + 4,none⟩=some (.string vb):=hcc 4 _ rfl
   have q5:wr.cell? ⟨b,off + k * 7 + 5,none⟩=some (.bool un):=hcc 5 _ rfl
   have q6:wr.cell? ⟨b,off + k * 7 + 6,none⟩=some (.slice OA ls.length ocp):=hcc 6 _ rfl
   have hba:Below wr.heap.size wr (wr.alloc (.cells #[.int .i64 kd,.int .i64 ky,.int .i64 st,.int .i64 tr,.string vb,.bool un,.slice OA ls.length ocp] 31)):=(Below.refl _ _).alloc (Nat.le_refl _) _
   have hB6:=Blk.new wr 31 #[.int .i64 kd,.int .i64 ky,.int .i64 st,.int .i64 tr,.string vb,.bool un,.slice OA ls.length ocp]
   have HW:=hid (And.intro hB6 (And.intro (H.out.1.next hba) (And.intro (bthen H.out.2.1 hba) (And.intro (H.out.2.2.1.next hba) H.out.2.2.2))))
   have HAA:=hid hAA
   clear hcc hba hB6 ho H
   rw [hAA]
   go_upto_region 8 with fail
   clear q0 q1 q2 q3 q4 q5 q6 hAA
   obtain ⟨wz,hwz⟩:∃ wz,wz=wr.alloc (.cells #[.int .i64 kd,.int .i64 ky,.int .i64 st,.int .i64 tr,.string vb,.bool un,.slice OA ls.length ocp] 31):=⟨_,rfl⟩
   obtain ⟨G9,hG9⟩:∃ G9,G9=wr.heap.size:=⟨_,rfl⟩
   obtain ⟨hB6,hDK,hbz,hMp,hOn⟩:=HW.out
   rw [← hwz] at hB6 hDK hbz hMp ⊢
   rw [← hG9] at hB6 ⊢
   have ST:=hid (step_any hDK (by omega) ⟨kd,ky,st,tr,vb,un,OA,ocp,ls⟩ (HN.out _ hbz).1 (HN.out _ hbz).2)
   have HZ:=hid (And.intro hB6 (And.intro hbz (And.intro hMp hOn)))
   have g0:wz.cell? ⟨G9,0,none⟩=some (.int .i64 kd):=hB6.cell 0
   have g1:wz.cell? ⟨G9,1,none⟩=some (.int .i64 ky):=hB6.cell 1
   have g2:wz.cell? ⟨G9,2,none⟩=some (.int .i64 st):=hB6.cell 2
   have g3:wz.cell? ⟨G9,3,none⟩=some (.int .i64 tr):=hB6.cell 3
   have g4:wz.cell? ⟨G9,4,none⟩=some (.string vb):=hB6.cell 4
   have g5:wz.cell? ⟨G9,5,none⟩=some (.bool un):=hB6.cell 5
   have g6:wz.cell? ⟨G9,6,none⟩=some (.slice OA ls.length ocp):=hB6.cell 6
   clear hB6 hDK hbz hMp hOn HW hwz hG9 HN hbs
   go_wp2_with fail
   refine ST.out.mono ?_
   rintro e w5 ⟨⟨a1,a2,a3,a4⟩,x',y',rfl,hD5,hSR,hT5⟩
   clear g0 g1 g2 g3 g4 g5 g6 ST
   have hba:Below w5.heap.size w5 (w5.alloc (.cells #[.bool a1,.int .i64 a2,.bool a3,.bool a4] 33)):=(Below.refl _ _).alloc (Nat.le_refl _) _
   have hB9:=(hT5.blk HZ.out.1 (KindIn.not_blk HZ.out.1 (by decide))).next hba
   have hM5:=(hT5.isMap HZ.out.2.2.1 (KindIn.not_map HZ.out.2.2.1 HMn.out)).next hba
   have hb5:=HZ.out.2.1.trans ((hT5.low HZ.out.2.1.size).trans (hba.mono (Nat.le_trans HZ.out.2.1.size hT5.size)))
   have hB10:=Blk.new w5 33 #[.bool a1,.int .i64 a2,.bool a3,.bool a4]
   have H5:=hid (And.intro (hD5.next hba) (And.intro hb5 (And.intro hB9 (HZ.out.2.2.2.step HOo.out hSR))))
   clear hD5 hSR hT5 hba HZ hb5 hB9
   obtain ⟨G10,hG10⟩:∃ G10,G10=w5.heap.size:=⟨_,rfl⟩
   obtain ⟨w6,hw6⟩:∃ w6,w6=w5.alloc (.cells #[.bool a1,.int .i64 a2,.bool a3,.bool a4] 33):=⟨_,rfl⟩
   rw [← hw6] at hM5 hB10 H5
   rw [← hG10] at hB10
   simp only [vAns]
   go_upto_region 9 with fail
   rw [← hw6, ← hG10]
   clear hw6 hG10
   have a0':w6.cell? ⟨G10,0,none⟩=some (.bool a1):=hB10.cell 0
   have a1':w6.cell? ⟨G10,1,none⟩=some (.int .i64 a2):=hB10.cell 1
   have a2':w6.cell? ⟨G10,2,none⟩=some (.bool a3):=hB10.cell 2
   have a3':w6.cell? ⟨G10,3,none⟩=some (.bool a4):=hB10.cell 3
   have l10:=hB10.lt
   have HM5:=hid hM5
   clear hB10 hM5
   go_upto_region 10 with ((at_mapUpdate; refine wpList_store _ rfl _ _ _ 57 33 rfl keyI20 Tryz.underlying57 M fm rfl HM5.out (k:Int) (a1,a2,a3,a4) rfl rfl ?_; intro w8 hM8 hg8 hs8))
   clear a0' a1' a2' a3' l10
   have hB8:=H5.out.2.2.1.grown hg8 (fun e=>HM5.out.notBlk H5.out.2.2.1 (by injection e with e; exact e.symm))
   have H8:=hid (And.intro (H5.out.1.grownM HM5.out hg8 HMn.out) (And.intro (H5.out.2.1.trans (grown_below hg8 H5.out.2.1.size HMg.out)) (And.intro hM8 H5.out.2.2.2)))
   have g0:w8.cell? ⟨G9,0,none⟩=some (.int .i64 kd):=hB8.cell 0
   have l9:=hB8.lt
   clear hB8 H5 HM5 hM8 hg8 hs8
   by_cases hkd:kd=1
   ·subst hkd
    go_wp2_with fail
    clear g0 l9
    go_loopw [42] (fun i wi=>∃ m:Nat,m≤l2.length∧i = .int .i64 m∧Hid (DK wn.heap.size base (k + 1) wi I x' J y'∧Below wn.heap.size wn wi∧IsMap wi M kI20 vA20 (mset fm (k:Int) (a1,a2,a3,a4))∧OnceOk l (k + 1) x' (mset fm (k:Int) (a1,a2,a3,a4)))) (fun i _=>l2.length - nOf i)
    case atStart=>exact ⟨0,Nat.zero_le _,rfl,H8⟩
    case round =>
     clear H8
     obtain ⟨m,hm,rfl,H⟩:=hrel
     by_cases hml:m < l2.length
     ·obtain ⟨n,hn⟩:∃ n,l2[m]?=some n:=⟨l2[m],List.getElem?_eq_getElem hml⟩
      obtain ⟨b2,off2,rfl,hbs2,hc2⟩:=(hR2.below H.out.2.1).at_ 1 en1_len (by omega) hn
      have p0:wr.cell? ⟨b2,off2 + m,none⟩=some (.int .i64 n):=by have:=hc2 0 _ rfl; simpa using this
      have HLT:=hid (And.intro hlt hml)
      clear hc2 hn
      go_upto_region 14 with fail
      clear p0 hbs2
      go_cut [65] from 47 to 64 (fun v wx=>(v = .bool true∨(v = .bool false∧∃ (j:Nat) (o2:DOp),n=(j:Int)∧j≤k∧l[j]?=some o2∧o2.kd=1))∧wx=wr)
      case first =>
       by_cases c1:(8:Int) < (m:Int)
       ·clear hm hml hlt
        go_wp2_with fail
        go_meet
        exact ⟨.inl rfl,rfl⟩
       ·by_cases c2:n < 0
        ·clear hm hml hlt
         go_wp2_with fail
         go_meet
         exact ⟨.inl rfl,rfl⟩
        ·by_cases c3:(k:Int) < n
         ·clear hm hml hlt
          go_wp2_with fail
          go_meet
          exact ⟨.inl rfl,rfl⟩
         ·obtain ⟨j,rfl⟩:∃ j:Nat,n=(j:Int):=⟨n.toNat,by omega⟩
          have hjl:j < l.length:=by omega
          obtain ⟨o2,ho2⟩:∃ o2,l[j]?=some o2:=⟨l[j],List.getElem?_eq_getElem hjl⟩
          obtain ⟨⟨b3,off3,hA3,hbs3,hc3⟩,_,_⟩:=script_at hR hok' H.out.2.1 ho2
          rw [HAA.out] at hA3
          simp only [Option.some.injEq,Addr.mk.injEq,and_true] at hA3
          obtain ⟨rfl,rfl⟩:=hA3
          have HJ:=hid (And.intro ho2 (show j≤k by omega))
          obtain ⟨d2,k2,s2,t2,v2,u2,A3,cp3,ls3⟩:=o2
          have q0:wr.cell? ⟨b,off + j * 7,none⟩=some (.int .i64 d2):=by have:=hc3 0 _ rfl; simpa using this
          clear hc3 ho2 hm hml hlt
          by_cases e1:d2=1
          ·have b1:(d2 != 1)=false:=by simp [e1]
           have HE:=hid e1
           clear e1
           go_wp2_with fail
           go_meet
           exact ⟨.inr ⟨rfl,j,_,rfl,HJ.out.2,HJ.out.1,HE.out⟩,rfl⟩
          ·have b1:(d2 != 1)=true:=by simp [e1]
           clear e1
           go_wp2_with fail
           go_meet
           exact ⟨.inl rfl,rfl⟩
      case rest =>
       obtain ⟨hv,hwc⟩:=hcut
       subst hwc
       rcases hv with rfl | ⟨rfl,j,o2,rfl,hjk,ho2,hk2⟩
       ·clear hm
        have H9:=hid (And.intro H.out.1 H.out.2)
        go_wp2_with fail
        go_roundw
        case rel=>exact ⟨m + 1,by have:=HLT.out.2; omega,by go_num,H9⟩
        case measure=>have:=HLT.out.2; simp [nOf]; omega
       ·obtain ⟨fa,hfa,hSeen⟩:=H.out.2.2.2 j o2 (by omega) ho2
        have hS:=(hSeen hk2).ask
        have HSA:=hid (script_at hR hok' H.out.2.1 ho2)
        have HSC:=hid (fun w1 (hb:Below wn.heap.size wn w1)=>(script_at hR hok' hb ho2).1)
        obtain ⟨d2,k2,s2,t2,v2,u2,A3,cp3,ls3⟩:=o2
        have cS:Hid (∀ w1,Below wn.heap.size wn w1→w1.cell? ⟨b,off + j * 7 + 1,none⟩=some (.int .i64 k2)∧w1.cell? ⟨b,off + j * 7 + 2,none⟩=some (.int .i64 s2)∧w1.cell? ⟨b,off + j * 7 + 3,none⟩=some (.int .i64 t2)∧w1.cell? ⟨b,off + j * 7 + 4,none⟩=some (.string v2)∧w1.cell? ⟨b,off + j * 7 + 5,none⟩=some (.bool u2)):=hid (fun w1 hb=>by
         obtain ⟨b3,off3,hA3,_,hc3⟩:=HSC.out w1 hb
         rw [HAA.out] at hA3
         simp only [Option.some.injEq,Addr.mk.injEq,and_true] at hA3
         obtain ⟨rfl,rfl⟩:=hA3
         exact ⟨hc3 1 _ rfl,hc3 2 _ rfl,hc3 3 _ rfl,hc3 4 _ rfl,hc3 5 _ rfl⟩)
        have HNZ:=hid hS.1
        have HS:=hid hS.2
        have HFA:=hid hfa
        have c0:=cS.out wc.drew H.out.2.1.drew
        have hjl:j < l.length:=by have:=HLT.out.1; omega
        clear hS hSeen hfa ho2 hk2 hm HSA HSC
        go_upto_region 15 with fail
        obtain ⟨bb,hbb⟩:∃ bb,bb=decide ((In.askF (In.entAt x'.m (k2,s2)) t2 u2).1=1):=⟨_,rfl⟩
        obtain ⟨cc,hcc⟩:∃ cc,cc=(if (In.askF (In.entAt x'.m (k2,s2)) t2 u2).1=1 then (In.askF (In.entAt x'.m (k2,s2)) t2 u2).2 else 0):=⟨_,rfl⟩
        have hAG:agV (In.entAt x'.m (k2,s2)) t2 u2 = .agg #[.bool bb,.int .i64 cc,.bool false,.bool false]:=by unfold agV; rw [← hbb, ← hcc]; rfl
        have HBC:=hid (show bb=decide ((In.askF (In.entAt x'.m (k2,s2)) t2 u2).1=1)∧(bb=true→cc=(In.askF (In.entAt x'.m (k2,s2)) t2 u2).2) from ⟨hbb,fun h=>by
         rw [hbb] at h
         rw [hcc,if_pos (of_decide_eq_true h)]⟩)
        obtain ⟨C,hCd⟩:∃ C:World→Prop,∀ w',C w' ↔ Below wc.heap.size wc w':=⟨_,fun _=>Iff.rfl⟩
        have HC0:Hid (C wc.drew):=hid ((hCd _).2 (Below.refl _ _).drew)
        have HCL:=hid (show ∀ w':World,C w'→Calls Tryz.prog 13 #[.pointer (some ⟨I.D,0,none⟩),.int .i64 k2,.int .i64 s2,.int .i64 t2,.string v2,.bool u2] w' fun e w''=>e = .returned (.agg #[.bool bb,.int .i64 cc,.bool false,.bool false])∧C w''∧Below w'.heap.size w' w'' from fun w' hw'=>by
         refine (again_any (H.out.1.next ((hCd _).1 hw')).p k2 s2 t2 v2 u2 HNZ.out).mono ?_
         rintro e w'' ⟨rfl,hb⟩
         exact ⟨by rw [hAG],(hCd _).2 (bthen ((hCd _).1 hw') hb),hb⟩)
        have HSC2:=hid (fun p:In C=>cS.out p.w (H.out.2.1.trans (((hCd _).1 p.h).mono H.out.2.1.size)))
        have f1:∀ p:In C,p.w.cell? ⟨b,off + j * 7 + 1,none⟩=some (.int .i64 k2):=fun p=>(HSC2.out p).1
        have f2:∀ p:In C,p.w.cell? ⟨b,off + j * 7 + 2,none⟩=some (.int .i64 s2):=fun p=>(HSC2.out p).2.1
        have f3:∀ p:In C,p.w.cell? ⟨b,off + j * 7 + 3,none⟩=some (.int .i64 t2):=fun p=>(HSC2.out p).2.2.1
        have f4:∀ p:In C,p.w.cell? ⟨b,off + j * 7 + 4,none⟩=some (.string v2):=fun p=>(HSC2.out p).2.2.2.1
        have f5:∀ p:In C,p.w.cell? ⟨b,off + j * 7 + 5,none⟩=some (.bool u2):=fun p=>(HSC2.out p).2.2.2.2
        have HCd:=hid hCd
        have hne:Nonempty (In C):=⟨⟨_,HC0.out⟩⟩
        clear hCd c0 hbb hcc hAG HSC2 HNZ
        refine wp_region_many C (fun i=>if i=26 then some (.agg #[.bool bb,.int .i64 cc,.bool false,.bool false]) else none) 28 (by kernel_rfl) (by kernel_rfl) HC0.out ?_
        simp only [List.take_succ_cons,List.take_zero,List.drop_succ_cons,List.drop_zero]
        refine wpM_part (fun a D D' hd h w' hC hD'=>h w' hC (hd w' hD')) ⟨_,HC0.out⟩ 26 26 (by kernel_rfl) (by kernel_rfl) (by kernel_rfl) ?_
        simp only [List.take_succ_cons,List.take_zero,List.drop_succ_cons,List.drop_zero]
        repeat (first | go_big_quiet_step (fail) | quiet_step (fail))
        refine wpQuiet_nil ?_
        clear f1 f2 f3 f4 f5 hne
        refine wpM_call (v:=.agg #[.bool bb,.int .i64 cc,.bool false,.bool false]) (fun a D D' hd h w' hC hD'=>h w' hC (hd w' hD')) (if_pos rfl) (by kernel_rfl) (fun w' hw'=>⟨13,#[.pointer (some ⟨I.D,0,none⟩),.int .i64 k2,.int .i64 s2,.int .i64 t2,.string v2,.bool u2],by go_simp,HCL.out w' hw'⟩) ?_
        refine wpM_many (fun a D D' hd h w' hC hD'=>h w' hC (hd w' hD')) (if_neg (by omega)) (by kernel_rfl) (fun u w'=>∃ V8,u = .pointer (some ⟨V8,0,none⟩)∧Blk w' V8 33 #[.bool false,.int .i64 0,.bool false,.bool false]∧wc.heap.size≤V8) (fun u w1 w2 ⟨Ds,h1,h2,h3⟩ hb=>⟨Ds,h1,h2.next hb,h3⟩) (fun w' hw'=>⟨_,_,by go_simp,(HCd.out _).2 (((HCd.out _).1 hw').alloc ((HCd.out _).1 hw').size _),(Below.refl _ _).alloc (Nat.le_refl _) _,⟨w'.heap.size,rfl,Blk.new _ _ _,((HCd.out _).1 hw').size⟩⟩) ?_
        rintro u ⟨wu,G14,rfl,_,_⟩
        refine wpM_nil ?_
        intro w3 hC hD
        obtain ⟨_,G14',e14,hB14,hlG⟩:=hD
        simp only [Value.pointer.injEq,Option.some.injEq,Addr.mk.injEq,and_true] at e14
        subst e14
        have hb3:=(HCd.out _).1 hC
        have m0:w3.cell? ⟨G14,0,none⟩=some (.bool false):=hB14.cell 0
        have m1:w3.cell? ⟨G14,1,none⟩=some (.int .i64 0):=hB14.cell 1
        have m2:w3.cell? ⟨G14,2,none⟩=some (.bool false):=hB14.cell 2
        have m3:w3.cell? ⟨G14,3,none⟩=some (.bool false):=hB14.cell 3
        have n0':=hB14.free 0
        have n1':=hB14.free 1
        have n2':=hB14.free 2
        have n3':=hB14.free 3
        have lG14:=hB14.lt
        have H2:=hid (And.intro (H.out.1.next hb3) (And.intro (H.out.2.1.trans (hb3.mono H.out.2.1.size)) (And.intro (H.out.2.2.1.next hb3) (And.intro H.out.2.2.2 (And.intro hB14 hlG)))))
        have HWN:=hid H.out.2.1.size
        clear hB14 hb3 hlG H hC HCd HC0 HCL
        go_upto_region 16 with fail
        clear m0 m1 m2 m3 n0' n1' n2' n3' lG14
        have hT:=(((Touch.setCell w3 G14 0 (.bool bb)).then (Touch.setCell _ G14 1 (.int .i64 cc))).then (Touch.setCell _ G14 2 (.bool false))).then (Touch.setCell _ G14 3 (.bool false))
        have hB:=(((H2.out.2.2.2.2.1.set_ 0 (.bool bb)).set_ 1 (.int .i64 cc)).set_ 2 (.bool false)).set_ 3 (.bool false)
        have hMw:=hT.isMap H2.out.2.2.1 (fun e=>H2.out.2.2.1.notBlk H2.out.2.2.2.2.1 e)
        have H3:=hid (And.intro (H2.out.1.answer H2.out.2.2.2.2.1 hT) (And.intro (H2.out.2.1.trans (hT.below H2.out.2.1.size (fun k hk=>by rw [hk]; exact Nat.le_trans HWN.out H2.out.2.2.2.2.2))) (And.intro hMw H2.out.2.2.2.1)))
        clear hT hMw H2
        generalize (((w3.setCell ⟨G14,0,none⟩ (.bool bb)).setCell ⟨G14,1,none⟩ (.int .i64 cc)).setCell ⟨G14,2,none⟩ (.bool false)).setCell ⟨G14,3,none⟩ (.bool false)=w4 at *
        have hB14:Blk w4 G14 33 #[.bool bb,.int .i64 cc,.bool false,.bool false]:=hB
        have B:=hid (books_any H3.out.1)
        clear hB
        have g0:w4.cell? ⟨G14,2,none⟩=some (.bool false):=hB14.cell 2
        have g1:w4.cell? ⟨G14,3,none⟩=some (.bool false):=hB14.cell 3
        have lg:=hB14.lt
        have HB14:=hid hB14
        clear hB14
        go_wp2_with fail
        refine B.out.mono ?_
        rintro e w5 ⟨rfl,hb5⟩
        have H5:=hid (And.intro (H3.out.1.next hb5) (And.intro (bthen H3.out.2.1 hb5) (And.intro (H3.out.2.2.1.next hb5) H3.out.2.2.2)))
        have hB14:=HB14.out.next hb5
        have e0:w5.cell? ⟨G14,0,none⟩=some (.bool bb):=hB14.cell 0
        have e1:w5.cell? ⟨G14,1,none⟩=some (.int .i64 cc):=hB14.cell 1
        have lg:=hB14.lt
        obtain ⟨fa1,fa2,fa3,fa4⟩:=fa
        have hlk:=H5.out.2.2.1.look (P:=Tryz.prog) (mt:=57) keyI20 Tryz.underlying57 (zeroA20 w5) (j:Int)
        unfold looked at hlk
        rw [HFA.out] at hlk
        simp only [vA20,vAns,kI20] at hlk
        have hf0:∀ w,(Instr.field 33 (.agg #[.bool fa1,.int .i64 fa2,.bool fa3,.bool fa4]) 0).run Tryz.prog w = .ok (.bool fa1) w:=fun w=>by kernel_rfl
        have hf1:∀ w,(Instr.field 33 (.agg #[.bool fa1,.int .i64 fa2,.bool fa3,.bool fa4]) 1).run Tryz.prog w = .ok (.int .i64 fa2) w:=fun w=>by kernel_rfl
        have hbad:bb=true→fa1=true→(cc != fa2)=false∨cc=151:=by
         intro h1 h2
         have h3:=HBC.out.1
         rw [h1] at h3
         have h4:=HS.out (of_decide_eq_true h3.symm) h2
         rw [← HBC.out.2 h1] at h4
         rcases h4 with h4 | h4
         ·exact .inl (by rw [h4]; simp)
         ·exact .inr h4
        have HBD:=hid hbad
        clear hB14 HB14 hb5 H3 B HFA HS HBC hbad g0 g1
        cases bb with
        | false =>
         go_wp2_with fail
         go_roundw
         case rel=>exact ⟨m + 1,by have:=HLT.out.2; omega,by go_num,H5⟩
         case measure=>have:=HLT.out.2; simp [nOf]; omega
        | true =>
         cases fa1 with
         | false =>
          go_wp2_with fail
          go_roundw
          case rel=>exact ⟨m + 1,by have:=HLT.out.2; omega,by go_num,H5⟩
          case measure=>have:=HLT.out.2; simp [nOf]; omega
         | true =>
          by_cases hcf:(cc != fa2)=false
          ·go_wp2_with fail
           go_roundw
           case rel=>exact ⟨m + 1,by have:=HLT.out.2; omega,by go_num,H5⟩
           case measure=>have:=HLT.out.2; simp [nOf]; omega
          ·have hcc:cc=151:=(HBD.out rfl rfl).resolve_left hcf
           have hcf':(cc != fa2)=true:=by simpa using hcf
           subst hcc
           clear hcf
           go_wp2_with fail
           go_roundw
           case rel=>exact ⟨m + 1,by have:=HLT.out.2; omega,by go_num,H5⟩
           case measure=>have:=HLT.out.2; simp [nOf]; omega
     ·clear hm
      have H9:=hid (And.intro H.out.1 H.out.2)
      go_wp2_with fail
      go_roundw
      case rel=>exact ⟨k + 1,x',y',_,by omega,by go_num,H9⟩
      case measure=>simp [nOf]; omega
   ·have b1:(kd != 1)=true:=by simp [hkd]
    go_wp2_with fail
    clear g0 l9 b1 hkd
    go_roundw
    case rel=>exact ⟨k + 1,x',y',_,by omega,by go_num,H8⟩
    case measure=>simp [nOf]; omega
  ·clear hk
   go_wp2_with fail
   go_ret
   exact ⟨rfl,HL.out.trans (H.out.2.1.mono HL.out.size)⟩
end Go.Proofs.YtakaalldbnklcaaGreat
namespace Go.Proofs.YtakaalldbnklcaaGreat.lawDeskOnce
open Go.ChangeShapes Go.WideShapes Go.ChangeAt Go.RowKit 
set_option linter.unusedVariables false
theorem own:ownKnob Tryz.prog.godebug=none:=by kernel_rfl
theorem laidOut:laidOutB Tryz.prog=true:=by kernel_rfl
theorem bytes1:Tryz.prog.bytesOf 3=8:=by kernel_rfl
theorem flat1:Flat Tryz.prog 3 [.int .i64]:=flat_scalar (by kernel_rfl) (by kernel_rfl)
set_option maxRecDepth 100000 in
theorem contract (H:Type) (enc:TypeId × Value→H) (W:World) (base:Nat) (args:Array Value) (ds gs:List (DataW H)) (before:List MemPlace)
  (hval:∀ (j:Nat) t v,Tryz.f5.params[j]?=some t→args[j]?=some v→Value.okWide Tryz.prog W .any base t v)
  (hW:DataW.Whole enc Tryz.prog Tryz.f5.params.toList Rows.deskOnceSpec.vars false W args.toList ds gs before)
  (hsz:(DataW.weightsEach Tryz.prog (Tryz.f5.params.toList++Rows.deskOnceSpec.plain.varTypes Tryz.prog) (ds++gs)).all (· ≤ reachBytes)=true) :
  Calls Tryz.prog 5 args W fun e W'=>∃ v,e = .returned v∧Rows.deskOnceSpec.post enc Tryz.prog Tryz.f5 false true false false W args v W':=by
 have fin:∀ e W',Law W e W'→∃ v,e = .returned v∧Rows.deskOnceSpec.post enc Tryz.prog Tryz.f5 false true false false W args v W' :=
  fun e W' h=>law_post laidOut rfl (fun ds hds=>by
   rw [Tryz.params5] at hds
   match ds,hds with
   | [d0,d1],_=>exact ⟨rfl,rfl,rfl⟩) (by rw [Tryz.params5]; intro t ht; simp only [List.mem_cons,List.not_mem_nil,or_false] at ht; rcases ht with rfl | rfl <;> exact ⟨by kernel_rfl,of_decide_eq_true (by kernel_rfl)⟩) (by kernel_rfl) Tryz.underlying4 hW h
 obtain ⟨p,q,hA0,hV,rfl,hfz,hnd⟩:=hW
 have hA:DataW.TrodAll enc Tryz.prog W 0 (fun _=>true) true Tryz.f5.params.toList args.toList ds p:=hA0
 rw [Tryz.params5] at hA hval hsz
 obtain ⟨v0,vs0,d0,ds0,p0,q0,hargs,rfl,rfl,h0,r0⟩:=trodAll_cons hA
 obtain ⟨v1,vs1,d1,ds1,p1,q1,rfl,rfl,rfl,h1,r1⟩:=trodAll_cons r0
 obtain ⟨rfl,rfl,rfl⟩:=trodAll_nil r1
 obtain rfl:args=#[v0,v1]:=by cases args; simp_all
 obtain ⟨rfl,rfl⟩:=trodVars_none hV
 obtain ⟨A0,len0,cap0,rfl⟩:=okWide_slice Tryz.underlying22 (hval 0 22 v0 rfl rfl)
 obtain ⟨fuel0,hf0⟩:=h0
 obtain ⟨A0',cap0',l0,hcs0,hR0,ok0,hr0⟩:=open_dops hf0 (fun y hy=>by simpa using List.all_eq_true.1 hsz _ (DataW.weights_mem_each (j:=0) rfl rfl y hy))
 simp [Value.cells] at hcs0
 obtain ⟨rfl,rfl,rfl⟩:=hcs0
 obtain ⟨A1,len1,cap1,rfl⟩:=okWide_slice Tryz.underlying23 (hval 1 23 v1 rfl rfl)
 obtain ⟨fuel1,hf1⟩:=h1
 obtain ⟨A1',len1',cap1',xs1,hcs1,hlc1,hcm1,hxl1,hR1,hall1,hd1⟩:=open_flat Tryz.underlying23 flat1 (by decide) hf1
 simp [Value.cells] at hcs1
 obtain ⟨rfl,rfl,rfl⟩:=hcs1
 obtain ⟨l1,rfl,rfl,ok1⟩:=flat_list (ks:=[.int .i64]) (en:=en1) (ok:=Go.Proofs.YtakaalldbnklcaaGreat.ok1) dec1 len1 xs1 hxl1 hall1
 have hr1:l1.length * 8≤140737488351232:=by
  rcases hd1 with hd | ⟨elems,sp,hd,hel⟩
  ·omega
  ·simp only at hd
   subst hd
   have:=sized_slice hsz (j:=1) (t:=23) (e:=3) rfl rfl Tryz.underlying23
   rw [bytes1] at this
   simp only [reachBytes] at this
   omega
 exact (deskOnce_walk l0 A0 cap0 l1 A1 cap1 W hR0 ok0 hr0 hR1 ok1 hr1).mono fin
set_option maxRecDepth 100000 in
theorem lifted (os:Os) (started:os.Started) (H:Type) (enc:TypeId × Value→H) :
  ReturnsInHanded {} Tryz.checked os 5 .any (Rows.deskOnceSpec.pre6 enc Tryz.prog Tryz.f5 Rows.deskOnceRow.domain false) (Rows.deskOnceSpec.post enc Tryz.prog Tryz.f5 false true false false):=by
 refine returnsInHanded_of_change_sized (C:=Tryz.checked) own started (by kernel_rfl) Tryz.func5
  (ChangeSpec.witness6 (enc:=enc) (C:=Tryz.checked) false ⟨#[],#[.slice none 0 0,.slice none 0 0],[]⟩ 8 (by kernel_rfl) (by kernel_rfl) (by kernel_rfl) (by kernel_rfl)) ?_
 intro W base args ds gs before hval hW _ hsz _
 exact contract H enc W base args ds gs before hval hW hsz
theorem proved:Rows.DeskOnceSaid :=
 OpenClaim.holds_of_wide 5 Tryz.f5 rfl rfl rfl rfl rfl rfl rfl ⟨rfl,rfl,rfl,rfl,rfl⟩ rfl rfl rfl rfl rfl (by kernel_rfl) Tryz.func5 (by kernel_rfl)
  (of_decide_eq_true (by kernel_rfl)) (by unfold Func.isWrapper; rw [if_neg (of_decide_eq_false (by kernel_rfl))]; exact ⟨rfl,rfl⟩)
  (fun os started H enc _=>lifted os started H enc)
#print axioms proved
end Go.Proofs.YtakaalldbnklcaaGreat.lawDeskOnce
