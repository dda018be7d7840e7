/-
  Words and lemmas for every seat of the set: a slice that reads as a list, arguments that are slices of flat structs, and the frame of a law's row (kept apart from the program).
  Maps that the call itself made: a block of entries that reads as a list of pairs, in the order in which the keys came.
  Maps that the call itself made, continued: the block, and what look-up, store, delete, len and range do to it.
  A map's key that is a struct of two numbers: the model's laws of it.
  Small words: worlds that drew, blocks and maps in them.
  What a call leaves untouched: all blocks but those of a set; and what that keeps.
  Maps that the call itself made, continued: delete.
  A range over a map that the round leaves alone: which entries are still to come.
-/
import Derived.Test.YtakaalldbnklcaaGreatRows
import Derived.WalkKit
import Derived.ProofKit
import Derived.OpenShut
import Derived.SizedLaws
import Derived.JoinedCond
import Derived.Deep.CondSized
import Derived.Deep.Slices
import Derived.Deep.Fields
import Derived.Maps.OwnOps
import Derived.Maps.OwnSet
import Derived.Maps.RangeWalk
import Derived.Laws.StructEq
import Derived.Deep.QuietTactic
import Derived.BigQuiet
import Derived.StillTailTactics
namespace Go.Proofs.YtakaalldbnklcaaGreat
open Go.ChangeShapes Go.WideShapes Go.ChangeAt Go.RowKit Go.Deep
theorem hid {p:Prop} (h:p):Hid p:=h
theorem bthen {w w1 w2:World} (h:Below w.heap.size w w1) (h2:Below w1.heap.size w1 w2):Below w.heap.size w w2:=h.trans (h2.mono h.size)
theorem ret3 {a b c a' b' c':Int} {k1 k2 k3:IntKind} (h1:a=a') (h2:b=b') (h3:c=c'):Ending.returned (.tuple #[.int k1 a,.int k2 b,.int k3 c]) = .returned (.tuple #[.int k1 a',.int k2 b',.int k3 c']):=by rw [h1,h2,h3]
def Rd (w:World) (A:Option Addr) (xs:List Value):Prop :=
 xs=[]∨∃ b off,A=some ⟨b,off,none⟩∧b < w.heap.size∧∀ j u,xs[j]?=some u→w.cell? ⟨b,off + j,none⟩=some u
theorem Rd.below {w w':World} {A:Option Addr} {xs:List Value} (h:Rd w A xs) (hb:Below w.heap.size w w'):Rd w' A xs:=by
 rcases h with h | ⟨b,off,hA,hlt,hc⟩
 ·exact .inl h
 ·exact .inr ⟨b,off,hA,by have:=hb.size; omega,fun j u hu=>(hb.cell (p:=⟨b,off + j,none⟩) hlt).trans (hc j u hu)⟩
theorem getElem?_flatMap {α:Type} (enc:α→List Value) (s:Nat) (hs:∀ x,(enc x).length=s) (l:List α) (k:Nat) (x:α) (hk:l[k]?=some x) (j:Nat) (hj:j < s):(l.flatMap enc)[k * s + j]?=(enc x)[j]?:=by
 induction l generalizing k with
 | nil=>simp at hk
 | cons y l ih =>
  cases k with
  | zero =>
   simp only [List.getElem?_cons_zero,Option.some.injEq] at hk
   subst hk
   simp only [List.flatMap_cons,Nat.zero_mul,Nat.zero_add]
   rw [List.getElem?_append_left (by rw [hs]; exact hj)]
  | succ k =>
   simp only [List.getElem?_cons_succ] at hk
   simp only [List.flatMap_cons]
   rw [List.getElem?_append_right (by rw [hs,Nat.succ_mul]; omega),hs, ← ih k hk]
   congr 1
   rw [Nat.succ_mul]; omega
theorem length_flatMap_const {α:Type} (enc:α→List Value) (s:Nat) (hs:∀ x,(enc x).length=s) (l:List α):(l.flatMap enc).length=l.length * s:=by
 induction l with
 | nil=>simp
 | cons y l ih=>simp only [List.flatMap_cons,List.length_append,hs,ih,List.length_cons,Nat.succ_mul]; omega
theorem Rd.at_ {α:Type} {enc:α→List Value} {w:World} {A:Option Addr} {l:List α} (h:Rd w A (l.flatMap enc)) (s:Nat) (hs:∀ x,(enc x).length=s) (hpos:0 < s) {k:Nat} {x:α} (hk:l[k]?=some x) :
  ∃ b off,A=some ⟨b,off,none⟩∧b < w.heap.size∧∀ j u,(enc x)[j]?=some u→w.cell? ⟨b,off + k * s + j,none⟩=some u:=by
 rcases h with h | ⟨b,off,hA,hlt,hc⟩
 ·have h1:(l.flatMap enc)[k * s + 0]?=(enc x)[0]?:=getElem?_flatMap enc s hs l k x hk 0 hpos
  rw [h,List.getElem?_eq_getElem (l:=enc x) (by rw [hs]; exact hpos)] at h1
  simp at h1
 ·refine ⟨b,off,hA,hlt,fun j u hu => ?_⟩
  have hj:j < s:=by rw [← hs x]; exact (List.getElem?_eq_some_iff.1 hu).1
  rw [Nat.add_assoc]
  exact hc _ u ((getElem?_flatMap enc s hs l k x hk j hj).trans hu)
def Blk (w:World) (g:Nat) (t:TypeId) (cs:Array Value):Prop:=w.heap[g]?=some (.cells cs t (0,0))
section
variable {w w':World} {g:Nat} {t:TypeId} {cs:Array Value}
theorem Blk.lt (h:Blk w g t cs):g < w.heap.size:=by
 rcases Nat.lt_or_ge g w.heap.size with hlt | hge
 ·exact hlt
 ·unfold Blk at h; rw [Array.getElem?_eq_none hge] at h; cases h
theorem Blk.cell (h:Blk w g t cs) (i:Nat):w.cell? ⟨g,i,none⟩=cs[i]?:=cell_of_row w g i cs t (0,0) h
theorem Blk.free (h:Blk w g t cs) (i:Nat):w.frozen? ⟨g,i,none⟩=false:=by
 unfold Blk at h
 simp [World.frozen?,h]
theorem Blk.new (w:World) (t:TypeId) (cs:Array Value):Blk (w.alloc (.cells cs t)) w.heap.size t cs:=heap_alloc_new w _
theorem Blk.alloc (h:Blk w g t cs) (o:Obj):Blk (w.alloc o) g t cs:=(Below.heap_alloc w o g h.lt).trans h
theorem Blk.set_ (h:Blk w g t cs) (i:Nat) (u:Value):Blk (w.setCell ⟨g,i,none⟩ u) g t (cs.setIfInBounds i u):=by
 unfold Blk at h ⊢
 simp [World.setCell,Array.getElem?_modify,h]
theorem Blk.far (h:Blk w g t cs) {p:Addr} (hp:g ≠ p.block) (u:Value):Blk (w.setCell p u) g t cs:=(Below.heap_setCell w p u g hp).trans h
theorem Blk.below {B:Nat} (h:Blk w g t cs) (hb:Below B w w') (hg:g < B):Blk w' g t cs:=(hb.block g hg).trans h
theorem Blk.next (h:Blk w g t cs) (hb:Below w.heap.size w w'):Blk w' g t cs:=h.below hb h.lt
theorem Blk.grown {row:Option Nat} (h:Blk w g t cs) (hb:w.grownBy w' row) (hg:some g ≠ row):Blk w' g t cs:=(hb.block g h.lt hg).trans h
theorem Blk.ne_ {g':Nat} {t':TypeId} {cs':Array Value} (h:Blk w g t cs) (h':Blk w g' t' cs') (hne:t ≠ t'):g ≠ g':=by
 rintro rfl
 unfold Blk at h h'
 rw [h] at h'
 injection h' with h'
 injection h' with _ ht
 exact hne ht
end
theorem wpList_push {P:Program} {ops:Array Oper} {rest:List Oper} {o:Oper} {a:Act} {Q:Exit→Act→World→Prop} (w:World) (hgd:o.guard=none) (s x:Operand) (t:TypeId)
  (ho:o.op = .call { callee:=.builtin .append,args:=#[s,x],argTypes:=#[t,t] })
  (base:Nat) (e:TypeId) (i:TypeInfo) (z:Value) (size bytes:Nat) (ht:P.underlying t=some (.slice e)) (hi:P.info? e=some i) (hz:i.zero=some z)
  (hsize:i.size=size) (hby:i.bytes=bytes) (hzs:z.cells.size=size) (hsz:0 < size)
  (v:Value) (n:Nat) (xs:List Value) (hs:a.eval s=v) (hown:w.ownsRow base e size v n xs) (cs:Array Value) (g:Nat) (hg:g=w.heap.size)
  (hx:a.eval x = .slice (some ⟨g,0,none⟩) 1 1) (hl:cs.size=size) (h1:cs.toList.all Value.oneCell'=true)
  (hn:n + 1≤maxLen) (hb:(n + 1) * bytes≤140737488355328) (hbase:base≤w.heap.size)
  (h:∀ v' w',w'.ownsRow base e size v' (n + 1) (xs++cs.toList)→(w.alloc (.cells cs e)).grownBy w' v.ownBlock→wpList P ops Q rest (a.put o.dst v') w') :
  wpList P ops Q (o :: rest) a (w.alloc (.cells cs e)):=by
 subst hg
 refine wpList_append_own _ hgd s x t ho base e i z size bytes ht hi hz hsize hby hzs hsz v n xs hs (hown.alloc _) ⟨w.heap.size,0,none⟩ 1 1 cs.toList hx (by simp [hl]) ?_ (List.all_eq_true.1 h1) hn hb (by simp; omega) (fun v' w' h2 h3 _=>h v' w' h2 h3)
 intro j u hu
 rw [add_plain,Nat.zero_add,cell_of_row _ _ _ cs e (0,0) (heap_alloc_new w _)]
 simpa using hu
inductive SK where
 | int (k:IntKind)
 | bool
 | str
def SK.ok:SK→Value→Prop
 | .int k,v=>∃ n,v = .int k n∧(Lit.int k n).wf=true
 | .bool,v=>∃ b,v = .bool b
 | .str,v=>∃ s:ByteArray,v = .string s∧s.size≤maxLen
def SK.of (P:Program) (t:TypeId):Option SK :=
 match P.underlying t with
 | some (.int k)=>some (.int k)
 | some .bool=>some .bool
 | some .string=>some .str
 | _=>none
section
variable {H:Type} {enc:TypeId × Value→H} {P:Program} {w:World} {base:Nat} {spare:Nat→Bool} {held:Bool}
theorem trod_scalar {t:TypeId} {k:SK} (hk:SK.of P t=some k) {fuel:Nat} {v:Value} {x:DataW H × List MemPlace} (h:DataW.trod enc P w base spare held fuel t [v]=some x):k.ok v:=by
 unfold SK.of at hk
 split at hk
 ·rename_i k' hu
  injection hk with hk
  subst hk
  obtain ⟨n,hv,_,hw⟩:=DataW.trod_int hu h
  simp only [List.cons.injEq,and_true] at hv
  exact ⟨n,hv,hw⟩
 ·rename_i hu
  injection hk with hk
  subst hk
  obtain ⟨b,hv,_⟩:=DataW.trod_bool hu h
  simp only [List.cons.injEq,and_true] at hv
  exact ⟨b,hv⟩
 ·rename_i hu
  injection hk with hk
  subst hk
  obtain ⟨s,hv,_,hw⟩:=DataW.trod_string hu h
  simp only [List.cons.injEq,and_true] at hv
  exact ⟨s,hv,hw⟩
 ·cases hk
theorem cells_none {a:Addr} {n:Nat} {cs:List Value} (hn:0 < n) (h:∀ j,j < n→w.cell? (a.add j)=cs[j]?) (hl:cs.length=n):a.spot=none:=by
 have h0:=h 0 hn
 rw [List.getElem?_eq_getElem (by omega)] at h0
 simpa [Addr.add] using World.cell?_spot h0
def Flat (P:Program) (e:TypeId) (ks:List SK):Prop :=
 P.cellsOf e=ks.length∧∀ {H:Type} (enc:TypeId × Value→H) (w:World) (base:Nat) (spare:Nat→Bool) (held:Bool) (fuel:Nat) (cs:List Value) (x:DataW H × List MemPlace),cs.length=ks.length →
  DataW.trod enc P w base spare held fuel e cs=some x→∀ (j:Nat) (u:Value),cs[j]?=some u→∃ k:SK,ks[j]?=some k∧k.ok u
theorem flat_scalar {e:TypeId} {k:SK} (hk:SK.of P e=some k) (hc:P.cellsOf e=1):Flat P e [k]:=by
 refine ⟨hc,fun enc w base spare held fuel cs x hl h j u hu => ?_⟩
 match cs,hl with
 | [v],_ =>
  have hj:j=0:=by have:=(List.getElem?_eq_some_iff.1 hu).1; simp at this; exact this
  subst hj
  simp at hu
  subst hu
  exact ⟨k,rfl,trod_scalar hk h⟩
theorem flat_struct {e:TypeId} {fs:Array Field} {ks:List SK} (he:P.underlying e=some (.struct fs)) (hone:oneCellFields P fs=true) (hC:P.cellsOf e=fs.size)
  (hks:(fs.toList.map fun f=>SK.of P f.type)=ks.map some):Flat P e ks:=by
 have hsz:fs.size=ks.length:=by have:=congrArg List.length hks; simpa using this
 refine ⟨hC.trans hsz,fun enc w base spare held fuel cs x hl h j u hu => ?_⟩
 obtain ⟨ys,n',hn',hy,hlen,hyl,hf⟩:=DataW.trod_struct he h
 have hjl:j < cs.length:=(List.getElem?_eq_some_iff.1 hu).1
 have hjs:j < fs.size:=by omega
 have hfj:fs[j]?=some fs[j]:=Array.getElem?_eq_getElem hjs
 obtain ⟨ho,hk1⟩:=hone_of hone j _ hfj
 have h1:=hf j _ hfj
 rw [ho,hk1] at h1
 have hone':(cs.drop j).take 1=[u]:=by
  rw [List.drop_eq_getElem_cons hjl]
  rw [List.getElem?_eq_getElem hjl] at hu
  injection hu with hu
  rw [hu]
  rfl
 rw [hone',List.getElem?_eq_getElem (by omega)] at h1
 have hkj:ks[j]?=some (ks[j]'(by omega)):=List.getElem?_eq_getElem (by omega)
 refine ⟨_,hkj,trod_scalar ?_ h1⟩
 have e1:=congrArg (fun l=>l[j]?) hks
 simp only [List.getElem?_map] at e1
 rw [hkj,show fs.toList[j]?=some fs[j] from by simp [hfj]] at e1
 simpa using e1
theorem open_flat {t e:TypeId} {ks:List SK} (ht:P.underlying t=some (.slice e)) (hF:Flat P e ks) (hpos:0 < ks.length) {fuel:Nat} {cs:List Value} {x:DataW H × List MemPlace} (h:DataW.trod enc P w base spare held fuel t cs=some x) :
  ∃ (A:Option Addr) (len cap:Nat) (xs:List Value),cs=[.slice A len cap]∧len≤cap∧cap≤maxLen∧xs.length=len * ks.length∧Rd w A xs ∧
   (∀ i,i < len→∀ j,j < ks.length→∃ (u:Value) (k:SK),xs[i * ks.length + j]?=some u∧ks[j]?=some k∧k.ok u) ∧
   (len=0∨∃ elems sp,x.1 = .slice elems sp∧elems.length=len):=by
 obtain ⟨hC,hF⟩:=hF
 rcases open_slice ht h with ⟨h0,_⟩ | ⟨a,len,cap,m,n,D,Pl,hcs,hb,hl,hm,hmm,hx,hi⟩
 ·exact ⟨none,0,0,[],h0,Nat.le_refl _,Nat.zero_le _,by simp,.inl rfl,fun i hi=>absurd hi (Nat.not_lt_zero _),.inl rfl⟩
 ·have hlm:len≤m:=by rw [hmm]; split <;> omega
  rw [hC] at hi
  have each:∀ i,i < len→∃ cs':List Value,cs'.length=ks.length∧(∀ j,j < ks.length→w.cell? (a.add (i * ks.length + j))=cs'[j]?)∧∀ (j:Nat) (u:Value),cs'[j]?=some u→∃ k:SK,ks[j]?=some k∧k.ok u:=by
   intro i hil
   obtain ⟨cs',hc,ht'⟩:=hi i (by omega)
   obtain ⟨_,hcl,hat⟩:=World.cells?_some hc
   exact ⟨cs',hcl,fun j hj=>by rw [← hat j hj,Go.Deep.add_add],hF _ _ _ _ _ _ _ _ hcl ht'⟩
  obtain ⟨f,hf⟩:=choose_lt (α:=List Value) each
  refine ⟨some a,len,cap,(List.range len).flatMap f,hcs,hl,hm, ?_, ?_, ?_,.inr ⟨_,_,by rw [hx],by simp⟩⟩
  ·have:∀ n,n≤len→((List.range n).flatMap f).length=n * ks.length:=by
    intro n hn
    induction n with
    | zero=>simp
    | succ n ih=>rw [List.range_succ,List.flatMap_append,List.length_append,ih (by omega)]; simp [(hf n (by omega)).1,Nat.succ_mul]
   exact this len (Nat.le_refl _)
  ·rcases Nat.eq_zero_or_pos len with h0 | h0
   ·left; simp [h0]
   ·right
    obtain ⟨b,off,spot⟩:=a
    have hsp:spot=none:=cells_none (a:=⟨b,off,spot⟩) (n:=ks.length) (cs:=f 0) hpos (fun j hj=>by have:=(hf 0 h0).2.1 j hj; simpa using this) (hf 0 h0).1
    subst hsp
    have e0:=(hf 0 h0).2.1 0 hpos
    rw [List.getElem?_eq_getElem (by rw [(hf 0 h0).1]; exact hpos)] at e0
    refine ⟨b,off,rfl,by simpa [Addr.add] using World.block_lt_of_cell? _ _ e0, ?_⟩
    have key:∀ n,n≤len→∀ j u,((List.range n).flatMap f)[j]?=some u→w.cell? ⟨b,off + j,none⟩=some u:=by
     intro n hn
     induction n with
     | zero=>intro j u hu; simp at hu
     | succ n ih =>
      intro j u hu
      have hln:((List.range n).flatMap f).length=n * ks.length:=by
       have:∀ n,n≤len→((List.range n).flatMap f).length=n * ks.length:=by
        intro n hn
        induction n with
        | zero=>simp
        | succ n ih=>rw [List.range_succ,List.flatMap_append,List.length_append,ih (by omega)]; simp [(hf n (by omega)).1,Nat.succ_mul]
       exact this n (by omega)
      rw [List.range_succ,List.flatMap_append] at hu
      by_cases hj:j < n * ks.length
      ·rw [List.getElem?_append_left (by omega)] at hu
       exact ih (by omega) j u hu
      ·rw [List.getElem?_append_right (by omega),hln] at hu
       simp only [List.flatMap_cons,List.flatMap_nil,List.append_nil] at hu
       have hjk:j - n * ks.length < ks.length:=Nat.lt_of_lt_of_eq (List.getElem?_eq_some_iff.1 hu).1 (hf n (by omega)).1
       have:=(hf n (by omega)).2.1 (j - n * ks.length) hjk
       rw [hu,show n * ks.length + (j - n * ks.length)=j from by omega] at this
       simpa [add_plain] using this
    exact key len (Nat.le_refl _)
  ·intro i hil j hj
   have hidx:∀ n,i < n→n≤len→((List.range n).flatMap f)[i * ks.length + j]?=(f i)[j]?:=by
    intro n hin hn
    induction n with
    | zero=>omega
    | succ n ih =>
     have hln:∀ n,n≤len→((List.range n).flatMap f).length=n * ks.length:=by
      intro n hn
      induction n with
      | zero=>simp
      | succ n ih=>rw [List.range_succ,List.flatMap_append,List.length_append,ih (by omega)]; simp [(hf n (by omega)).1,Nat.succ_mul]
     rw [List.range_succ,List.flatMap_append]
     by_cases e:i=n
     ·subst e
      rw [List.getElem?_append_right (by rw [hln i (by omega)]; omega),hln i (by omega)]
      simp
     ·have:(i + 1) * ks.length≤n * ks.length:=Nat.mul_le_mul_right _ (by omega)
      rw [Nat.succ_mul] at this
      rw [List.getElem?_append_left (by rw [hln n (by omega)]; omega)]
      exact ih (by omega) (by omega)
   have hjl:j < (f i).length:=by rw [(hf i hil).1]; exact hj
   obtain ⟨k,hk,hok⟩:=(hf i hil).2.2 j _ (List.getElem?_eq_getElem hjl)
   exact ⟨_,k,(hidx len hil (Nat.le_refl _)).trans (List.getElem?_eq_getElem hjl),hk,hok⟩
theorem flat_list {α:Type} {en:α→List Value} {ok:α→Prop} {ks:List SK} (hdec:∀ vs:List Value,vs.length=ks.length→(∀ j,j < ks.length→∃ (u:Value) (k:SK),vs[j]?=some u∧ks[j]?=some k∧k.ok u)→∃ x,vs=en x∧ok x) :
  ∀ (len:Nat) (xs:List Value),xs.length=len * ks.length→(∀ i,i < len→∀ j,j < ks.length→∃ (u:Value) (k:SK),xs[i * ks.length + j]?=some u∧ks[j]?=some k∧k.ok u)→∃ l:List α,xs=l.flatMap en∧l.length=len∧∀ x ∈ l,ok x:=by
 intro len
 induction len with
 | zero=>intro xs hl _; exact ⟨[],by simp at hl; simp [hl],rfl,fun x hx=>by cases hx⟩
 | succ n ih =>
  intro xs hl hall
  have hsz:ks.length≤xs.length:=by rw [hl,Nat.succ_mul]; omega
  obtain ⟨x,hx,hokx⟩:=hdec (xs.take ks.length) (by simp; omega) (fun j hj=>by
   obtain ⟨u,k,h1,h2⟩:=hall 0 (by omega) j hj
   refine ⟨u,k, ?_,h2⟩
   rw [List.getElem?_take,if_pos hj, ← h1]; simp)
  obtain ⟨l,h1,h2,h3⟩:=ih (xs.drop ks.length) (by rw [List.length_drop,hl,Nat.succ_mul]; omega) (fun i hi j hj=>by
   obtain ⟨u,k,g1,g2⟩:=hall (i + 1) (by omega) j hj
   refine ⟨u,k, ?_,g2⟩
   rw [List.getElem?_drop, ← g1]; congr 1; rw [Nat.succ_mul]; omega)
  refine ⟨x :: l, ?_,by simp [h2], ?_⟩
  ·rw [List.flatMap_cons, ← hx, ← h1,List.take_append_drop]
  ·intro y hy
   cases hy with
   | head=>exact hokx
   | tail _ hy=>exact h3 y hy
end
def I64 (n:Int):Prop:=(Lit.int .i64 n).wf=true
theorem I64.bd {n:Int} (h:I64 n) : -9223372036854775808≤n∧n≤9223372036854775807:=by
 simpa [I64,Lit.wf,IntKind.min,IntKind.max,IntKind.signed,IntKind.bits] using h
def en2 (x:Int × Int):List Value:=[.int .i64 x.1,.int .i64 x.2]
theorem en2_len (x:Int × Int):(en2 x).length=2:=rfl
def ok2 (x:Int × Int):Prop:=I64 x.1∧I64 x.2
theorem dec2 (vs:List Value) (hl:vs.length=2) (h:∀ j,j < 2→∃ (u:Value) (k:SK),vs[j]?=some u∧([SK.int .i64,.int .i64]:List SK)[j]?=some k∧k.ok u):∃ x:Int × Int,vs=en2 x∧ok2 x:=by
 match vs,hl with
 | [a,b],_ =>
  obtain ⟨u,k,h1,h2,h3⟩:=h 0 (by omega)
  obtain ⟨u',k',g1,g2,g3⟩:=h 1 (by omega)
  simp at h1 h2 g1 g2
  subst h1 h2 g1 g2
  obtain ⟨n,rfl,hn⟩:=h3
  obtain ⟨m,rfl,hm⟩:=g3
  exact ⟨(n,m),rfl,hn,hm⟩
def en1 (x:Int):List Value:=[.int .i64 x]
theorem en1_len (x:Int):(en1 x).length=1:=rfl
def ok1 (x:Int):Prop:=I64 x
theorem dec1 (vs:List Value) (hl:vs.length=1) (h:∀ j,j < 1→∃ (u:Value) (k:SK),vs[j]?=some u∧([SK.int .i64]:List SK)[j]?=some k∧k.ok u):∃ x:Int,vs=en1 x∧ok1 x:=by
 match vs,hl with
 | [a],_ =>
  obtain ⟨u,k,h1,h2,h3⟩:=h 0 (by omega)
  simp at h1 h2
  subst h1 h2
  obtain ⟨n,rfl,hn⟩:=h3
  exact ⟨n,rfl,hn⟩
structure Quad where
 a:Int
 b:Int
 c:Int
 d:Int
section
variable {H:Type} {enc:TypeId × Value→H} {P:Program}
theorem trodAll_again (hl:laidOutB P=true) {W W':World} (hb:Below W.heap.size W W') :
  ∀ (ts:List TypeId) (vs:List Value) (ds:List (DataW H)) (ps:List MemPlace),(∀ t ∈ ts,P.readableRec t=true∧t < P.types.size)→(∀ x ∈ ps,x.block < W.heap.size) →
   DataW.TrodAll enc P W 0 (fun _=>true) true ts vs ds ps→DataW.TrodAll enc P W' 0 (fun b=>decide (b < W.heap.size)) true ts vs ds ps:=by
 intro ts
 induction ts with
 | nil =>
  intro vs ds ps _ _ h
  cases vs <;> cases ds <;> simp_all [DataW.TrodAll]
 | cons t ts ih =>
  intro vs ds ps hr hp h
  cases vs with
  | nil=>simp [DataW.TrodAll] at h
  | cons v vs =>
   cases ds with
   | nil=>simp [DataW.TrodAll] at h
   | cons d ds =>
    obtain ⟨p,q,h1,h2,rfl⟩:=h
    exact ⟨p,q,Below.trod hl (hr t (by simp)).1 (hr t (by simp)).2 h1 hb (fun x hx=>hp x (by simp [hx])),ih vs ds q (fun t' ht'=>hr t' (by simp [ht'])) (fun x hx=>hp x (by simp [hx])) h2,rfl⟩
def Law (w:World) (e:Ending) (w':World):Prop:=e = .returned (.bool true)∧Below w.heap.size w w'
theorem law_post {fn:Func} {s:ChangeSpec} {W W':World} {args:Array Value} {ds gs:List (DataW H)} {before:List MemPlace} {tb:TypeId} (hl:laidOutB P=true) (hv:s.vars=[])
  (hfn:∀ ds:List (DataW H),ds.length=fn.params.toList.length→(s.fn H (ds++[])).results=[.lit (.bool true)]∧(s.fn H (ds++[])).args=ds∧(s.fn H (ds++[])).vars=[])
  (hr:∀ t ∈ fn.params.toList,P.readableRec t=true∧t < P.types.size) (hres:fn.resultTypes=#[tb]) (htb:P.underlying tb=some .bool)
  (hW:DataW.Whole enc P fn.params.toList s.vars false W args.toList ds gs before) {e:Ending} (h:Law W e W') :
  ∃ v,e = .returned v∧s.post enc P fn false true false false W args v W':=by
 obtain ⟨rfl,hb⟩:=h
 refine ⟨_,rfl, ?_⟩
 have hW':=hW
 obtain ⟨p,q,hA,hV,rfl,_,_⟩:=hW
 rw [hv] at hV
 have hgs:gs=[]∧q=[]:=by
  cases gs with
  | nil=>exact ⟨rfl,hV⟩
  | cons g gs=>simp [DataW.TrodVars] at hV
 obtain ⟨rfl,rfl⟩:=hgs
 have hlen:∀ (ts:List TypeId) (vs:List Value) (ds:List (DataW H)) (ps:List MemPlace),DataW.TrodAll enc P W 0 (fun _=>true) true ts vs ds ps→ds.length=ts.length:=by
  intro ts
  induction ts with
  | nil=>intro vs ds ps h; cases vs <;> cases ds <;> simp_all [DataW.TrodAll]
  | cons t ts ih =>
   intro vs ds ps h
   cases vs with
   | nil=>simp [DataW.TrodAll] at h
   | cons v vs =>
    cases ds with
    | nil=>simp [DataW.TrodAll] at h
    | cons d ds =>
     obtain ⟨p,q,h1,h2,rfl⟩:=h
     simp [ih vs ds q h2]
 obtain ⟨h1,h2,h3⟩:=hfn ds (hlen _ _ _ _ hA)
 refine ⟨_,_,_,[],p,[],hW', ?_, ?_, ?_,hb.frame _,fun h=>by cases h⟩
 ·rw [h1,hres]
  exact trodAll_mk1 (shut_bool htb true)
 ·rw [h2]
  exact trodAll_again hl hb _ _ _ _ hr (fun x hx=>by simpa using hW'.lt x (by simpa using hx)) hA
 ·rw [hv,h3]; rfl
end
end Go.Proofs.YtakaalldbnklcaaGreat
namespace Go.Proofs.YtakaalldbnklcaaGreat
open Go.RowKit
section
variable {κ ν:Type} [DecidableEq κ]
def kpos (a:κ):List κ→Nat→Option Nat
 | [],_=>none
 | b :: l,i=>if a=b then some i else kpos a l (i + 1)
theorem kpos_none {a:κ}:∀ {l:List κ} {i:Nat},a ∉ l→kpos a l i=none
 | [],_,_=>rfl
 | b :: l,i,h=>by
  simp only [List.mem_cons,not_or] at h
  simp only [kpos,if_neg h.1]
  exact kpos_none h.2
theorem kpos_some {a:κ}:∀ {l:List κ} {i:Nat},a ∈ l→∃ j,kpos a l i=some (i + j)∧l[j]?=some a
 | b :: l,i,h=>by
  by_cases e:a=b
  ·subst e
   exact ⟨0,by simp [kpos],rfl⟩
  ·have h':a ∈ l:=by simpa [e] using h
   obtain ⟨j,h1,h2⟩:=kpos_some (i:=i + 1) h'
   exact ⟨j + 1,by simp only [kpos,if_neg e,h1]; congr 1; omega,by simpa using h2⟩
def mget (m:List (κ × ν)) (a:κ):Option ν:=(m.find? fun p=>decide (p.1=a)).map (·.2)
def mset (m:List (κ × ν)) (a:κ) (b:ν):List (κ × ν):=if a ∈ m.map (·.1) then m.map (fun p=>if p.1=a then (a,b) else p) else m++[(a,b)]
def mdel (m:List (κ × ν)) (a:κ):List (κ × ν):=m.filter fun p=>decide (p.1 ≠ a)
theorem mget_none {m:List (κ × ν)} {a:κ} (h:a ∉ m.map (·.1)):mget m a=none:=by
 unfold mget
 rw [List.find?_eq_none.2 (fun p hp=>by simp only [decide_eq_true_eq]; rintro rfl; exact h (List.mem_map_of_mem hp))]
 rfl
theorem mget_mem {m:List (κ × ν)} {a:κ} {b:ν} (h:mget m a=some b):(a,b) ∈ m:=by
 unfold mget at h
 obtain ⟨p,h1,rfl⟩:=Option.map_eq_some_iff.1 h
 have:=List.find?_some h1
 simp only [decide_eq_true_eq] at this
 subst this
 exact List.mem_of_find?_eq_some h1
theorem mget_key {m:List (κ × ν)} {a:κ} (h:a ∈ m.map (·.1)):∃ b,mget m a=some b:=by
 obtain ⟨p,hp,rfl⟩:=List.mem_map.1 h
 unfold mget
 cases hf:m.find? fun q=>decide (q.1=p.1) with
 | none=>have:=List.find?_eq_none.1 hf p hp; simp at this
 | some q=>exact ⟨q.2,rfl⟩
theorem mget_isSome {m:List (κ × ν)} {a:κ}:(mget m a).isSome=true ↔ a ∈ m.map (·.1):=by
 constructor
 ·intro h
  obtain ⟨b,hb⟩:=Option.isSome_iff_exists.1 h
  exact List.mem_map.2 ⟨_,mget_mem hb,rfl⟩
 ·intro h
  obtain ⟨b,hb⟩:=mget_key h
  simp [hb]
theorem mget_of_mem {m:List (κ × ν)} (hd:(m.map (·.1)).Nodup) {p:κ × ν} (h:p ∈ m):mget m p.1=some p.2:=by
 induction m with
 | nil=>cases h
 | cons q m ih =>
  simp only [List.map_cons,List.nodup_cons] at hd
  cases h with
  | head=>simp [mget]
  | tail _ h =>
   have hne:q.1 ≠ p.1:=fun e=>hd.1 (by rw [e]; exact List.mem_map_of_mem h)
   have:=ih hd.2 h
   unfold mget at this ⊢
   rw [List.find?_cons_of_neg (by simpa using hne)]
   exact this
theorem mset_keys {m:List (κ × ν)} {a:κ} {b:ν}:(mset m a b).map (·.1)=if a ∈ m.map (·.1) then m.map (·.1) else m.map (·.1)++[a]:=by
 unfold mset
 split
 ·rw [List.map_map]
  refine List.map_congr_left fun p _ => ?_
  simp only [Function.comp]
  split
  ·rename_i h; exact h.symm
  ·rfl
 ·simp
theorem mset_nodup {m:List (κ × ν)} (hd:(m.map (·.1)).Nodup) (a:κ) (b:ν):((mset m a b).map (·.1)).Nodup:=by
 rw [mset_keys]
 split
 ·exact hd
 ·rename_i h
  exact List.nodup_append.2 ⟨hd,by simp,fun x hx y hy e=>h (by simp at hy; subst hy; subst e; exact hx)⟩
theorem mdel_nodup {m:List (κ × ν)} (hd:(m.map (·.1)).Nodup) (a:κ):((mdel m a).map (·.1)).Nodup:=by
 exact hd.sublist (List.Sublist.map _ List.filter_sublist)
theorem mget_mset {m:List (κ × ν)} {a c:κ} {b:ν}:mget (mset m a b) c=if c=a then some b else mget m c:=by
 unfold mset
 split
 ·rename_i h
  induction m with
  | nil=>simp at h
  | cons p m ih =>
   by_cases hp:p.1=a
   ·by_cases hc:c=a
    ·subst hc; simp [mget,hp]
    ·have hpc:¬ p.1=c:=fun e=>hc (by rw [← e,hp])
     have hac:¬ a=c:=fun e=>hc e.symm
     rw [if_neg hc]
     have e1:mget (p :: m) c=mget m c:=by unfold mget; rw [List.find?_cons_of_neg (by simpa using hpc)]
     rw [e1]
     have e2:mget ((p :: m).map fun p=>if p.1=a then (a,b) else p) c=mget (m.map fun p=>if p.1=a then (a,b) else p) c:=by
      unfold mget
      rw [List.map_cons,if_pos hp,List.find?_cons_of_neg (by simpa using hac)]
     rw [e2]
     by_cases hm:a ∈ m.map (·.1)
     ·rw [ih hm,if_neg hc]
     ·congr 1
      rw [List.map_congr_left (g:=id) (fun q hq=>by
       have:¬ q.1=a:=fun e=>hm (by rw [← e]; exact List.mem_map_of_mem hq)
       simp [this])]
      simp
   ·have hm:a ∈ m.map (·.1):=by
     simp only [List.map_cons,List.mem_cons] at h
     exact h.resolve_left (fun e=>hp e.symm)
    by_cases hpc:p.1=c
    ·have hc:¬ c=a:=fun e=>hp (by rw [hpc,e])
     rw [if_neg hc]
     unfold mget
     rw [List.map_cons,if_neg hp,List.find?_cons_of_pos (by simpa using hpc),List.find?_cons_of_pos (by simpa using hpc)]
    ·have e1:mget (p :: m) c=mget m c:=by unfold mget; rw [List.find?_cons_of_neg (by simpa using hpc)]
     have e2:mget ((p :: m).map fun p=>if p.1=a then (a,b) else p) c=mget (m.map fun p=>if p.1=a then (a,b) else p) c:=by
      unfold mget
      rw [List.map_cons,if_neg hp,List.find?_cons_of_neg (by simpa using hpc)]
     rw [e1,e2,ih hm]
 ·rename_i h
  unfold mget
  rw [List.find?_append]
  by_cases hc:c=a
  ·subst hc
   rw [List.find?_eq_none.2 (fun p hp=>by simp only [decide_eq_true_eq]; rintro rfl; exact h (List.mem_map_of_mem hp))]
   simp
  ·have:¬ a=c:=fun e=>hc e.symm
   rw [if_neg hc]
   simp [this]
theorem mget_mdel {m:List (κ × ν)} {a c:κ}:mget (mdel m a) c=if c=a then none else mget m c:=by
 by_cases hc:c=a
 ·subst hc
  rw [if_pos rfl]
  exact mget_none (by simp [mdel])
 ·rw [if_neg hc]
  unfold mget mdel
  rw [List.find?_filter]
  congr 1
  refine congrArg (fun f=>List.find? f m) (funext fun p => ?_)
  by_cases hp:p.1=c
  ·simp [hp,hc]
  ·simp [hp]
end
structure KeyLaw (P:Program) (kt:TypeId) {κ:Type} [DecidableEq κ] (kE:κ→Value):Prop where
 check:∀ (e:Bool) (a:κ) (w:World),(Instr.checkKey e 10000 kt (kE a)).run P w = .ok () w
 find:∀ (a:κ) (es:List MapEntry) (ks:List κ) (w:World),es.map (·.key)=ks.map kE→(Instr.findKey kt (kE a) es).run P w = .ok ((kpos a ks 0).bind fun i=>(es[i]?).map fun e=>(i,e.val)) w
 stays:∀ (a:κ) (w:World),(Instr.keyThatStays (kE a) (kE a)).run P w = .ok (kE a) w
section
variable {P:Program}
theorem findAsking_run {kt:TypeId} {κ:Type} [DecidableEq κ] {kE:κ→Value} (heq:∀ (a b:κ) (w:World),(Op.equal kt (kE a) (kE b)).run P w = .ok (decide (a=b)) w) (a:κ) :
  ∀ (es:List MapEntry) (ks:List κ) (i:Nat) (w:World),es.map (·.key)=ks.map kE →
   (Instr.findAsking kt (kE a) es i).run P w = .ok ((kpos a ks i).bind fun j=>(es[j - i]?).map fun e=>(j,e.val)) w
 | [],ks,i,w,h=>by
  have:ks=[]:=by simpa using h.symm
  subst this
  simp [Instr.findAsking,kpos]
 | e :: es,ks,i,w,h=>by
  cases ks with
  | nil=>simp at h
  | cons b ks =>
   simp only [List.map_cons,List.cons.injEq] at h
   unfold Instr.findAsking
   rw [Sem.run_bind,h.1,heq]
   simp only [Result.andThen_ok]
   by_cases hab:a=b
   ·subst hab
    simp [kpos]
   ·simp only [hab,decide_false]
    rw [show (if false=true then (pure (some (i,e.val)):Sem _) else Instr.findAsking kt (kE a) es (i + 1))=Instr.findAsking kt (kE a) es (i + 1) from rfl]
    rw [findAsking_run heq a es ks (i + 1) w h.2]
    simp only [kpos,if_neg hab]
    have key:∀ (l:List κ) (s j:Nat),kpos a l s=some j→s≤j:=by
     intro l
     induction l with
     | nil=>intro s j h; simp [kpos] at h
     | cons c l ih =>
      intro s j h
      simp only [kpos] at h
      split at h
      ·injection h with h; omega
      ·have:=ih (s + 1) j h; omega
    cases hk:kpos a ks (i + 1) with
    | none=>rfl
    | some j =>
     have hj:=key ks (i + 1) j hk
     simp only [Option.bind_some]
     rw [show j - i=(j - (i + 1)) + 1 from by omega,List.getElem?_cons_succ]
theorem keyLaw_of {kt:TypeId} {κ:Type} [DecidableEq κ] {kE:κ→Value} (hcheck:∀ (e:Bool) (a:κ) (w:World),(Instr.checkKey e 10000 kt (kE a)).run P w = .ok () w)
  (heq:∀ (a b:κ) (w:World),(Op.equal kt (kE a) (kE b)).run P w = .ok (decide (a=b)) w) (hstay:∀ (a:κ) (w:World),(Instr.keyThatStays (kE a) (kE a)).run P w = .ok (kE a) w)
  {td:TypeDesc} (hu:P.underlying kt=some td) (hnow:∀ a b:κ,Instr.sameNow td (kE a) (kE b)=none∨Instr.sameNow td (kE a) (kE b)=some (decide (a=b))):KeyLaw P kt kE where
 check:=hcheck
 stays:=hstay
 find := by
  intro a es ks w h
  have hnowl:∀ (es:List MapEntry) (ks:List κ) (i:Nat),es.map (·.key)=ks.map kE→∀ r,Instr.findNow td (kE a) es i=some r→r=(kpos a ks i).bind fun j=>(es[j - i]?).map fun e=>(j,e.val):=by
   intro es
   induction es with
   | nil =>
    intro ks i h r hr
    have:ks=[]:=by simpa using h.symm
    subst this
    simp [Instr.findNow] at hr
    subst hr; rfl
   | cons e es ih =>
    intro ks i h r hr
    cases ks with
    | nil=>simp at h
    | cons b ks =>
     simp only [List.map_cons,List.cons.injEq] at h
     unfold Instr.findNow at hr
     rw [h.1] at hr
     rcases hnow a b with hn | hn
     ·rw [hn] at hr; simp at hr
     ·rw [hn] at hr
      by_cases hab:a=b
      ·subst hab
       simp at hr
       subst hr
       simp [kpos]
      ·simp only [hab,decide_false] at hr
       rw [ih ks (i + 1) h.2 r hr]
       simp only [kpos,if_neg hab]
       have key:∀ (l:List κ) (s j:Nat),kpos a l s=some j→s≤j:=by
        intro l
        induction l with
        | nil=>intro s j h; simp [kpos] at h
        | cons c l ih =>
         intro s j h
         simp only [kpos] at h
         split at h
         ·injection h with h; omega
         ·have:=ih (s + 1) j h; omega
       cases hk:kpos a ks (i + 1) with
       | none=>rfl
       | some j =>
        have hj:=key ks (i + 1) j hk
        simp only [Option.bind_some]
        rw [show j - i=(j - (i + 1)) + 1 from by omega,List.getElem?_cons_succ]
  unfold Instr.findKey
  rw [Sem.run_bind,run_underlying hu]
  simp only [Result.andThen_ok]
  cases hn:Instr.findNow td (kE a) es 0 with
  | none =>
   simp only []
   rw [findAsking_run heq a es ks 0 w h]
   simp
  | some r =>
   simp only [Sem.run_pure]
   rw [hnowl es ks 0 h r hn]
   simp
theorem intKey {kt:TypeId} {k:IntKind} (hu:P.underlying kt=some (.int k)):KeyLaw P kt (fun n:Int=>Value.int k n):=by
 refine keyLaw_of ?_ ?_ ?_ hu ?_
 ·intro e a w
  show (Instr.checkKey e (9999 + 1) kt (.int k a)).run P w=_
  unfold Instr.checkKey
  simp [run_underlying hu]
 ·intro a b w
  show (Op.equalIn (9999 + 1) kt (.int k a) (.int k b)).run P w=_
  unfold Op.equalIn
  simp [run_underlying hu]
  rfl
 ·intro a w
  show (Instr.keyThatStays (.int k a) (.int k a)).run P w=_
  unfold Instr.keyThatStays
  simp [Instr.sameBits]
 ·intro a b
  right
  simp [Instr.sameNow]
  rfl
end
end Go.Proofs.YtakaalldbnklcaaGreat
namespace Go.Proofs.YtakaalldbnklcaaGreat
open Go.RowKit
section
variable {κ ν:Type} {P:Program} {w w':World} {B:Nat} {kE:κ→Value} {vE:ν→Value} {m:List (κ × ν)} {kt:TypeId}
def IsMap (w:World) (B:Nat) (kE:κ→Value) (vE:ν→Value) (m:List (κ × ν)):Prop :=
 ∃ (es:List MapEntry) (clock:Nat),w.heap[B]?=some (.map es.toArray clock)∧es.map (fun e=>(e.key,e.val))=m.map (fun p=>(kE p.1,vE p.2))∧(es.map (·.born)).Nodup∧(∀ e ∈ es,e.born < clock)∧(m.map (·.1)).Nodup
theorem IsMap.made (w:World) (kE:κ→Value) (vE:ν→Value):IsMap (w.alloc (.map #[] 0)) w.heap.size kE vE [] :=
 ⟨[],0,(MapKept.heap_alloc w _).1,rfl,by simp,by simp,by simp⟩
theorem IsMap.lt (h:IsMap w B kE vE m):B < w.heap.size:=by
 obtain ⟨es,c,hb,_⟩:=h
 rcases Nat.lt_or_ge B w.heap.size with hlt | hge
 ·exact hlt
 ·rw [Array.getElem?_eq_none hge] at hb; cases hb
theorem IsMap.keep (h:IsMap w B kE vE m) (hk:w'.heap[B]?=w.heap[B]?):IsMap w' B kE vE m:=by
 obtain ⟨es,c,hb,r⟩:=h
 exact ⟨es,c,hk.trans hb,r⟩
theorem IsMap.next (h:IsMap w B kE vE m) (hb:Below w.heap.size w w'):IsMap w' B kE vE m:=h.keep (hb.block B h.lt)
theorem IsMap.alloc (h:IsMap w B kE vE m) (o:Obj):IsMap (w.alloc o) B kE vE m:=h.keep (Below.heap_alloc w o B h.lt)
theorem IsMap.drew (h:IsMap w B kE vE m):IsMap w.drew B kE vE m:=h
theorem IsMap.far (h:IsMap w B kE vE m) {p:Addr} (hp:B ≠ p.block) (u:Value):IsMap (w.setCell p u) B kE vE m:=h.keep (Below.heap_setCell w p u B hp)
theorem IsMap.setCell (h:IsMap w B kE vE m) (p:Addr) (u:Value):IsMap (w.setCell p u) B kE vE m:=by
 by_cases hp:B=p.block
 ·refine h.keep ?_
  obtain ⟨es,c,hb,_⟩:=h
  subst hp
  simp [World.setCell,Array.getElem?_modify,hb]
 ·exact h.far hp u
theorem IsMap.nodup (h:IsMap w B kE vE m):(m.map (·.1)).Nodup:=by obtain ⟨_,_,_,_,_,_,h⟩:=h; exact h
theorem IsMap.notBlk (h:IsMap w B kE vE m) {g:Nat} {t:TypeId} {cs:Array Value} (hb:Blk w g t cs):B ≠ g:=by
 rintro rfl
 obtain ⟨es,c,h1,_⟩:=h
 unfold Blk at hb
 rw [h1] at hb
 cases hb
theorem IsMap.notOwn (h:IsMap w B kE vE m) {base:Nat} {e:TypeId} {size n:Nat} {v:Value} {xs:List Value} (ho:w.ownsRow base e size v n xs):some B ≠ v.ownBlock:=by
 intro he
 rcases ho.2 with ⟨rfl,_⟩ | ⟨g,cap,cur,rfl,_,hh,_⟩
 ·simp [Value.ownBlock] at he
 ·have hg:B=g:=by simpa [Value.ownBlock] using he
  subst hg
  obtain ⟨es,c,h1,_⟩:=h
  rw [h1] at hh
  cases hh
theorem get_at {es:List MapEntry} {m:List (κ × ν)} (hr:es.map (fun e=>(e.key,e.val))=m.map (fun p=>(kE p.1,vE p.2))) {j:Nat} {p:κ × ν} (hj:m[j]?=some p) :
  ∃ e,es[j]?=some e∧e.key=kE p.1∧e.val=vE p.2:=by
 have h:=congrArg (fun l=>l[j]?) hr
 simp only [List.getElem?_map,hj,Option.map_some] at h
 obtain ⟨e,he,h2⟩:=Option.map_eq_some_iff.1 h
 simp only [Prod.mk.injEq] at h2
 exact ⟨e,he,h2.1,h2.2⟩
theorem keys_of {es:List MapEntry} {m:List (κ × ν)} (hr:es.map (fun e=>(e.key,e.val))=m.map (fun p=>(kE p.1,vE p.2))):es.map (·.key)=(m.map (·.1)).map kE:=by
 have h:=congrArg (List.map Prod.fst) hr
 rw [List.map_map,List.map_map] at h
 rw [List.map_map]
 exact h
variable [DecidableEq κ]
theorem IsMap.find (K:KeyLaw P kt kE) {es:List MapEntry} (hr:es.map (fun e=>(e.key,e.val))=m.map (fun p=>(kE p.1,vE p.2))) (hd:(m.map (·.1)).Nodup) (a:κ) (w:World) :
  (a ∉ m.map (·.1)∧(Instr.findKey kt (kE a) es).run P w = .ok none w)∨∃ (j:Nat) (b:ν) (e:MapEntry),m[j]?=some (a,b)∧es[j]?=some e∧e.key=kE a∧e.val=vE b∧mget m a=some b∧(Instr.findKey kt (kE a) es).run P w = .ok (some (j,vE b)) w:=by
 have hf:=K.find a es (m.map (·.1)) w (keys_of hr)
 by_cases ha:a ∈ m.map (·.1)
 ·right
  obtain ⟨j,h1,h2⟩:=kpos_some (i:=0) ha
  simp only [Nat.zero_add] at h1
  rw [List.getElem?_map] at h2
  obtain ⟨p,hp,hpa⟩:=Option.map_eq_some_iff.1 h2
  obtain ⟨e,he,hk,hv⟩:=get_at hr hp
  have hm:=mget_of_mem hd (List.mem_of_getElem? hp)
  subst hpa
  refine ⟨j,p.2,e,hp,he,hk,hv,hm, ?_⟩
  rw [hf,h1]
  simp [he,hv]
 ·left
  refine ⟨ha, ?_⟩
  rw [hf,kpos_none ha]
  rfl
def looked (z:Value) (vE:ν→Value) (m:List (κ × ν)) (a:κ):Value:=match mget m a with | some b=>vE b | none=>z
theorem IsMap.look {mt kt et:TypeId} (h:IsMap w B kE vE m) (K:KeyLaw P kt kE) (hm:P.underlying mt=some (.map kt et)) {z:Value} (hz:(zeroValue et).run P w = .ok z w) (a:κ) :
  (Instr.lookup mt (.map (some B)) (kE a) false).run P w = .ok (looked z vE m a) w:=by
 obtain ⟨es,c,hb,hr,hn,hbn,hd⟩:=h
 unfold Instr.lookup looked
 rcases IsMap.find K hr hd a w with ⟨ha,hf⟩ | ⟨j,b,e,_,_,_,_,hg,hf⟩
 ·simp [run_underlying hm,Sem.run,hb,K.check,hf,hz,mget_none ha,getObj]
 ·simp [run_underlying hm,Sem.run,hb,K.check,hf,hg,getObj]
theorem IsMap.lookOk {mt kt et:TypeId} (h:IsMap w B kE vE m) (K:KeyLaw P kt kE) (hm:P.underlying mt=some (.map kt et)) {z:Value} (hz:(zeroValue et).run P w = .ok z w) (a:κ) :
  (Instr.lookup mt (.map (some B)) (kE a) true).run P w = .ok (.tuple #[looked z vE m a,.bool (mget m a).isSome]) w:=by
 obtain ⟨es,c,hb,hr,hn,hbn,hd⟩:=h
 unfold Instr.lookup looked
 rcases IsMap.find K hr hd a w with ⟨ha,hf⟩ | ⟨j,b,e,_,_,_,_,hg,hf⟩
 ·simp [run_underlying hm,Sem.run,hb,K.check,hf,hz,mget_none ha,getObj]
 ·simp [run_underlying hm,Sem.run,hb,K.check,hf,hg,getObj]
theorem IsMap.store {mt et:TypeId} (h:IsMap w B kE vE m) (K:KeyLaw P kt kE) (hm:P.underlying mt=some (.map kt et)) (a:κ) (b:ν) :
  ∃ w',(Instr.mapUpdate mt (.map (some B)) (kE a) (vE b)).run P w = .ok () w'∧IsMap w' B kE vE (mset m a b)∧w.grownBy w' (some B)∧w'.heap.size=w.heap.size:=by
 obtain ⟨es,c,hb,hr,hn,hbn,hd⟩:=h
 have hlt:B < w.heap.size:=by
  rcases Nat.lt_or_ge B w.heap.size with hlt | hge
  ·exact hlt
  ·rw [Array.getElem?_eq_none hge] at hb; cases hb
 have grown:∀ o,w.grownBy { w with heap:=w.heap.setIfInBounds B o } (some B):=fun o =>
  ⟨rfl,rfl,rfl,by simp,fun k hk hne=>by
   have:k ≠ B:=fun e=>hne (by rw [e])
   simp [Ne.symm this]⟩
 unfold Instr.mapUpdate
 rcases IsMap.find K hr hd a w with ⟨ha,hf⟩ | ⟨j,b0,e,hmj,hej,hek,hev,hg,hf⟩
 ·refine ⟨{ w with heap:=w.heap.setIfInBounds B (.map (es.toArray.push { key:=kE a,val:=vE b,born:=c }) (c + 1)) }, ?_, ?_,grown _,by simp⟩
  ·simp [run_underlying hm,Sem.run,hb,K.check,hf,getObj,setObj]
  ·refine ⟨es++[{ key:=kE a,val:=vE b,born:=c }],c + 1, ?_, ?_, ?_, ?_, ?_⟩
   ·simp [hlt]
   ·unfold mset
    rw [if_neg ha,List.map_append,List.map_append,hr]
    rfl
   ·rw [List.map_append]
    refine List.nodup_append.2 ⟨hn,by simp,fun x hx y hy e => ?_⟩
    simp only [List.map_cons,List.map_nil,List.mem_singleton] at hy
    obtain ⟨e0,he0,rfl⟩:=List.mem_map.1 hx
    have:=hbn e0 he0
    omega
   ·intro e0 he0
    rcases List.mem_append.1 he0 with h1 | h1
    ·have:=hbn e0 h1; omega
    ·simp only [List.mem_singleton] at h1; subst h1; simp
   ·exact mset_nodup hd a b
 ·have hje:j < es.length:=(List.getElem?_eq_some_iff.1 hej).1
  refine ⟨{ w with heap:=w.heap.setIfInBounds B (.map (es.toArray.modify j fun e=>{ e with key:=kE a,val:=vE b }) c) }, ?_, ?_,grown _,by simp⟩
  ·simp [run_underlying hm,Sem.run,hb,K.check,hf,getObj,setObj,hej,hek,K.stays]
  ·refine ⟨es.modify j fun e=>{ e with key:=kE a,val:=vE b },c, ?_, ?_, ?_, ?_, ?_⟩
   ·simp [hlt]
   ·unfold mset
    have ha:a ∈ m.map (·.1):=List.mem_map.2 ⟨_,List.mem_of_getElem? hmj,rfl⟩
    rw [if_pos ha]
    apply List.ext_getElem?
    intro i
    have hi:=congrArg (fun l=>l[i]?) hr
    simp only [List.getElem?_map] at hi
    simp only [List.getElem?_map,List.getElem?_modify]
    by_cases hij:j=i
    ·subst hij
     simp [hej,hmj]
    ·cases hmi:m[i]? with
     | none=>rw [hmi] at hi; simp at hi; simp [hi,hij]
     | some p =>
      obtain ⟨ei,hei,hk1,hv1⟩:=get_at hr hmi
      have hne:¬ p.1=a:=by
       intro hpa
       have h1:(m.map (·.1))[i]?=some a:=by rw [List.getElem?_map,hmi]; simp [hpa]
       have h2:(m.map (·.1))[j]?=some a:=by rw [List.getElem?_map,hmj]; rfl
       have hjl:j < (m.map (·.1)).length:=(List.getElem?_eq_some_iff.1 h2).1
       exact hij ((List.getElem?_inj hjl hd).1 (h2.trans h1.symm))
      simp [hei,hij,hne,hk1,hv1]
   ·rw [show (es.modify j fun e=>{ e with key:=kE a,val:=vE b }).map (·.born)=es.map (·.born) from by
     apply List.ext_getElem?
     intro i
     simp only [List.getElem?_map,List.getElem?_modify]
     split
     ·cases es[i]? <;> rfl
     ·simp]
    exact hn
   ·intro e0 he0
    obtain ⟨i,hi⟩:=List.mem_iff_getElem?.1 he0
    rw [List.getElem?_modify] at hi
    obtain ⟨e1,he1,rfl⟩:=Option.map_eq_some_iff.1 hi
    have:=hbn e1 (List.mem_of_getElem? he1)
    split <;> simpa using this
   ·exact mset_nodup hd a b
theorem wpList_store {ops:Array Oper} {rest:List Oper} {o:Oper} {a:Act} {Q:Exit→Act→World→Prop} (w:World)
  (hgd:o.guard=none) (mo xo vo:Operand) (mt et:TypeId) (hop:o.op=Op.mapUpdate mt mo xo vo) (K:KeyLaw P kt kE) (hm:P.underlying mt=some (.map kt et))
  (B:Nat) (m:List (κ × ν)) (hM:a.eval mo = .map (some B)) (h:IsMap w B kE vE m) (k:κ) (b:ν) (hx:a.eval xo=kE k) (hv:a.eval vo=vE b)
  (hK:∀ w',IsMap w' B kE vE (mset m k b)→w.grownBy w' (some B)→w'.heap.size=w.heap.size→wpList P ops Q rest (a.put o.dst undef) w'):wpList P ops Q (o :: rest) a w:=by
 refine wpList_plain hgd fun K' hK' => ?_
 obtain ⟨w',hrun,r1,r2,r3⟩:=h.store K hm k b
 unfold Oper.wp
 simp [execOp,hop,hM,hx,hv,hrun,Result.andThen]
 exact hK' _ _ (hK w' r1 r2 r3)
end
end Go.Proofs.YtakaalldbnklcaaGreat
namespace Go.Proofs.YtakaalldbnklcaaGreat
open Go.RowKit
def kP (p:Int × Int):Value:=.agg #[.int .i64 p.1,.int .i64 p.2]
section
variable {P:Program} {kt it:TypeId} {n1 n2:String}
theorem two_fields (hf : (P.fieldsOf kt).toList.map (fun f => (f.name, f.type, f.offset)) = [(n1, it, 0), (n2, it, 1)]) (h1 : n1 ≠ "_") (h2 : n2 ≠ "_") :
  ∃ f g : Field, (P.fieldsOf kt).toList = [f, g] ∧ (f.name ≠ "_" ∧ f.type = it ∧ f.offset = 0) ∧ (g.name ≠ "_" ∧ g.type = it ∧ g.offset = 1) := by
 generalize (P.fieldsOf kt).toList=l at hf
 rcases l with _ | ⟨f,_ | ⟨g,_ | ⟨x,l⟩⟩⟩
 ·simp at hf
 ·simp at hf
 ·simp only [List.map_cons,List.map_nil,List.cons.injEq,Prod.mk.injEq,and_true] at hf
  obtain ⟨⟨a1,a2,a3⟩,b1,b2,b3⟩:=hf
  exact ⟨f,g,rfl,⟨by rw [a1]; exact h1,a2,a3⟩,by rw [b1]; exact h2,b2,b3⟩
 ·simp at hf
theorem pairKey (hu : P.underlying kt = some (.struct (P.fieldsOf kt))) (hh : P.stoodInHeld kt = false) (hf : (P.fieldsOf kt).toList.map (fun f => (f.name, f.type, f.offset)) = [(n1, it, 0), (n2, it, 1)]) (h1 : n1 ≠ "_") (h2 : n2 ≠ "_")
  (hi:P.underlying it=some (.int .i64)) (ha:∀ w,(isAgg it).run P w = .ok false w):KeyLaw P kt kP:=by
 obtain ⟨f,g,hl,⟨f1,f2,f3⟩,g1,g2,g3⟩:=two_fields hf h1 h2
 have p0:∀ (x y:Int) (w:World),(part it #[.int .i64 x,.int .i64 y] 0).run P w = .ok (.int .i64 x) w:=fun x y w=>by unfold part; simp [ha]
 have p1:∀ (x y:Int) (w:World),(part it #[.int .i64 x,.int .i64 y] 1).run P w = .ok (.int .i64 y) w:=fun x y w=>by unfold part; simp [ha]
 refine keyLaw_of ?_ ?_ ?_ hu (fun _ _ => .inl rfl)
 ·rintro e ⟨a1,a2⟩ w
  show (Instr.checkKey e (9999 + 1) kt (.agg _)).run P w=_
  unfold Instr.checkKey
  have e1:∀ x:Int,(Instr.checkKey e 9999 it (.int .i64 x)).run P w = .ok () w:=fun x=>by
   show (Instr.checkKey e (9998 + 1) it (.int .i64 x)).run P w = .ok () w
   unfold Instr.checkKey
   simp [run_underlying hi]
  simp only [Sem.run_bind,run_underlying hu,Result.andThen_ok]
  rw [← Array.forIn_toList,hl]
  simp [f1,g1,f2,g2,f3,g3,p0,p1,e1]
 ·rintro ⟨a1,a2⟩ ⟨b1,b2⟩ w
  show (Op.equalIn (9999 + 1) kt (.agg _) (.agg _)).run P w=_
  rw [run_equalIn_struct w 9999 _ _ _ hu hh,hl]
  have e:∀ x y:Int,(Op.equalIn 9999 it (.int .i64 x) (.int .i64 y)).run P w = .ok (x == y) w:=fun x y=>run_equalIn_int w 9998 _ _ _ _ _ hi
  simp only [Op.eqFields,f1,g1,f2,g2,f3,g3,ne_eq,not_false_eq_true,if_true,Sem.run_bind,p0,Result.andThen_ok,e]
  by_cases h1:a1=b1
  ·by_cases h2:a2=b2
   ·simp [h1,h2,p1,e]
   ·simp [h1,h2,p1,e]
  ·simp [h1]
 ·intro a w
  show (Instr.keyThatStays (.agg _) (.agg _)).run P w=_
  unfold Instr.keyThatStays
  simp [Instr.sameBits,kP]
end
theorem isAgg_int (w:World):(isAgg 3).run Tryz.prog w = .ok false w:=by kernel_rfl
end Go.Proofs.YtakaalldbnklcaaGreat
namespace Go.Proofs.YtakaalldbnklcaaGreat
open Go.RowKit
theorem below_drewN {B:Nat} {a w:World} (h:Below B a w) (n:Nat):Below B a (w.drewN n):=h.trans ⟨rfl,rfl,rfl,Nat.le_refl _,fun _ _=>rfl⟩
theorem grown_below {w w':World} {n:Nat} {B:Nat} (h:w.grownBy w' (some B)) (hn:n≤w.heap.size) (hB:n≤B):Below n w w' :=
 (Below.refl n w).grown h hn (fun k hk=>by injection hk with hk; omega)
theorem grown_of_below {w w':World} (h:Below w.heap.size w w') (B:Option Nat):w.grownBy w' B:=⟨h.os,h.tape,h.output,h.size,fun k hk _=>h.block k hk⟩
theorem grown_trans {w w1 w2:World} {B:Option Nat} (h1:w.grownBy w1 B) (h2:w1.grownBy w2 B):w.grownBy w2 B :=
 ⟨h2.os.trans h1.os,h2.tape.trans h1.tape,h2.output.trans h1.output,Nat.le_trans h1.size h2.size,fun k hk hne=>(h2.block k (Nat.lt_of_lt_of_le hk h1.size) hne).trans (h1.block k hk hne)⟩
theorem below_grown {w w1 w2:World} {B:Option Nat} (h1:Below w.heap.size w w1) (h2:w1.grownBy w2 B):w.grownBy w2 B:=grown_trans (grown_of_below h1 B) h2
theorem wp_tail {P:Program} {id:Nat} {Q:Exit→Act→World→Prop} {a:Act} {w:World} {l:List Oper} (n:Nat) (hm:P.follows .mixedOrders=true) (hB:Region.lexTailB .any l.toArray n=true)
  (h:wpStill P l.toArray w.drew (fun a'=>wpList P l.toArray Q (l.drop n) a' w.drew) (l.take n) a):(Code.region id l.toArray true).wp P Q a w:=wp_region_still_tail n hm hB h
end Go.Proofs.YtakaalldbnklcaaGreat
namespace Go.Proofs.YtakaalldbnklcaaGreat
open Go.RowKit
set_option linter.unusedVariables false
structure Touch (S:Nat→Prop) (w w':World):Prop where
 os:w'.os=w.os
 tape:w'.tape=w.tape
 output:w'.output=w.output
 size:w.heap.size≤w'.heap.size
 block:∀ k,k < w.heap.size→¬ S k→w'.heap[k]?=w.heap[k]?
section
variable {S T:Nat→Prop} {w w1 w2 w':World}
theorem Touch.of_below (h:Below w.heap.size w w'):Touch S w w':=⟨h.os,h.tape,h.output,h.size,fun k hk _=>h.block k hk⟩
theorem Touch.of_grown {B:Nat} (h:w.grownBy w' (some B)):Touch (· = B) w w':=⟨h.os,h.tape,h.output,h.size,fun k hk hn=>h.block k hk (fun e=>hn (by injection e))⟩
theorem Touch.refl (S:Nat→Prop) (w:World):Touch S w w:=⟨rfl,rfl,rfl,Nat.le_refl _,fun _ _ _=>rfl⟩
theorem Touch.trans (h1:Touch S w w1) (h2:Touch T w1 w2) (hT:∀ k,T k→S k∨w.heap.size≤k):Touch S w w2 :=
 ⟨h2.os.trans h1.os,h2.tape.trans h1.tape,h2.output.trans h1.output,Nat.le_trans h1.size h2.size,fun k hk hn =>
  (h2.block k (Nat.lt_of_lt_of_le hk h1.size) (fun ht=>(hT k ht).elim hn (fun h=>by omega))).trans (h1.block k hk hn)⟩
theorem Touch.then (h1:Touch S w w1) (h2:Touch S w1 w2):Touch S w w2:=h1.trans h2 (fun _ h => .inl h)
theorem Touch.mono (h:Touch S w w') (hT:∀ k,S k→T k):Touch T w w':=⟨h.os,h.tape,h.output,h.size,fun k hk hn=>h.block k hk (fun hs=>hn (hT k hs))⟩
theorem Touch.below {n:Nat} (h:Touch S w w') (hn:n≤w.heap.size) (hS:∀ k,S k→n≤k):Below n w w' :=
 ⟨h.os,h.tape,h.output,h.size,fun k hk=>h.block k (by omega) (fun hs=>by have:=hS k hs; omega)⟩
theorem Touch.drewN (h:Touch S w w') (n:Nat):Touch S w (w'.drewN n):=⟨h.os,h.tape,h.output,h.size,h.block⟩
theorem Touch.drew (h:Touch S w w'):Touch S w w'.drew:=⟨h.os,h.tape,h.output,h.size,h.block⟩
theorem Touch.alloc (h:Touch S w w') (o:Obj):Touch S w (w'.alloc o):=h.then (.of_below ((Below.refl _ _).alloc (Nat.le_refl _) o))
theorem Touch.setCell (w:World) (g i:Nat) (v:Value):Touch (· = g) w (w.setCell ⟨g,i,none⟩ v) :=
 ⟨rfl,rfl,rfl,by simp [World.setCell],fun k hk hn=>Below.heap_setCell w ⟨g,i,none⟩ v k (fun e=>hn e)⟩
theorem Touch.isMap {κ ν:Type} {kE:κ→Value} {vE:ν→Value} {B:Nat} {m:List (κ × ν)} (h:Touch S w w') (hM:IsMap w B kE vE m) (hB:¬ S B):IsMap w' B kE vE m:=hM.keep (h.block B hM.lt hB)
theorem Touch.blk {g:Nat} {t:TypeId} {cs:Array Value} (h:Touch S w w') (hg:Blk w g t cs) (hS:¬ S g):Blk w' g t cs:=(h.block g hg.lt hS).trans hg
theorem Touch.rd {A:Option Addr} {xs:List Value} (h:Touch S w w') (hR:Rd w A xs) (hS:∀ b,A.map (·.block)=some b→¬ S b):Rd w' A xs:=by
 rcases hR with h0 | ⟨b,off,hA,hlt,hc⟩
 ·exact .inl h0
 ·have hk:=h.block b hlt (hS b (by rw [hA]; rfl))
  exact .inr ⟨b,off,hA,Nat.lt_of_lt_of_le hlt h.size,fun j u hu=>(World.cell?_of_block (a:=⟨b,off + j,none⟩) hk).trans (hc j u hu)⟩
end
section
variable {κ ν:Type} [DecidableEq κ] {m:List (κ × ν)} {a:κ} {b:ν}
theorem mem_mset {p:κ × ν} (h:p ∈ mset m a b):p=(a,b)∨(p ∈ m∧p.1 ≠ a):=by
 unfold mset at h
 split at h
 ·obtain ⟨q,hq,rfl⟩:=List.mem_map.1 h
  by_cases e:q.1=a
  ·simp [e]
  ·simp [e,hq]
 ·rename_i hn
  rcases List.mem_append.1 h with h | h
  ·right
   exact ⟨h,fun e=>hn (List.mem_map.2 ⟨p,h,e⟩)⟩
  ·left; simpa using h
theorem mem_mdel {p:κ × ν} (h:p ∈ mdel m a):p ∈ m∧p.1 ≠ a:=by
 unfold mdel at h
 have:=List.mem_filter.1 h
 exact ⟨this.1,by simpa using this.2⟩
theorem mset_map_same {τ:Type} (f:ν→τ) {b0:ν} (hm:mget m a=some b0) (hd:(m.map (·.1)).Nodup) (hf:f b=f b0):(mset m a b).map (fun p=>(p.1,f p.2))=m.map (fun p=>(p.1,f p.2)):=by
 have hk:a ∈ m.map (·.1):=mget_isSome.1 (by rw [hm]; rfl)
 unfold mset
 rw [if_pos hk,List.map_map]
 refine List.map_congr_left fun p hp => ?_
 simp only [Function.comp]
 split
 ·rename_i e
  have:=mget_of_mem hd hp
  rw [e,hm] at this
  injection this with this
  simp [← e,hf,this]
 ·rfl
end
theorem IsMap.same {κ ν:Type} {w:World} {B:Nat} {kE:κ→Value} {vE:ν→Value} {m m':List (κ × ν)} (h:IsMap w B kE vE m) (hm:m'.map (fun p=>(p.1,vE p.2))=m.map (fun p=>(p.1,vE p.2))):IsMap w B kE vE m':=by
 obtain ⟨es,c,h1,h2,h3,h4,h5⟩:=h
 refine ⟨es,c,h1, ?_,h3,h4, ?_⟩
 ·rw [h2]
  have:=congrArg (List.map fun (q:κ × Value)=>(kE q.1,q.2)) hm
  simp only [List.map_map] at this
  exact this.symm
 ·have:=congrArg (List.map fun (q:κ × Value)=>q.1) hm
  simp only [List.map_map] at this
  have e:m'.map (·.1)=m.map (·.1):=this
  rw [e]; exact h5
theorem mset_new {κ ν:Type} [DecidableEq κ] {m:List (κ × ν)} {a:κ} {b:ν} (h:mget m a=none):mset m a b=m++[(a,b)]:=by
 unfold mset
 rw [if_neg]
 intro hk
 obtain ⟨c,hc⟩:=mget_key hk
 rw [h] at hc
 cases hc
end Go.Proofs.YtakaalldbnklcaaGreat
namespace Go.Proofs.YtakaalldbnklcaaGreat
open Go.RowKit
set_option linter.unusedVariables false
section
variable {κ ν:Type} [DecidableEq κ] {P:Program} {w:World} {B:Nat} {kE:κ→Value} {vE:ν→Value} {m:List (κ × ν)} {kt:TypeId}
omit [DecidableEq κ] in
theorem map_eraseIdx' {α β:Type} (f:α→β) (l:List α) (j:Nat):(l.eraseIdx j).map f=(l.map f).eraseIdx j:=by
 induction l generalizing j with
 | nil=>simp
 | cons x l ih=>cases j with
  | zero=>rfl
  | succ j=>simp [ih]
theorem mdel_none {a:κ} (h:a ∉ m.map (·.1)):mdel m a=m:=by
 unfold mdel
 rw [List.filter_eq_self]
 intro p hp
 simp only [decide_eq_true_eq]
 exact fun e=>h (by rw [← e]; exact List.mem_map_of_mem hp)
theorem eraseIdx_mdel {l:List (κ × ν)} (hd:(l.map (·.1)).Nodup) {j:Nat} {a:κ} {b:ν} (hj:l[j]?=some (a,b)):mdel l a=l.eraseIdx j:=by
 induction l generalizing j with
 | nil=>simp at hj
 | cons p l ih =>
  simp only [List.map_cons,List.nodup_cons] at hd
  cases j with
  | zero =>
   simp only [List.getElem?_cons_zero,Option.some.injEq] at hj
   subst hj
   have:=mdel_none (m:=l) (a:=a) hd.1
   unfold mdel at this ⊢
   rw [List.filter_cons_of_neg (by simp),this]
   rfl
  | succ j =>
   simp only [List.getElem?_cons_succ] at hj
   have hne:p.1 ≠ a:=fun e=>hd.1 (by rw [e]; exact List.mem_map.2 ⟨_,List.mem_of_getElem? hj,rfl⟩)
   have:=ih hd.2 hj
   unfold mdel at this ⊢
   rw [List.filter_cons_of_pos (by simpa using hne),this]
   rfl
theorem IsMap.drop {mt et:TypeId} (h:IsMap w B kE vE m) (K:KeyLaw P kt kE) (hm:P.underlying mt=some (.map kt et)) (a:κ) (ty k2:TypeId) :
  ∃ w',(Builtin.delete_ #[mt,k2] ty #[.map (some B),kE a]).run P w = .ok (.tuple #[]) w'∧IsMap w' B kE vE (mdel m a)∧w.grownBy w' (some B)∧w'.heap.size=w.heap.size:=by
 obtain ⟨es,c,hb,hr,hn,hbn,hd⟩:=h
 have hlt:B < w.heap.size:=by
  rcases Nat.lt_or_ge B w.heap.size with hlt | hge
  ·exact hlt
  ·rw [Array.getElem?_eq_none hge] at hb; cases hb
 have grown:∀ o,w.grownBy { w with heap:=w.heap.setIfInBounds B o } (some B):=fun o =>
  ⟨rfl,rfl,rfl,by simp,fun k hk hne=>by
   have:k ≠ B:=fun e=>hne (by rw [e])
   simp [Ne.symm this]⟩
 unfold Builtin.delete_
 rcases IsMap.find K hr hd a w with ⟨ha,hf⟩ | ⟨j,b0,e,hmj,hej,hek,hev,hg,hf⟩
 ·refine ⟨{ w with heap:=w.heap.setIfInBounds B (.map es.toArray c) }, ?_, ?_,grown _,by simp⟩
  ·simp [run_underlying hm,Sem.run,hb,K.check,hf,getObj,setObj]
  ·rw [mdel_none ha]
   exact ⟨es,c,by simp [hlt],hr,hn,hbn,hd⟩
 ·have hje:j < es.length:=(List.getElem?_eq_some_iff.1 hej).1
  refine ⟨{ w with heap:=w.heap.setIfInBounds B (.map (es.eraseIdx j).toArray c) }, ?_, ?_,grown _,by simp⟩
  ·simp [run_underlying hm,Sem.run,hb,K.check,hf,getObj,setObj]
  ·rw [eraseIdx_mdel hd hmj]
   refine ⟨es.eraseIdx j,c,by simp [hlt], ?_, ?_, ?_, ?_⟩
   ·rw [map_eraseIdx',map_eraseIdx',hr]
   ·rw [map_eraseIdx']; exact hn.sublist (List.eraseIdx_sublist _ _)
   ·exact fun e0 he0=>hbn e0 ((List.eraseIdx_sublist es j).subset he0)
   ·rw [map_eraseIdx']; exact hd.sublist (List.eraseIdx_sublist _ _)
theorem wpList_drop {ops:Array Oper} {rest:List Oper} {o:Oper} {a:Act} {Q:Exit→Act→World→Prop} (w:World)
  (hgd:o.guard=none) (mo xo:Operand) (mt et k2:TypeId) (hop:o.op=Op.call { callee:=Callee.builtin Builtin.delete,args:=#[mo,xo],argTypes:=#[mt,k2] }) (K:KeyLaw P kt kE) (hm:P.underlying mt=some (.map kt et))
  (B:Nat) (m:List (κ × ν)) (hM:a.eval mo = .map (some B)) (h:IsMap w B kE vE m) (k:κ) (hx:a.eval xo=kE k)
  (hK:∀ w',IsMap w' B kE vE (mdel m k)→w.grownBy w' (some B)→w'.heap.size=w.heap.size→wpList P ops Q rest (a.put o.dst (.tuple #[])) w'):wpList P ops Q (o :: rest) a w:=by
 refine wpList_plain hgd fun K' hK' => ?_
 obtain ⟨w',hrun,r1,r2,r3⟩:=h.drop K hm k o.type k2
 unfold Oper.wp
 simp [execOp,hop,resolve,invoke,builtin,hM,hx,hrun,Result.andThen]
 exact hK' _ _ (hK w' r1 r2 r3)
end
end Go.Proofs.YtakaalldbnklcaaGreat
namespace Go.Proofs.YtakaalldbnklcaaGreat
open Go.RowKit Go.MapKept Go.ChangeMaps
set_option linter.unusedVariables false
theorem perm_cons_filter {α:Type} (f:α→Nat):∀ {L:List α},(L.map f).Nodup→∀ {x:α},x ∈ L→L.Perm (x :: L.filter (fun y=>f y != f x))
 | [],_,x,hx=>by cases hx
 | a :: L,hd,x,hx=>by
  simp only [List.map_cons,List.nodup_cons] at hd
  rcases List.mem_cons.1 hx with rfl | hx'
  ·rw [List.filter_cons_of_neg (by simp)]
   have:L.filter (fun y=>f y != f x)=L:=List.filter_eq_self.2 (fun y hy=>by
    simp only [bne_iff_ne,ne_eq]
    exact fun e=>hd.1 (by rw [← e]; exact List.mem_map_of_mem hy))
   rw [this]
  ·have hne:f a ≠ f x:=fun e=>hd.1 (by rw [e]; exact List.mem_map_of_mem hx')
   rw [List.filter_cons_of_pos (by simpa using hne)]
   exact ((perm_cons_filter f hd.2 hx').cons a).trans (List.Perm.swap _ _ _)
section
variable {κ ν:Type} {P:Program} {w w':World} {r B:Nat} {kE:κ→Value} {vE:ν→Value} {m left:List (κ × ν)}
def toCome (es:List MapEntry) (m:List (κ × ν)) (seen:Array Nat):List (κ × ν):=((es.zip m).filter fun x => !seen.contains x.1.born).map (·.2)
def IsIter (w:World) (r B:Nat) (kE:κ→Value) (vE:ν→Value) (m left:List (κ × ν)):Prop :=
 ∃ (es:List MapEntry) (clock since c0:Nat) (seen:Array Nat),w.heap[B]?=some (.map es.toArray clock)∧es.map (fun e=>(e.key,e.val))=m.map (fun p=>(kE p.1,vE p.2))∧(es.map (·.born)).Nodup∧(∀ e ∈ es,e.born < since) ∧
  since≤c0∧since≤clock∧(m.map (·.1)).Nodup∧w.heap[r]?=some (.mapIter (some B) since seen c0)∧left=toCome es m seen
theorem IsIter.isMap (h:IsIter w r B kE vE m left):IsMap w B kE vE m:=by
 obtain ⟨es,clock,since,c0,seen,h1,h2,h3,h4,h5,h6,h7,_,_⟩:=h
 exact ⟨es,clock,h1,h2,h3,fun e he=>Nat.lt_of_lt_of_le (h4 e he) h6,h7⟩
theorem IsIter.ne (h:IsIter w r B kE vE m left):r ≠ B:=by
 obtain ⟨es,clock,since,c0,seen,h1,_,_,_,_,_,_,h8,_⟩:=h
 intro e
 rw [e,h1] at h8
 cases h8
theorem IsIter.lt (h:IsIter w r B kE vE m left):r < w.heap.size:=by
 obtain ⟨es,clock,since,c0,seen,_,_,_,_,_,_,_,h8,_⟩:=h
 exact (Array.getElem?_eq_some_iff.1 h8).1
theorem IsIter.keep (h:IsIter w r B kE vE m left) (h1:w'.heap[B]?=w.heap[B]?) (h2:w'.heap[r]?=w.heap[r]?):IsIter w' r B kE vE m left:=by
 obtain ⟨es,clock,since,c0,seen,g1,g2,g3,g4,g5,g6,g7,g8,g9⟩:=h
 exact ⟨es,clock,since,c0,seen,h1.trans g1,g2,g3,g4,g5,g6,g7,h2.trans g8,g9⟩
theorem IsIter.next_ (h:IsIter w r B kE vE m left) (hb:Below w.heap.size w w'):IsIter w' r B kE vE m left:=h.keep (hb.block B h.isMap.lt) (hb.block r h.lt)
theorem IsIter.alloc (h:IsIter w r B kE vE m left) (o:Obj):IsIter (w.alloc o) r B kE vE m left:=h.next_ ((Below.refl _ _).alloc (Nat.le_refl _) o)
theorem IsIter.grown {row:Option Nat} (h:IsIter w r B kE vE m left) (hg:w.grownBy w' row) (h1:some B ≠ row) (h2:some r ≠ row):IsIter w' r B kE vE m left:=h.keep (hg.block B h.isMap.lt h1) (hg.block r h.lt h2)
theorem IsIter.notOwn (h:IsIter w r B kE vE m left) {base:Nat} {e:TypeId} {size n:Nat} {v:Value} {xs:List Value} (ho:w.ownsRow base e size v n xs):some r ≠ v.ownBlock:=by
 intro he
 rcases ho.2 with ⟨rfl,_⟩ | ⟨g,cap,cur,rfl,_,hh,_⟩
 ·simp [Value.ownBlock] at he
 ·have hg:r=g:=by simpa [Value.ownBlock] using he
  subst hg
  obtain ⟨es,clock,since,c0,seen,_,_,_,_,_,_,_,h8,_⟩:=h
  rw [h8] at hh
  cases hh
theorem IsMap.range {mt kt et:TypeId} (h:IsMap w B kE vE m) (hm:P.underlying mt=some (.map kt et)) :
  ∃ w',(Instr.range mt (.map (some B))).run P w = .ok (.pointer (some ⟨w.heap.size,0,none⟩)) w'∧IsIter w' w.heap.size B kE vE m m∧Below w.heap.size w w'∧w'.heap.size=w.heap.size + 1:=by
 have hlt:=h.lt
 obtain ⟨es,clock,hb,hr,hn,hbn,hd⟩:=h
 refine ⟨w.alloc (.mapIter (some B) clock #[] clock), ?_,⟨es,clock,clock,clock,#[],((MapKept.heap_alloc w _).2 B hlt).trans hb,hr,hn,hbn,Nat.le_refl _,Nat.le_refl _,hd,(MapKept.heap_alloc w _).1, ?_⟩,(Below.refl _ _).alloc (Nat.le_refl _) _,by simp⟩
 ·exact run_range_map w mt kt et B es.toArray clock hm hb
 ·have hl:es.length=m.length:=by have:=congrArg List.length hr; simpa using this
  unfold toCome
  rw [List.filter_eq_self.2 (by simp)]
  have:∀ (es:List MapEntry) (m:List (κ × ν)),es.length=m.length→(es.zip m).map (·.2)=m:=by
   intro es
   induction es with
   | nil=>intro m hl; cases m <;> simp_all
   | cons e es ih=>intro m hl; cases m with
    | nil=>simp at hl
    | cons p m=>simp at hl; simp [ih m hl]
  exact (this es m hl).symm
theorem zip_enc {es:List MapEntry} {m:List (κ × ν)} (hr:es.map (fun e=>(e.key,e.val))=m.map (fun p=>(kE p.1,vE p.2))):∀ x ∈ es.zip m,x.1.key=kE x.2.1∧x.1.val=vE x.2.2:=by
 induction es generalizing m with
 | nil=>simp
 | cons e es ih =>
  cases m with
  | nil=>simp at hr
  | cons p m =>
   simp only [List.map_cons,List.cons.injEq,Prod.mk.injEq] at hr
   intro x hx
   simp only [List.zip_cons_cons,List.mem_cons] at hx
   rcases hx with rfl | hx
   ·exact hr.1
   ·exact ih hr.2 x hx
theorem zip_fst {es:List MapEntry} {m:List (κ × ν)} (hl:es.length=m.length):(es.zip m).map (·.1)=es:=by
 induction es generalizing m with
 | nil=>simp
 | cons e es ih=>cases m with
  | nil=>simp at hl
  | cons p m=>simp at hl; simp [ih hl]
theorem IsIter.step (h:IsIter w r B kE vE m left) (ty:TypeId) :
  (left=[]∧(Instr.next (.pointer (some ⟨r,0,none⟩)) false ty).run P w = .ok (.tuple #[.bool false]) w) ∨
  ∃ k v left' w',left.Perm ((k,v) :: left')∧(Instr.next (.pointer (some ⟨r,0,none⟩)) false ty).run P w = .ok (.tuple #[.bool true,kE k,vE v]) w'∧IsIter w' r B kE vE m left'∧w.grownBy w' (some r)∧w'.heap.size=w.heap.size ∧
   (Instr.entry (.pointer (some ⟨r,0,none⟩))).run P w' = .ok (.tuple #[kE k,vE v]) w':=by
 have hne:=h.ne
 obtain ⟨es,clock,since,c0,seen,hb,hr,hn,hold,hsc,hsk,hd,hit,rfl⟩:=h
 have hl:es.length=m.length:=by have:=congrArg List.length hr; simpa using this
 rcases run_next_at (P:=P) w ty r B since c0 seen es.toArray clock hit hb (by simpa using hold) hsc with ⟨h0,hrun⟩ | ⟨e,he,w1,hal,hrun⟩
 ·left
  refine ⟨?_,hrun⟩
  unfold leftOf at h0
  have h1:es.filter (fun e => !seen.contains e.born)=[]:=by
   have:(es.filter (fun e => !seen.contains e.born)).length=0:=by
    rw [← h0]; simp
   exact List.eq_nil_of_length_eq_zero this
  unfold toCome
  rw [List.filter_eq_nil_iff.2,List.map_nil]
  intro x hx
  have:=List.filter_eq_nil_iff.1 h1 x.1 (List.of_mem_zip hx).1
  exact this
 ·right
  have hem:e ∈ es∧seen.contains e.born=false:=by
   unfold leftOf at he
   simpa using he
  obtain ⟨x,hx,hxe⟩:∃ x ∈ es.zip m,x.1=e:=by
   have:=zip_fst (m:=m) hl
   rw [← this] at hem
   obtain ⟨x,hx,e1⟩:=List.mem_map.1 hem.1
   exact ⟨x,hx,e1⟩
  obtain ⟨ek,ev⟩:=zip_enc hr x hx
  have hr1:w1.heap[r]?=some (.mapIter (some B) since seen c0):=by rcases hal with rfl | rfl <;> exact hit
  have hb1:w1.heap[B]?=some (.map es.toArray clock):=by rcases hal with rfl | rfl <;> exact hb
  have hset:=MapKept.heap_set (o':=.mapIter (some B) since (seen.push e.born) clock) hr1
  have hb':(setBlock w1 r (.mapIter (some B) since (seen.push e.born) clock)).heap[B]?=some (.map es.toArray clock):=(hset.2 B (fun e1=>hne e1.symm)).trans hb1
  rw [hxe] at ek ev
  refine ⟨x.2.1,x.2.2,toCome es m (seen.push e.born),_, ?_,by rw [hrun,ek,ev],⟨es,clock,since,clock,seen.push e.born,hb',hr,hn,hold,hsk,hsk,hd,hset.1,rfl⟩, ?_, ?_, ?_⟩
  ·unfold toCome
   have hz:((es.zip m).map fun y=>y.1.born).Nodup:=by
    have:(es.zip m).map (fun y=>y.1.born)=es.map (·.born):=by
     conv=>rhs; rw [← zip_fst (m:=m) hl,List.map_map]
     rfl
    rw [this]; exact hn
   have hzf:(((es.zip m).filter fun y => !seen.contains y.1.born).map fun y=>y.1.born).Nodup:=hz.sublist (List.Sublist.map _ List.filter_sublist)
   have hxm:x ∈ (es.zip m).filter fun y => !seen.contains y.1.born:=List.mem_filter.2 ⟨hx,by rw [hxe,hem.2]; rfl⟩
   have hp:=(perm_cons_filter (fun y:MapEntry × (κ × ν)=>y.1.born) hzf hxm).map (·.2)
   rw [List.map_cons,List.filter_filter] at hp
   refine hp.trans (List.Perm.of_eq ?_)
   congr 2
   refine List.filter_congr fun y _ => ?_
   rw [hxe,contains_push]
   cases seen.contains y.1.born <;> cases hh:(y.1.born == e.born) <;> simp_all
  ·rcases hal with rfl | rfl <;> exact ⟨rfl,rfl,rfl,by simp [setBlock],fun i _ hi=>hset.2 i (fun e1=>hi (by rw [e1]))⟩
  ·rcases hal with rfl | rfl <;> simp [setBlock]
  ·have:=run_entry_at (P:=P) _ r B since seen es.toArray clock e hset.1 hb' (by simpa using hem.1) (by simpa using hn)
   rw [this,ek,ev]
theorem wpList_range {ops:Array Oper} {rest:List Oper} {o:Oper} {a:Act} {Q:Exit→Act→World→Prop} (w:World)
  (hg:o.guard=none) (mo:Operand) (mt kt et:TypeId) (hop:o.op=Op.range mt mo) (hm:P.underlying mt=some (.map kt et)) (B:Nat) (m:List (κ × ν)) (hM:a.eval mo = .map (some B)) (h:IsMap w B kE vE m)
  (hK:∀ w',IsIter w' w.heap.size B kE vE m m→Below w.heap.size w w'→w'.heap.size=w.heap.size + 1→wpList P ops Q rest (a.put o.dst (.pointer (some ⟨w.heap.size,0,none⟩))) w'):wpList P ops Q (o :: rest) a w:=by
 refine wpList_plain hg fun K' hK' => ?_
 obtain ⟨w',hrun,r1,r2,r3⟩:=h.range hm
 unfold Oper.wp
 simp [execOp,hop,hM,hrun,Result.andThen]
 exact hK' _ _ (hK w' r1 r2 r3)
theorem wpList_next {ops:Array Oper} {rest:List Oper} {o:Oper} {a:Act} {Q:Exit→Act→World→Prop} (w:World)
  (hg:o.guard=none) (it:Operand) (hop:o.op=Op.next it false) (r B:Nat) (m left:List (κ × ν)) (hit:a.eval it = .pointer (some ⟨r,0,none⟩)) (h:IsIter w r B kE vE m left)
  (hDone:left=[]→wpList P ops Q rest (a.put o.dst (.tuple #[.bool false])) w)
  (hMore:∀ (k:κ) (v:ν) (left':List (κ × ν)) (w':World),left.Perm ((k,v) :: left')→IsIter w' r B kE vE m left'→w.grownBy w' (some r)→w'.heap.size=w.heap.size →
   (Instr.entry (.pointer (some ⟨r,0,none⟩))).run P w' = .ok (.tuple #[kE k,vE v]) w'→wpList P ops Q rest (a.put o.dst (.tuple #[.bool true,kE k,vE v])) w'):wpList P ops Q (o :: rest) a w:=by
 refine wpList_plain hg fun K' hK' => ?_
 unfold Oper.wp
 rcases h.step (P:=P) o.type with ⟨h0,hrun⟩ | ⟨k,v,left',w',hp,hrun,hi,hgr,hs,hen⟩
 ·simp [execOp,hop,hit,hrun,Result.andThen]
  exact hK' _ _ (hDone h0)
 ·simp [execOp,hop,hit,hrun,Result.andThen]
  exact hK' _ _ (hMore k v left' w' hp hi hgr hs hen)
end
end Go.Proofs.YtakaalldbnklcaaGreat
