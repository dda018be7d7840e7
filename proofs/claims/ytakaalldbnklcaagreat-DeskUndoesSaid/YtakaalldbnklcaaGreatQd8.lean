/-
  A row of stock lines: its words; slices.Clone; slices.ContainsFunc with any closure that tests (its number and what it holds are letters).
  The stock book: levels and goods, told by two lists; New, Item, Receive.
  The stock book: Item, Receive.
  The stock book: fit.
  Keys, sorted: slices.Sort at ints.
  maps.Keys over a map of the book: its iterator's contracts; slices.Sorted of the keys (printed by gen_keys.py).
-/
import Derived.Test.YtakaalldbnklcaaGreatQd1
import Derived.Test.YtakaalldbnklcaaGreatQd2
import Derived.Test.YtakaalldbnklcaaGreatQd3
import Derived.Lib.BufferMore
import Derived.RegionTactic
import Derived.Deep.RegionHeld3
import Derived.WalkLawsBesides
import Derived.Shelf.SortM.Plain
import Derived.Shelf.SortM.SortNone
import Derived.Shelf.SlIterI.Sorted
namespace Go.Proofs.YtakaalldbnklcaaGreat.Sk
open Go.RowKit Go.WideShapes Go.ChangeShapes Go.ChangeAt Go.Deep
set_option linter.unusedVariables false
structure Ln where
 i:Int
 q:Int
instance:Inhabited Ln:=⟨⟨0,0⟩⟩
def enL (x:Ln):List Value:=[.int .i64 x.i,.int .i64 x.q]
theorem enL_len (x:Ln):(enL x).length=2:=rfl
theorem enL_one (h:Ln):∀ v ∈ enL h,v.oneCell'=true:=by
 intro v hv
 simp only [enL,List.mem_cons,List.not_mem_nil,or_false] at hv
 rcases hv with rfl | rfl <;> rfl
theorem enLs_one (l:List Ln):∀ v ∈ l.flatMap enL,v.oneCell'=true:=fun v hv=>by
 obtain ⟨x,_,hx⟩:=List.mem_flatMap.1 hv
 exact enL_one x v hx
theorem info_ln:(Tryz.prog.info? 67).map (fun i=>(i.zero,i.size,i.bytes))=some (some (.agg #[.int .i64 0,.int .i64 0]),2,16):=by kernel_rfl
set_option maxRecDepth 100000 in
set_option maxHeartbeats 2000000 in
theorem clone_some (l:List Ln) (b off cap:Nat) (w:World) (hR:Rd w (some ⟨b,off,none⟩) (l.flatMap enL)) (hl:l.length * 16≤140737488355328) :
  Calls Tryz.prog 60 #[.slice (some ⟨b,off,none⟩) l.length cap] w (NewRowOf enL 67 2 l w):=by
 obtain ⟨i0,hi,hz0,hz1,hz2⟩:=info_parts info_ln
 have hR1:=hid (hR.below ((Below.refl w.heap.size w).alloc (Nat.le_refl _) (.cells #[] 67)))
 have hO:=hid (show (w.alloc (.cells #[] 67)).ownsRow w.heap.size 67 2 (.slice (some ⟨w.heap.size,0,none⟩) 0 0) 0 [] from ⟨rfl,.inr ⟨w.heap.size,0,#[],rfl,Nat.le_refl _,heap_alloc_new w _,Nat.le_refl _,Nat.zero_le _,rfl,rfl⟩⟩)
 have hnil:∀ W,(binOp .eql 29 (.slice (some ⟨b,off,none⟩) l.length cap) (.slice none 0 0)).run Tryz.prog W = .ok (.bool false) W:=fun W=>Lib.run_eql_slice_some_nil W _ _ _ Tryz.underlying29
 clear hR
 go_enter Tryz.func60,Tryz.ntmps60
 go_wp2_with (first
  | (at_builtin; refine wpList_append_own _ rfl _ _ 29 rfl w.heap.size 67 i0 _ 2 16 Tryz.underlying29 hi hz0 hz1 hz2 rfl (by decide) _ 0 [] (by rfl) hO.out ⟨b,off,none⟩ l.length cap (l.flatMap enL) (by rfl) (length_flatMap_const enL 2 enL_len l) ?_ (enLs_one l) (by unfold maxLen; omega) (by omega) (by simp) ?_))
 ·intro j u hu
  rcases hR1.out with h0 | ⟨b',off',hA,hlt,hc⟩
  ·rw [h0] at hu; simp at hu
  ·simp only [Option.some.injEq,Addr.mk.injEq,and_true] at hA
   obtain ⟨rfl,rfl⟩:=hA
   rw [add_plain]
   exact hc j u hu
 ·intro v' w' h2 h3 _
  obtain ⟨A',cap',rfl,_⟩:=own_slice h2
  have hbb:=hid (((Below.refl w.heap.size w).alloc (Nat.le_refl _) (.cells #[] 67)).grown h3 (by simp) (fun k hk=>by simp [Value.ownBlock] at hk; omega))
  go_wp2_with fail
  go_ret
  exact ⟨A',cap',rfl,h2,hbb.out⟩
theorem has_plc (p:Ln→Bool) (l:List Ln):l.any p=decide (0≤plc p l):=by
 rcases plc_cases p l with ⟨k,y,hk,hy,hp,he⟩ | ⟨hn,he⟩
 ·rw [he,List.any_eq_true.2 ⟨y,List.mem_of_getElem? hy,hp⟩]
  simp
 ·rw [he]
  cases h:l.any p with
  | false=>rfl
  | true =>
   obtain ⟨y,hy,hp⟩:=List.any_eq_true.1 h
   rw [hn y hy] at hp
   cases hp
def TestsL (N:FuncId) (v:Value) (p:Ln→Bool) (l:List Ln) (w:World):Prop:=∀ x ∈ l,∀ w',Below w.heap.size w w'→Calls Tryz.prog N #[.agg #[.int .i64 x.i,.int .i64 x.q],v] w' fun e w''=>e = .returned (.bool (p x))∧Below w'.heap.size w' w''
set_option maxRecDepth 100000 in
set_option maxHeartbeats 4000000 in
theorem indexF_any (l:List Ln) (A:Option Addr) (cap:Nat) (N:FuncId) (v:Value) (p:Ln→Bool) (w:World) (hR:Rd w A (l.flatMap enL)) (hl:l.length≤140737488355328) (hN:∀ (args:Array Value) (w:World),(callFunc N args).run Tryz.prog w = .ok (.enter N args) w) (hT:TestsL N v p l w) :
  Calls Tryz.prog 144 #[.slice A l.length cap,.func (.func N) #[] #[v]] w fun e w'=>e = .returned (.int .i64 (plc p l))∧Below w.heap.size w w':=by
 have HT:=hid hT
 clear hT
 go_enter Tryz.func144,Tryz.ntmps144
 go_wp2_with fail
 go_loopw [8] (fun i wr=>∃ k:Nat,k≤l.length∧i = .int .i64 k∧Hid (∀ j y,j < k→l[j]?=some y→p y=false)∧Below w.heap.size w wr) (fun i _=>l.length - nOf i)
 case atStart=>exact ⟨0,Nat.zero_le _,rfl,hid (fun j y hj=>by omega),Below.refl _ _⟩
 case round =>
  obtain ⟨k,hk,rfl,hP,hb⟩:=hrel
  by_cases hlt:k < l.length
  ·obtain ⟨y,hy⟩:∃ y,l[k]?=some y:=⟨l[k],List.getElem?_eq_getElem hlt⟩
   obtain ⟨b,off,rfl,hbs,hcc⟩:=(hR.below hb).at_ 2 enL_len (by omega) hy
   have q0:wr.cell? ⟨b,off + k * 2,none⟩=some (.int .i64 y.i):=hcc 0 _ rfl
   have q1:wr.cell? ⟨b,off + k * 2 + 1,none⟩=some (.int .i64 y.q):=hcc 1 _ rfl
   have K:=hid (HT.out y (List.mem_of_getElem? hy) wr hb)
   have HY:=hid hy
   clear hcc hy
   cases e:p y with
   | true =>
    rw [e] at K
    have HV:=hid (plc_some (p:=p) HY.out e hP.out)
    have HE:=hid e
    clear e
    go_wp2_with fail
    refine K.out.mono ?_
    rintro e w5 ⟨rfl,hb5⟩
    go_wp2_with fail
    go_ret
    rw [HV.out]
    exact ⟨rfl,bthen hb hb5⟩
   | false =>
    rw [e] at K
    have HE:=hid e
    clear e
    go_wp2_with fail
    refine K.out.mono ?_
    rintro e w5 ⟨rfl,hb5⟩
    go_wp2_with fail
    go_roundw
    case rel=>exact ⟨k + 1,by omega,by go_num,hid (fun j z hj hz=>by
     by_cases e:j=k
     ·subst e; rw [HY.out] at hz; injection hz with hz; subst hz; exact HE.out
     ·exact hP.out j z (by omega) hz),bthen hb hb5⟩
    case measure=>simp [nOf]; omega
  ·have HV:=hid (plc_none (p:=p) (l:=l) (fun y hy=>by
    obtain ⟨j,hj⟩:=List.mem_iff_getElem?.1 hy
    exact hP.out j y (by have:=(List.getElem?_eq_some_iff.1 hj).1; omega) hj))
   clear hP hk
   go_wp2_with fail
   go_ret
   rw [HV.out]
   exact ⟨rfl,hb⟩
set_option maxRecDepth 100000 in
set_option maxHeartbeats 4000000 in
theorem containsF_any (l:List Ln) (A:Option Addr) (cap:Nat) (N:FuncId) (v:Value) (p:Ln→Bool) (w:World) (hR:Rd w A (l.flatMap enL)) (hl:l.length≤140737488355328) (hN:∀ (args:Array Value) (w:World),(callFunc N args).run Tryz.prog w = .ok (.enter N args) w) (hT:TestsL N v p l w) :
  Calls Tryz.prog 101 #[.slice A l.length cap,.func (.func N) #[] #[v]] w fun e w'=>e = .returned (.bool (l.any p))∧Below w.heap.size w w':=by
 have K:=hid (indexF_any l A cap N v p w hR hl hN hT)
 have HH:=hid (has_plc p l)
 clear hT
 go_enter Tryz.func101,Tryz.ntmps101
 go_wp2_with fail
 refine K.out.mono ?_
 rintro e w5 ⟨rfl,hb5⟩
 go_wp2_with fail
 go_ret
 rw [HH.out]
 exact ⟨rfl,hb5⟩
end Go.Proofs.YtakaalldbnklcaaGreat.Sk
namespace Go.Proofs.YtakaalldbnklcaaGreat.Sk
open Go.RowKit Go.WideShapes Go.ChangeShapes Go.ChangeAt Go.Deep
set_option linter.unusedVariables false
def kI (n:Int):Value:=.int .i64 n
theorem keyL:KeyLaw Tryz.prog 3 kI:=intKey Tryz.underlying3
structure Lv where
 g:Nat
 i:Int
 r:Int
 h:Int
 a:Int
 s:Int
 t:Int
structure Gd where
 g:Nat
 o:Int
 st:Int
 b:Nat
 cap:Nat
 ls:List Ln
def enV (l:Lv):Array Value:=#[.int .i64 l.i,.int .i64 l.r,.int .i64 l.h,.int .i64 l.a,.int .i64 l.s,.int .i64 l.t]
def enG (d:Gd):Array Value:=#[.int .i64 d.o,.int .i64 d.st,.slice (some ⟨d.b,0,none⟩) d.ls.length d.cap]
def vLv (l:Lv):Value:=.pointer (some ⟨l.g,0,none⟩)
def vGd (d:Gd):Value:=.pointer (some ⟨d.g,0,none⟩)
theorem zeroLv (w:World):(zeroValue 127).run Tryz.prog w = .ok (.pointer none) w:=by kernel_rfl
theorem zeroGd (w:World):(zeroValue 235).run Tryz.prog w = .ok (.pointer none) w:=by kernel_rfl
structure IsBook (n0:Nat) (w:World) (X BL BG:Nat) (lv:List (Int × Lv)) (gs:List (Int × Gd)):Prop where
 blk:Blk w X 130 #[.map (some BL),.map (some BG)]
 lvs:IsMap w BL kI vLv lv
 gds:IsMap w BG kI vGd gs
 lc:∀ p ∈ lv,Blk w p.2.g 53 (enV p.2)
 la:(lv.map (·.2.g)).Nodup
 gc:∀ p ∈ gs,Blk w p.2.g 156 (enG p.2)
 ga:(gs.map (·.2.g)).Nodup
 lns:∀ p ∈ gs,Rd w (some ⟨p.2.b,0,none⟩) (p.2.ls.flatMap enL)∧n0≤p.2.b∧∃ cs,Blk w p.2.b 67 cs
 two:BL ≠ BG
 low:n0≤X∧n0≤BL∧n0≤BG∧(∀ p ∈ lv,n0≤p.2.g)∧∀ p ∈ gs,n0≤p.2.g
def Own (BL BG:Nat) (lv:List (Int × Lv)) (gs:List (Int × Gd)) (k:Nat):Prop:=k=BL∨k=BG∨(∃ p ∈ lv,p.2.g=k)∨∃ p ∈ gs,p.2.g=k
section
variable {n0:Nat} {w w':World} {X BL BG:Nat} {lv:List (Int × Lv)} {gs:List (Int × Gd)}
theorem IsBook.own_low (h:IsBook n0 w X BL BG lv gs) {k:Nat} (hk:Own BL BG lv gs k):n0≤k:=by
 rcases hk with rfl | rfl | ⟨p,hp,rfl⟩ | ⟨p,hp,rfl⟩
 ·exact h.low.2.1
 ·exact h.low.2.2.1
 ·exact h.low.2.2.2.1 p hp
 ·exact h.low.2.2.2.2 p hp
theorem IsBook.touch {S:Nat→Prop} (h:IsBook n0 w X BL BG lv gs) (ht:Touch S w w') (hX:¬ S X) (hS:∀ k,Own BL BG lv gs k→¬ S k) (hL:∀ p ∈ gs,¬ S p.2.b):IsBook n0 w' X BL BG lv gs :=
 ⟨ht.blk h.blk hX,ht.isMap h.lvs (hS _ (.inl rfl)),ht.isMap h.gds (hS _ (.inr (.inl rfl))),fun p hp=>ht.blk (h.lc p hp) (hS _ (.inr (.inr (.inl ⟨p,hp,rfl⟩)))),h.la,fun p hp=>ht.blk (h.gc p hp) (hS _ (.inr (.inr (.inr ⟨p,hp,rfl⟩)))),h.ga,fun p hp=>by
  obtain ⟨h1,h2,cs,h3⟩:=h.lns p hp
  exact ⟨ht.rd h1 (fun b hb=>by simp at hb; subst hb; exact hL p hp),h2,cs,ht.blk h3 (hL p hp)⟩,h.two,h.low⟩
theorem IsBook.next (h:IsBook n0 w X BL BG lv gs) (hb:Below w.heap.size w w'):IsBook n0 w' X BL BG lv gs:=h.touch (S:=fun _=>False) (.of_below hb) (fun h=>h) (fun _ _ h=>h) (fun _ _ h=>h)
theorem IsBook.alloc (h:IsBook n0 w X BL BG lv gs) (o:Obj):IsBook n0 (w.alloc o) X BL BG lv gs:=h.next ((Below.refl _ _).alloc (Nat.le_refl _) o)
theorem IsBook.cellL (h:IsBook n0 w X BL BG lv gs):w.cell? ⟨X,0,none⟩=some (.map (some BL)):=h.blk.cell 0
theorem IsBook.cellG (h:IsBook n0 w X BL BG lv gs):w.cell? ⟨X,1,none⟩=some (.map (some BG)):=h.blk.cell 1
def ptrL (lv:List (Int × Lv)) (id:Int):Option Addr:=(mget lv id).map fun a=>⟨a.g,0,none⟩
def ptrG (gs:List (Int × Gd)) (o:Int):Option Addr:=(mget gs o).map fun a=>⟨a.g,0,none⟩
theorem IsBook.lookL (h:IsBook n0 w X BL BG lv gs) (id:Int):(Instr.lookup 126 (.map (some BL)) (.int .i64 id) false).run Tryz.prog w = .ok (.pointer (ptrL lv id)) w:=by
 have:=h.lvs.look keyL Tryz.underlying126 (zeroLv _) id
 rw [show looked (.pointer none) vLv lv id = .pointer (ptrL lv id) from by unfold looked ptrL; cases mget lv id <;> rfl] at this
 exact this
theorem IsBook.lookG (h:IsBook n0 w X BL BG lv gs) (o:Int):(Instr.lookup 128 (.map (some BG)) (.int .i64 o) false).run Tryz.prog w = .ok (.pointer (ptrG gs o)) w:=by
 have:=h.gds.look keyL Tryz.underlying128 (zeroGd _) o
 rw [show looked (.pointer none) vGd gs o = .pointer (ptrG gs o) from by unfold looked ptrG; cases mget gs o <;> rfl] at this
 exact this
theorem IsBook.atL (h:IsBook n0 w X BL BG lv gs) {id:Int} {a:Lv} (ha:mget lv id=some a):Blk w a.g 53 (enV a):=h.lc (id,a) (mget_mem ha)
theorem IsBook.atG (h:IsBook n0 w X BL BG lv gs) {o:Int} {d:Gd} (hd:mget gs o=some d):Blk w d.g 156 (enG d):=h.gc (o,d) (mget_mem hd)
theorem one_block {ν:Type} {m:List (Int × ν)} {g:ν→Nat} (ha:(m.map (fun p=>g p.2)).Nodup) {p:Int × ν} {id:Int} {a:ν} (hp:p ∈ m) (hm:mget m id=some a) (e:g p.2=g a):p=(id,a):=by
 obtain ⟨i1,hi1⟩:=List.mem_iff_getElem?.1 hp
 obtain ⟨i2,hi2⟩:=List.mem_iff_getElem?.1 (mget_mem hm)
 have e1:(m.map (fun p=>g p.2))[i1]?=some (g a):=by rw [List.getElem?_map,hi1]; simp [e]
 have e2:(m.map (fun p=>g p.2))[i2]?=some (g a):=by rw [List.getElem?_map,hi2]; rfl
 have hl:i1 < (m.map (fun p=>g p.2)).length:=(List.getElem?_eq_some_iff.1 e1).1
 have:=(List.getElem?_inj hl ha).1 (e1.trans e2.symm)
 subst this
 rw [hi1] at hi2
 injection hi2
theorem gs_same {ν:Type} {m:List (Int × ν)} {g:ν→Nat} {a a':ν} {id:Int} (ha:mget m id=some a) (hd:(m.map (·.1)).Nodup) (hg:g a'=g a):(mset m id a').map (fun p=>g p.2)=m.map (fun p=>g p.2):=by
 have:=mset_map_same g ha hd hg
 have:=congrArg (List.map Prod.snd) this
 simpa [List.map_map,Function.comp_def] using this
theorem gs_new {ν:Type} {m:List (Int × ν)} {g:ν→Nat} {a:ν} {id:Int} (hm:mget m id=none) (hd:(m.map (fun p=>g p.2)).Nodup) (hf:∀ p ∈ m,g p.2 ≠ g a):((mset m id a).map (fun p=>g p.2)).Nodup:=by
 rw [mset_new hm,List.map_append]
 refine List.nodup_append.2 ⟨hd,by simp,fun x hx y hy e => ?_⟩
 obtain ⟨p,hp,rfl⟩:=List.mem_map.1 hx
 simp at hy
 exact hf p hp (e.trans hy)
theorem IsBook.putL {a a':Lv} {id:Int} (h:IsBook n0 w X BL BG lv gs) (ha:mget lv id=some a) (hg:a'.g=a.g) (ht:Touch (· = a.g) w w') (hB:Blk w' a.g 53 (enV a')):IsBook n0 w' X BL BG (mset lv id a') gs:=by
 have hd:=h.lvs.nodup
 have hc:=h.atL ha
 refine ⟨ht.blk h.blk (h.blk.ne_ hc (by decide)),ht.isMap (h.lvs.same (mset_map_same vLv ha hd (by unfold vLv; rw [hg]))) (fun e=>h.lvs.notBlk hc e),ht.isMap h.gds (fun e=>h.gds.notBlk hc e),fun p hp => ?_, ?_,fun p hp=>ht.blk (h.gc p hp) ((h.gc p hp).ne_ hc (by decide)),h.ga,fun p hp => ?_,h.two, ?_⟩
 ·rcases mem_mset hp with rfl | ⟨hp',hne⟩
  ·show Blk w' a'.g _ _
   rw [hg]; exact hB
  ·exact ht.blk (h.lc p hp') (fun e=>hne (by rw [one_block (g:=Lv.g) h.la hp' ha e]))
 ·exact (gs_same (g:=Lv.g) ha hd hg).symm ▸ h.la
 ·obtain ⟨h1,h2,cs,h3⟩:=h.lns p hp
  have hn:¬ p.2.b=a.g:=h3.ne_ hc (by decide)
  exact ⟨ht.rd h1 (fun b hb=>by simp at hb; subst hb; exact hn),h2,cs,ht.blk h3 hn⟩
 ·refine ⟨h.low.1,h.low.2.1,h.low.2.2.1,fun p hp => ?_,h.low.2.2.2.2⟩
  rcases mem_mset hp with rfl | ⟨hp',_⟩
  ·show n0≤a'.g
   rw [hg]; exact h.low.2.2.2.1 _ (mget_mem ha)
  ·exact h.low.2.2.2.1 p hp'
theorem IsBook.addL {a:Lv} {id:Int} (h:IsBook n0 w X BL BG lv gs) (hm:mget lv id=none) (hB:Blk w a.g 53 (enV a)) (hf:∀ p ∈ lv,p.2.g ≠ a.g) (hn:n0≤a.g) (hM:IsMap w' BL kI vLv (mset lv id a)) (hgr:w.grownBy w' (some BL)):IsBook n0 w' X BL BG (mset lv id a) gs:=by
 have ht:=Touch.of_grown hgr
 have nB:∀ {g:Nat} {t:TypeId} {cs:Array Value},Blk w g t cs→¬ g=BL:=fun hb e=>h.lvs.notBlk hb e.symm
 refine ⟨ht.blk h.blk (nB h.blk),hM,ht.isMap h.gds (fun e=>h.two e.symm),fun p hp => ?_,gs_new (g:=Lv.g) hm h.la hf,fun p hp=>ht.blk (h.gc p hp) (nB (h.gc p hp)),h.ga,fun p hp => ?_,h.two, ?_⟩
 ·rcases mem_mset hp with rfl | ⟨hp',_⟩
  ·exact ht.blk hB (nB hB)
  ·exact ht.blk (h.lc p hp') (nB (h.lc p hp'))
 ·obtain ⟨h1,h2,cs,h3⟩:=h.lns p hp
  exact ⟨ht.rd h1 (fun b hb=>by simp at hb; subst hb; exact nB h3),h2,cs,ht.blk h3 (nB h3)⟩
 ·refine ⟨h.low.1,h.low.2.1,h.low.2.2.1,fun p hp => ?_,h.low.2.2.2.2⟩
  rcases mem_mset hp with rfl | ⟨hp',_⟩
  ·exact hn
  ·exact h.low.2.2.2.1 p hp'
theorem IsBook.putG {d d':Gd} {o:Int} (h:IsBook n0 w X BL BG lv gs) (hm:mget gs o=some d) (hg:d'.g=d.g) (hb:d'.b=d.b) (hls:d'.ls=d.ls) (ht:Touch (· = d.g) w w') (hB:Blk w' d.g 156 (enG d')):IsBook n0 w' X BL BG lv (mset gs o d'):=by
 have hd:=h.gds.nodup
 have hc:=h.atG hm
 refine ⟨ht.blk h.blk (h.blk.ne_ hc (by decide)),ht.isMap h.lvs (fun e=>h.lvs.notBlk hc e),ht.isMap (h.gds.same (mset_map_same vGd hm hd (by unfold vGd; rw [hg]))) (fun e=>h.gds.notBlk hc e),fun p hp=>ht.blk (h.lc p hp) ((h.lc p hp).ne_ hc (by decide)),h.la,fun p hp => ?_, ?_,fun p hp => ?_,h.two, ?_⟩
 ·rcases mem_mset hp with rfl | ⟨hp',hne⟩
  ·show Blk w' d'.g _ _
   rw [hg]; exact hB
  ·exact ht.blk (h.gc p hp') (fun e=>hne (by rw [one_block (g:=Gd.g) h.ga hp' hm e]))
 ·exact (gs_same (g:=Gd.g) hm hd hg).symm ▸ h.ga
 ·have keep:∀ q ∈ gs,Rd w' (some ⟨q.2.b,0,none⟩) (q.2.ls.flatMap enL)∧n0≤q.2.b∧∃ cs,Blk w' q.2.b 67 cs:=fun q hq=>by
   obtain ⟨h1,h2,cs,h3⟩:=h.lns q hq
   have hn:¬ q.2.b=d.g:=h3.ne_ hc (by decide)
   exact ⟨ht.rd h1 (fun b hb=>by simp at hb; subst hb; exact hn),h2,cs,ht.blk h3 hn⟩
  rcases mem_mset hp with rfl | ⟨hp',_⟩
  ·have:=keep _ (mget_mem hm)
   simp only at this ⊢
   rw [hb,hls]
   exact this
  ·exact keep p hp'
 ·refine ⟨h.low.1,h.low.2.1,h.low.2.2.1,h.low.2.2.2.1,fun p hp => ?_⟩
  rcases mem_mset hp with rfl | ⟨hp',_⟩
  ·show n0≤d'.g
   rw [hg]; exact h.low.2.2.2.2 _ (mget_mem hm)
  ·exact h.low.2.2.2.2 p hp'
theorem IsBook.addG {d:Gd} {o:Int} (h:IsBook n0 w X BL BG lv gs) (hm:mget gs o=none) (hB:Blk w d.g 156 (enG d)) (hf:∀ p ∈ gs,p.2.g ≠ d.g) (hn:n0≤d.g) (hR:Rd w (some ⟨d.b,0,none⟩) (d.ls.flatMap enL)) (hnb:n0≤d.b) (hk:∃ cs,Blk w d.b 67 cs) (hM:IsMap w' BG kI vGd (mset gs o d)) (hgr:w.grownBy w' (some BG)):IsBook n0 w' X BL BG lv (mset gs o d):=by
 have ht:=Touch.of_grown hgr
 have nB:∀ {g:Nat} {t:TypeId} {cs:Array Value},Blk w g t cs→¬ g=BG:=fun hb e=>h.gds.notBlk hb e.symm
 refine ⟨ht.blk h.blk (nB h.blk),ht.isMap h.lvs h.two,hM,fun p hp=>ht.blk (h.lc p hp) (nB (h.lc p hp)),h.la,fun p hp => ?_,gs_new (g:=Gd.g) hm h.ga hf,fun p hp => ?_,h.two, ?_⟩
 ·rcases mem_mset hp with rfl | ⟨hp',_⟩
  ·exact ht.blk hB (nB hB)
  ·exact ht.blk (h.gc p hp') (nB (h.gc p hp'))
 ·rcases mem_mset hp with rfl | ⟨hp',_⟩
  ·obtain ⟨cs,h3⟩:=hk
   exact ⟨ht.rd hR (fun b hb=>by simp at hb; subst hb; exact nB h3),hnb,cs,ht.blk h3 (nB h3)⟩
  ·obtain ⟨h1,h2,cs,h3⟩:=h.lns p hp'
   exact ⟨ht.rd h1 (fun b hb=>by simp at hb; subst hb; exact nB h3),h2,cs,ht.blk h3 (nB h3)⟩
 ·refine ⟨h.low.1,h.low.2.1,h.low.2.2.1,h.low.2.2.2.1,fun p hp => ?_⟩
  rcases mem_mset hp with rfl | ⟨hp',_⟩
  ·exact hn
  ·exact h.low.2.2.2.2 p hp'
theorem IsBook.delG {o:Int} (h:IsBook n0 w X BL BG lv gs) (hM:IsMap w' BG kI vGd (mdel gs o)) (hgr:w.grownBy w' (some BG)):IsBook n0 w' X BL BG lv (mdel gs o):=by
 have ht:=Touch.of_grown hgr
 have nB:∀ {g:Nat} {t:TypeId} {cs:Array Value},Blk w g t cs→¬ g=BG:=fun hb e=>h.gds.notBlk hb e.symm
 refine ⟨ht.blk h.blk (nB h.blk),ht.isMap h.lvs h.two,hM,fun p hp=>ht.blk (h.lc p hp) (nB (h.lc p hp)),h.la,fun p hp=>ht.blk (h.gc p (mem_mdel hp).1) (nB (h.gc p (mem_mdel hp).1)), ?_,fun p hp => ?_,h.two, ?_⟩
 ·unfold mdel
  exact h.ga.sublist (List.Sublist.map _ List.filter_sublist)
 ·obtain ⟨h1,h2,cs,h3⟩:=h.lns p (mem_mdel hp).1
  exact ⟨ht.rd h1 (fun b hb=>by simp at hb; subst hb; exact nB h3),h2,cs,ht.blk h3 (nB h3)⟩
 ·exact ⟨h.low.1,h.low.2.1,h.low.2.2.1,h.low.2.2.2.1,fun p hp=>h.low.2.2.2.2 p (mem_mdel hp).1⟩
theorem new_any (w:World):Calls Tryz.prog 21 #[] w fun e w' =>
  ∃ X BL BG,e = .returned (.pointer (some ⟨X,0,none⟩))∧IsBook w.heap.size w' X BL BG [] []∧Below w.heap.size w w':=by
 have hmm:=@run_makeMap Tryz.prog
 have hM1:=((IsMap.made w kI vLv).alloc (.map #[] 0)).alloc (.cells #[.map (some w.heap.size),.map (some (w.heap.size + 1))] 130)
 have hM2:=(IsMap.made (w.alloc (.map #[] 0)) kI vGd).alloc (.cells #[.map (some w.heap.size),.map (some (w.heap.size + 1))] 130)
 have hb:=Blk.new ((w.alloc (.map #[] 0)).alloc (.map #[] 0)) 130 #[.map (some w.heap.size),.map (some (w.heap.size + 1))]
 rw [World.size_alloc] at hM2
 rw [World.size_alloc,World.size_alloc] at hb
 have H:=hid (show IsBook w.heap.size (((w.alloc (.map #[] 0)).alloc (.map #[] 0)).alloc (.cells #[.map (some w.heap.size),.map (some (w.heap.size + 1))] 130)) (w.heap.size + 1 + 1) w.heap.size (w.heap.size + 1) [] [] from
  ⟨hb,hM1,hM2,(fun p hp=>by cases hp),by simp,(fun p hp=>by cases hp),by simp,(fun p hp=>by cases hp),by omega,by omega,by omega,by omega,(fun p hp=>by cases hp),(fun p hp=>by cases hp)⟩)
 clear hb hM1 hM2
 go_enter Tryz.func21,Tryz.ntmps21
 go_wp2_with fail
 go_ret
 exact ⟨w.heap.size + 1 + 1,w.heap.size,w.heap.size + 1,by simp,H.out,(((Below.refl _ _).alloc (Nat.le_refl _) _).alloc (by simp) _).alloc (by simp; omega) _⟩
end
end Go.Proofs.YtakaalldbnklcaaGreat.Sk
namespace Go.Proofs.YtakaalldbnklcaaGreat.Sk
open Go.RowKit Go.WideShapes Go.ChangeShapes Go.ChangeAt Go.Deep
set_option linter.unusedVariables false
section
variable {n0:Nat} {w w':World} {X BL BG:Nat} {lv:List (Int × Lv)} {gs:List (Int × Gd)}
def LvB (a:Lv):Prop:=(-4000000000000000000≤a.r∧a.r≤4000000000000000000)∧(-4000000000000000000≤a.h∧a.h≤4000000000000000000)∧(-4000000000000000000≤a.a∧a.a≤4000000000000000000)∧(-4000000000000000000≤a.s∧a.s≤4000000000000000000)∧(-4000000000000000000≤a.t∧a.t≤4000000000000000000)
def newLv (g:Nat) (id:Int):Lv:=⟨g,id,0,0,0,0,0⟩
set_option maxRecDepth 100000 in
set_option maxHeartbeats 4000000 in
theorem item_no (h:IsBook n0 w X BL BG lv gs) (id:Int) (hno:¬ (1≤id∧id≤64)) :
  Calls Tryz.prog 27 #[.pointer (some ⟨X,0,none⟩),.int .i64 id] w fun e w'=>e = .returned (.int .i64 2)∧w=w':=by
 rcases (show id < 1∨(1≤id∧64 < id) from by omega) with h1 | ⟨h1,h2⟩
 all_goals
  clear hno
  go_enter Tryz.func27,Tryz.ntmps27
  go_wp2_with fail
  go_ret
  exact ⟨rfl,rfl⟩
set_option maxRecDepth 100000 in
set_option maxHeartbeats 4000000 in
theorem item_old (h:IsBook n0 w X BL BG lv gs) (id:Int) (hok:1≤id∧id≤64) {a:Lv} (ha:mget lv id=some a) :
  Calls Tryz.prog 27 #[.pointer (some ⟨X,0,none⟩),.int .i64 id] w fun e w'=>e = .returned (.int .i64 0)∧w=w':=by
 obtain ⟨h1,h2⟩:=hok
 have c0:=h.cellL
 have l1:=h.lookL id
 rw [show ptrL lv id=some ⟨a.g,0,none⟩ from by unfold ptrL; rw [ha]; rfl] at l1
 clear h ha
 go_enter Tryz.func27,Tryz.ntmps27
 go_wp2_with fail
 go_ret
 exact ⟨rfl,rfl⟩
set_option maxRecDepth 100000 in
set_option maxHeartbeats 4000000 in
theorem item_new (h:IsBook n0 w X BL BG lv gs) (hn:n0≤w.heap.size) (id:Int) (hok:1≤id∧id≤64) (ha:mget lv id=none) :
  Calls Tryz.prog 27 #[.pointer (some ⟨X,0,none⟩),.int .i64 id] w fun e w'=>e = .returned (.int .i64 0)∧(∃ g,w.heap.size≤g∧IsBook n0 w' X BL BG (mset lv id (newLv g id)) gs)∧Touch (Own BL BG lv gs) w w':=by
 obtain ⟨h1,h2⟩:=hok
 have c0:=h.cellL
 have lX:X < w.heap.size:=h.blk.lt
 have l1:=h.lookL id
 rw [show ptrL lv id=none from by unfold ptrL; rw [ha]; rfl] at l1
 have hz:=h.alloc (.cells (enV (newLv w.heap.size id)) 53)
 have hB:Blk (w.alloc (.cells (enV (newLv w.heap.size id)) 53)) w.heap.size 53 (enV (newLv w.heap.size id)):=Blk.new _ _ _
 obtain ⟨w8,hrun,hM8,hg8,hs8⟩:=hz.lvs.store (P:=Tryz.prog) (mt:=126) (et:=127) keyL Tryz.underlying126 id (newLv w.heap.size id)
 simp only [vLv,kI,enV,newLv] at hrun
 have h8:=hz.addL ha hB (fun p hp e=>by have:=(h.lc p hp).lt; rw [e] at this; exact absurd this (Nat.lt_irrefl _)) hn hM8 hg8
 have hT:Touch (Own BL BG lv gs) w w8:=(Touch.of_below ((Below.refl _ _).alloc (Nat.le_refl _) (.cells (enV (newLv w.heap.size id)) 53))).then ((Touch.of_grown hg8).mono (fun k hk=>(.inl hk:Own BL BG lv gs k)))
 have HF:=hid (And.intro h8 hT)
 clear h ha hz hB hM8 hg8 hs8 h8 hT hn
 go_enter Tryz.func27,Tryz.ntmps27
 go_wp2_with fail
 go_ret
 exact ⟨rfl,⟨_,Nat.le_refl _,HF.out.1⟩,HF.out.2⟩
set_option maxRecDepth 100000 in
set_option maxHeartbeats 4000000 in
theorem recv_arg (h:IsBook n0 w X BL BG lv gs) (id q:Int) (hno:¬ (1≤q∧q≤1000000)) :
  Calls Tryz.prog 29 #[.pointer (some ⟨X,0,none⟩),.int .i64 id,.int .i64 q] w fun e w'=>e = .returned (.int .i64 2)∧w=w':=by
 rcases (show q < 1∨(1≤q∧1000000 < q) from by omega) with h1 | ⟨h1,h2⟩
 all_goals
  clear hno
  go_enter Tryz.func29,Tryz.ntmps29
  go_wp2_with fail
  go_ret
  exact ⟨rfl,rfl⟩
set_option maxRecDepth 100000 in
set_option maxHeartbeats 4000000 in
theorem recv_none (h:IsBook n0 w X BL BG lv gs) (id q:Int) (hok:1≤q∧q≤1000000) (ha:mget lv id=none) :
  Calls Tryz.prog 29 #[.pointer (some ⟨X,0,none⟩),.int .i64 id,.int .i64 q] w fun e w'=>e = .returned (.int .i64 70)∧w=w':=by
 obtain ⟨h1,h2⟩:=hok
 have c0:=h.cellL
 have l1:=h.lookL id
 rw [show ptrL lv id=none from by unfold ptrL; rw [ha]; rfl] at l1
 clear h ha
 go_enter Tryz.func29,Tryz.ntmps29
 go_wp2_with fail
 go_ret
 exact ⟨rfl,rfl⟩
set_option maxRecDepth 100000 in
set_option maxHeartbeats 4000000 in
theorem recv_many (h:IsBook n0 w X BL BG lv gs) (id q:Int) (hok:1≤q∧q≤1000000) {a:Lv} (ha:mget lv id=some a) (hm:1125899906842624 - q < a.r) :
  Calls Tryz.prog 29 #[.pointer (some ⟨X,0,none⟩),.int .i64 id,.int .i64 q] w fun e w'=>e = .returned (.int .i64 72)∧w=w':=by
 obtain ⟨h1,h2⟩:=hok
 have c0:=h.cellL
 have l1:=h.lookL id
 rw [show ptrL lv id=some ⟨a.g,0,none⟩ from by unfold ptrL; rw [ha]; rfl] at l1
 have r0:w.cell? ⟨a.g,1,none⟩=some (.int .i64 a.r):=(h.atL ha).cell 1
 have hw:IntKind.i64.wrap (1125899906842624 - q)=1125899906842624 - q:=IntWalk.i64_in _ ⟨by omega,by omega⟩
 have b1:decide (q < 1)=false:=decide_eq_false (by omega)
 have b2:decide (1000000 < q)=false:=decide_eq_false (by omega)
 have b3:decide (1125899906842624 - q < a.r)=true:=decide_eq_true hm
 clear h ha h1 h2 hm
 go_enter Tryz.func29,Tryz.ntmps29
 go_wp2_with fail
 go_ret
 exact ⟨rfl,rfl⟩
set_option maxRecDepth 100000 in
set_option maxHeartbeats 4000000 in
theorem recv_yes (h:IsBook n0 w X BL BG lv gs) (id q:Int) (hok:1≤q∧q≤1000000) {a:Lv} (ha:mget lv id=some a) (hm:a.r≤1125899906842624 - q) (hbd:LvB a) :
  Calls Tryz.prog 29 #[.pointer (some ⟨X,0,none⟩),.int .i64 id,.int .i64 q] w fun e w'=>e = .returned (.int .i64 0)∧IsBook n0 w' X BL BG (mset lv id ⟨a.g,a.i,a.r + q,a.h + q,a.a,a.s,a.t⟩) gs∧Touch (Own BL BG lv gs) w w':=by
 obtain ⟨h1,h2⟩:=hok
 unfold LvB at hbd
 have c0:=h.cellL
 have l1:=h.lookL id
 rw [show ptrL lv id=some ⟨a.g,0,none⟩ from by unfold ptrL; rw [ha]; rfl] at l1
 have hB:=h.atL ha
 have r1:w.cell? ⟨a.g,1,none⟩=some (.int .i64 a.r):=hB.cell 1
 have r2:w.cell? ⟨a.g,2,none⟩=some (.int .i64 a.h):=hB.cell 2
 have f1:=hB.free 1
 have f2:=hB.free 2
 have hw:IntKind.i64.wrap (1125899906842624 - q)=1125899906842624 - q:=IntWalk.i64_in _ ⟨by omega,by omega⟩
 have hw1:IntKind.i64.wrap (a.r + q)=a.r + q:=IntWalk.i64_in _ ⟨by omega,by omega⟩
 have hw2:IntKind.i64.wrap (a.h + q)=a.h + q:=IntWalk.i64_in _ ⟨by omega,by omega⟩
 have b1:decide (q < 1)=false:=decide_eq_false (by omega)
 have b2:decide (1000000 < q)=false:=decide_eq_false (by omega)
 have b3:decide (1125899906842624 - q < a.r)=false:=decide_eq_false (by omega)
 have hT:=(Touch.setCell w a.g 1 (.int .i64 (a.r + q))).then (Touch.setCell (w.setCell ⟨a.g,1,none⟩ (.int .i64 (a.r + q))) a.g 2 (.int .i64 (a.h + q)))
 have hB2:=(hB.set_ 1 (.int .i64 (a.r + q))).set_ 2 (.int .i64 (a.h + q))
 have hF:=hid (And.intro (h.putL (a':=⟨a.g,a.i,a.r + q,a.h + q,a.a,a.s,a.t⟩) ha rfl hT (by simpa [enV] using hB2)) (hT.mono (fun k hk=>(.inr (.inr (.inl ⟨_,mget_mem ha,hk.symm⟩)):Own BL BG lv gs k))))
 clear h ha h1 h2 hm hbd hB hT hB2
 go_enter Tryz.func29,Tryz.ntmps29
 go_wp2_with fail
 go_ret
 exact ⟨rfl,hF.out.1,hF.out.2⟩
end
end Go.Proofs.YtakaalldbnklcaaGreat.Sk
namespace Go.Proofs.YtakaalldbnklcaaGreat.Sk
open Go.RowKit Go.WideShapes Go.ChangeShapes Go.ChangeAt Go.Deep
set_option linter.unusedVariables false
def hasI (l:List Ln) (id:Int):Bool:=l.any fun x=>x.i == id
def LnOk (ls:List Ln) (k:Nat):Prop:=∀ x,ls[k]?=some x→1≤x.q∧x.q≤1000000∧hasI (ls.take k) x.i=false
def headF (o:Int) (n:Nat):Prop:=1≤o∧1≤n∧n≤4
def FitOk (o:Int) (ls:List Ln):Prop:=headF o ls.length∧∀ k,LnOk ls k
def knowF (lv:List (Int × Lv)) (ls:List Ln):Bool:=ls.all fun x=>(mget lv x.i).isSome
open Classical in
noncomputable def errF (lv:List (Int × Lv)) (gs:List (Int × Gd)) (o:Int) (ls:List Ln):Int :=
 if FitOk o ls then (if knowF lv ls=true then (if (mget gs o).isSome=true then 71 else 0) else 70) else 2
section
variable {n0:Nat} {w w':World} {X BL BG:Nat} {lv:List (Int × Lv)} {gs:List (Int × Gd)} {o:Int} {ls:List Ln}
theorem errF_bad (h:¬ FitOk o ls):errF lv gs o ls=2:=if_neg h
theorem errF_none (h:FitOk o ls) (hk:knowF lv ls=false):errF lv gs o ls=70:=by unfold errF; rw [if_pos h,hk]; rfl
theorem errF_there (h:FitOk o ls) (hk:knowF lv ls=true) (ht:(mget gs o).isSome=true):errF lv gs o ls=71:=by unfold errF; rw [if_pos h,if_pos hk,if_pos ht]
theorem errF_ok (h:FitOk o ls) (hk:knowF lv ls=true) (ht:(mget gs o).isSome=false):errF lv gs o ls=0:=by unfold errF; rw [if_pos h,if_pos hk,ht]; rfl
theorem errF_zero (h:errF lv gs o ls=0):FitOk o ls∧knowF lv ls=true∧mget gs o=none:=by
 by_cases h1:FitOk o ls
 ·cases h2:knowF lv ls with
  | false=>rw [errF_none h1 h2] at h; omega
  | true =>
   cases h3:mget gs o with
   | some d=>rw [errF_there h1 h2 (by rw [h3]; rfl)] at h; omega
   | none=>exact ⟨h1,rfl,rfl⟩
 ·rw [errF_bad h1] at h; omega
set_option maxRecDepth 100000 in
set_option maxHeartbeats 4000000 in
theorem fit1_any (x:Ln) (G:Nat) (id:Int) (w:World) (hG:w.cell? ⟨G,0,none⟩=some (.int .i64 id)) (hGl:G < w.heap.size) :
  Calls Tryz.prog 217 #[.agg #[.int .i64 x.i,.int .i64 x.q],.pointer (some ⟨G,0,none⟩)] w fun e w'=>e = .returned (.bool (x.i == id))∧Below w.heap.size w w':=by
 obtain ⟨xi,xq⟩:=x
 go_enter Tryz.func217,Tryz.ntmps217
 go_wp2_with fail
 go_ret
 exact ⟨rfl,(Below.refl _ _).alloc (Nat.le_refl _) _⟩
set_option maxRecDepth 100000 in
set_option maxHeartbeats 4000000 in
theorem fit2_any (h:IsBook n0 w X BL BG lv gs) (x:Ln) (B:Nat) (hB:Blk w B 38 #[.pointer (some ⟨X,0,none⟩)]) :
  Calls Tryz.prog 218 #[.agg #[.int .i64 x.i,.int .i64 x.q],.pointer (some ⟨B,0,none⟩)] w fun e w'=>e = .returned (.bool (mget lv x.i).isNone)∧Below w.heap.size w w':=by
 obtain ⟨xi,xq⟩:=x
 have hwb:Below w.heap.size w (w.alloc (.cells #[.int .i64 xi,.int .i64 xq] 67)):=(Below.refl _ _).alloc (Nat.le_refl _) _
 have hG0:Blk (w.alloc (.cells #[.int .i64 xi,.int .i64 xq] 67)) w.heap.size 67 #[.int .i64 xi,.int .i64 xq]:=Blk.new _ _ _
 obtain ⟨wz,hwz⟩:∃ wz,wz=w.alloc (.cells #[.int .i64 xi,.int .i64 xq] 67):=⟨_,rfl⟩
 obtain ⟨G,hGG⟩:∃ G,G=w.heap.size:=⟨_,rfl⟩
 have HW:=hid hwz
 have HGG:=hid hGG
 rw [← hwz] at hwb hG0
 rw [← hGG] at hG0
 obtain ⟨C,hCd⟩:∃ C:World→Prop,∀ w',C w' ↔ Below wz.heap.size wz w':=⟨_,fun _=>Iff.rfl⟩
 have hC:C wz.drew:=(hCd _).2 ((Below.refl _ _).drew)
 have hI:=fun (p:In C)=>h.next (bthen hwb ((hCd _).1 p.h))
 have g0:∀ p:In C,p.w.cell? ⟨G,0,none⟩=some (.int .i64 xi):=fun p=>(hG0.next ((hCd _).1 p.h)).cell 0
 have b0:∀ p:In C,p.w.cell? ⟨B,0,none⟩=some (.pointer (some ⟨X,0,none⟩)):=fun p=>(hB.next (bthen hwb ((hCd _).1 p.h))).cell 0
 have c0:∀ p:In C,p.w.cell? ⟨X,0,none⟩=some (.map (some BL)):=fun p=>(hI p).cellL
 have l0:∀ p:In C,(Instr.lookup 126 (.map (some BL)) (.int .i64 xi) false).run Tryz.prog p.w = .ok (.pointer (ptrL lv xi)) p.w:=fun p=>(hI p).lookL xi
 have HCd:=hid hCd
 have HWB:=hid hwb
 clear hCd hI hG0 hwz hGG hwb h hB
 unfold ptrL at l0
 cases hm:mget lv xi with
 | none =>
  rw [hm] at l0
  simp only [Option.map_none] at l0
  clear hm
  go_enter Tryz.func218,Tryz.ntmps218
  go_wp2_with fail
  rw [← HW.out, ← HGG.out]
  refine wp_region_in C (by kernel_rfl) (by kernel_rfl) hC ?_
  intro hne
  clear hC
  repeat (first | go_big_quiet_step (fail) | quiet_step (fail))
  refine wpQuiet_nil ?_
  intro wq hq
  have hb:=bthen HWB.out ((HCd.out _).1 hq)
  clear g0 b0 c0 l0 hne hq HCd
  go_wp2_with fail
  go_ret
  exact ⟨rfl,hb⟩
 | some a =>
  rw [hm] at l0
  simp only [Option.map_some] at l0
  clear hm
  go_enter Tryz.func218,Tryz.ntmps218
  go_wp2_with fail
  rw [← HW.out, ← HGG.out]
  refine wp_region_in C (by kernel_rfl) (by kernel_rfl) hC ?_
  intro hne
  clear hC
  repeat (first | go_big_quiet_step (fail) | quiet_step (fail))
  refine wpQuiet_nil ?_
  intro wq hq
  have hb:=bthen HWB.out ((HCd.out _).1 hq)
  clear g0 b0 c0 l0 hne hq HCd
  go_wp2_with fail
  go_ret
  exact ⟨rfl,hb⟩
set_option maxRecDepth 100000 in
set_option maxHeartbeats 4000000 in
theorem fit_head (o:Int) (A:Option Addr) (cap:Nat) (ls:List Ln) (v:Addr) (hno:¬ headF o ls.length) :
  Calls Tryz.prog 169 #[.pointer (some v),.int .i64 o,.slice A ls.length cap] w fun e w'=>e = .returned (.int .i64 2)∧Below w.heap.size w w':=by
 unfold headF at hno
 rcases (show o < 1∨(1≤o∧ls.length=0)∨(1≤o∧4 < ls.length) from by omega) with h1 | ⟨h1,h2⟩ | ⟨h1,h2⟩
 ·clear hno
  go_enter Tryz.func169,Tryz.ntmps169
  go_wp2_with fail
  go_ret
  exact ⟨rfl,(Below.refl _ _).alloc (Nat.le_refl _) _⟩
 ·have b1:decide (o < 1)=false:=decide_eq_false (by omega)
  rw [h2]
  clear hno h1 h2
  go_enter Tryz.func169,Tryz.ntmps169
  go_wp2_with fail
  go_ret
  exact ⟨rfl,(Below.refl _ _).alloc (Nat.le_refl _) _⟩
 ·have b1:decide (o < 1)=false:=decide_eq_false (by omega)
  have b2:((ls.length:Int) == 0)=false:=beq_eq_false_iff_ne.2 (by omega)
  have b3:decide ((4:Int) < (ls.length:Int))=true:=decide_eq_true (by omega)
  clear hno h1 h2
  go_enter Tryz.func169,Tryz.ntmps169
  go_wp2_with fail
  go_ret
  exact ⟨rfl,(Below.refl _ _).alloc (Nat.le_refl _) _⟩
theorem any_know (lv:List (Int × Lv)) (ls:List Ln):(ls.any fun x=>(mget lv x.i).isNone) = !(knowF lv ls):=by
 unfold knowF
 induction ls with
 | nil=>rfl
 | cons x l ih=>simp only [List.any_cons,List.all_cons,ih]; cases mget lv x.i <;> simp
set_option maxRecDepth 100000 in
set_option maxHeartbeats 16000000 in
theorem fit_body (h:IsBook n0 w X BL BG lv gs) (o:Int) (A:Option Addr) (cap:Nat) (ls:List Ln) (hok:headF o ls.length) (hR:Rd w A (ls.flatMap enL)) (hcap:ls.length≤cap) (hcm:cap≤maxLen) :
    Calls Tryz.prog 169 #[.pointer (some ⟨X,0,none⟩),.int .i64 o,.slice A ls.length cap] w fun e w'=>e = .returned (.int .i64 (errF lv gs o ls))∧Below w.heap.size w w':=by
  have hmf:∀ (fn:Fn) (first cap:Array Value) (w:World),(Instr.makeFunc fn first cap).run Tryz.prog w = .ok (.func fn first cap) w:=fun _ _ _ _=>rfl
  have HK:=hid hok
  obtain ⟨h1,h2,h3⟩:=hok
  have b1:decide (o < 1)=false:=decide_eq_false (by omega)
  have b2:((ls.length:Int) == 0)=false:=beq_eq_false_iff_ne.2 (by omega)
  have b3:decide ((4:Int) < (ls.length:Int))=false:=decide_eq_false (by omega)
  unfold maxLen at hcm
  obtain ⟨w1,hw1⟩:∃ w1,w1=w.alloc (.cells #[.pointer (some ⟨X,0,none⟩)] 38):=⟨_,rfl⟩
  obtain ⟨B,hBB⟩:∃ B,B=w.heap.size:=⟨_,rfl⟩
  have hb1:Below w.heap.size w w1:=by rw [hw1]; exact (Below.refl _ _).alloc (Nat.le_refl _) _
  have HB:=hid (show Blk w1 B 38 #[.pointer (some ⟨X,0,none⟩)] from by rw [hw1,hBB]; exact Blk.new _ _ _)
  have H0:=hid (h.next hb1)
  have hR1:=hR.below hb1
  have HB1:=hid hb1
  have HW1:=hid hw1
  have HBB:=hid hBB
  clear h hR hb1 hw1 hBB h1
  go_enter Tryz.func169,Tryz.ntmps169
  go_wp2_with fail
  rw [← HW1.out, ← HBB.out]
  clear b1 b2 b3
  go_loopw [23] (fun i wr=>∃ k:Nat,k≤ls.length∧i = .int .i64 k∧Hid (∀ j,j < k→LnOk ls j)∧Below w1.heap.size w1 wr) (fun i _=>ls.length - nOf i)
  case atStart=>exact ⟨0,Nat.zero_le _,rfl,hid (fun j hj=>by omega),Below.refl _ _⟩
  case round =>
    obtain ⟨k,hk,rfl,hG,hb⟩:=hrel
    by_cases hlt:k < ls.length
    · obtain ⟨x,hx⟩:∃ x,ls[k]?=some x:=⟨ls[k],List.getElem?_eq_getElem hlt⟩
      obtain ⟨b,off,hAA,hbs,hcc⟩:=(hR1.below hb).at_ 2 enL_len (by omega) hx
      have HX:=hid hx
      have hln:(ls.take k).length=k:=by simp; omega
      obtain ⟨xi,xq⟩:=x
      have q0:wr.cell? ⟨b,off + k * 2,none⟩=some (.int .i64 xi):=hcc 0 _ rfl
      have q1:wr.cell? ⟨b,off + k * 2 + 1,none⟩=some (.int .i64 xq):=hcc 1 _ rfl
      have hwb:Below wr.heap.size wr (wr.alloc (.cells #[.int .i64 xi,.int .i64 xq] 67)):=(Below.refl _ _).alloc (Nat.le_refl _) _
      have hG0:Blk (wr.alloc (.cells #[.int .i64 xi,.int .i64 xq] 67)) wr.heap.size 67 #[.int .i64 xi,.int .i64 xq]:=Blk.new _ _ _
      obtain ⟨wz,hwz⟩:∃ wz,wz=wr.alloc (.cells #[.int .i64 xi,.int .i64 xq] 67):=⟨_,rfl⟩
      obtain ⟨G,hGG⟩:∃ G,G=wr.heap.size:=⟨_,rfl⟩
      have HW:=hid hwz
      have HGG:=hid hGG
      have hbz:=bthen hb hwb
      rw [← hwz, ← hGG] at hG0
      rw [← hwz] at hbz
      clear hcc hx hwb hwz hGG hb hbs
      have g1:wz.cell? ⟨G,1,none⟩=some (.int .i64 xq):=hG0.cell 1
      by_cases hq1:1≤xq
      · by_cases hq2:xq≤1000000
        · have K:=containsF_any (ls.take k) A cap 217 (.pointer (some ⟨G,0,none⟩)) (fun x=>x.i == xi) wz ((hR1.below hbz).take k) (by omega) (fun _ _=>by go_simp) (fun y _ w' hb'=>fit1_any y G xi w' ((hG0.next hb').cell 0) (hG0.next hb').lt)
          rw [hln] at K
          have d1:decide (xq < 1)=false:=decide_eq_false (by omega)
          have d2:decide (1000000 < xq)=false:=decide_eq_false (by omega)
          subst hAA
          cases hh:hasI (ls.take k) xi with
          | true =>
            rw [show ((ls.take k).any fun x=>x.i == xi)=true from hh] at K
            have HE:=hid (errF_bad (lv:=lv) (gs:=gs) (show ¬ FitOk o ls from fun hb=>by have:=(hb.2 k _ HX.out).2.2; rw [hh] at this; cases this))
            replace K:=hid K
            have HBZ:=hid hbz
            clear hh hln hbz hG0 hR1
            go_wp2_with fail
            rw [← HW.out, ← HGG.out]
            go_wp2_with (first | (go_at_call 101; refine K.out.mono ?_; rintro e w5 ⟨rfl,hb5⟩))
            go_ret
            rw [HE.out]
            exact ⟨rfl,bthen HB1.out (bthen HBZ.out hb5)⟩
          | false =>
            rw [show ((ls.take k).any fun x=>x.i == xi)=false from hh] at K
            have HGOOD:=hid (show LnOk ls k from fun y hy=>by rw [HX.out] at hy; injection hy with hy; subst hy; exact ⟨hq1,hq2,hh⟩)
            replace K:=hid K
            have HBZ:=hid hbz
            clear hh hln hbz hG0
            go_wp2_with fail
            rw [← HW.out, ← HGG.out]
            go_wp2_with (first | (go_at_call 101; refine K.out.mono ?_; rintro e w5 ⟨rfl,hb5⟩))
            have hbq:=bthen HBZ.out hb5
            clear K hb5 g1 q0 q1 d1 d2
            go_roundw
            case rel=>exact ⟨k + 1,by omega,by go_num,hid (fun j hj=>(Nat.lt_succ_iff_lt_or_eq.1 hj).elim (fun h=>hG.out j h) (fun e=>by subst e; exact HGOOD.out)),hbq⟩
            case measure=>simp [nOf]; omega
        · have d1:decide (xq < 1)=false:=decide_eq_false (by omega)
          have d2:decide (1000000 < xq)=true:=decide_eq_true (by omega)
          have HE:=hid (errF_bad (lv:=lv) (gs:=gs) (show ¬ FitOk o ls from fun hb=>hq2 (hb.2 k _ HX.out).2.1))
          have HBZ:=hid hbz
          subst hAA
          clear hln hbz hG0 hR1 hq2
          go_wp2_with fail
          rw [← HW.out, ← HGG.out]
          go_wp2_with fail
          go_ret
          rw [HE.out]
          exact ⟨rfl,bthen HB1.out HBZ.out⟩
      · have d1:decide (xq < 1)=true:=decide_eq_true (by omega)
        have HE:=hid (errF_bad (lv:=lv) (gs:=gs) (show ¬ FitOk o ls from fun hb=>hq1 (hb.2 k _ HX.out).1))
        have HBZ:=hid hbz
        subst hAA
        clear hln hbz hG0 hR1 hq1
        go_wp2_with fail
        rw [← HW.out, ← HGG.out]
        go_wp2_with fail
        go_ret
        rw [HE.out]
        exact ⟨rfl,bthen HB1.out HBZ.out⟩
    · have hk' : k=ls.length:=by omega
      subst hk'
      have hOK:FitOk o ls:=⟨HK.out,fun j=>by
        by_cases hj:j < ls.length
        · exact hG.out j hj
        · intro p hp
          rw [List.getElem?_eq_none (by omega)] at hp
          cases hp⟩
      have K:=containsF_any ls A cap 218 (.pointer (some ⟨B,0,none⟩)) (fun x=>(mget lv x.i).isNone) wr (hR1.below hb) (by omega) (fun _ _=>by go_simp) (fun y _ w' hb'=>fit2_any (H0.out.next (bthen hb hb')) y B (HB.out.next (bthen hb hb')))
      rw [any_know] at K
      have HBR:=hid hb
      have HOKK:=hid hOK
      clear hG hk hlt hb hOK hR1
      cases hkn:knowF lv ls with
      | false =>
        rw [hkn] at K
        have HE:=hid (errF_none (gs:=gs) HOKK.out hkn)
        replace K:=hid K
        clear hkn
        go_wp2_with (first | (go_at_call 101; refine K.out.mono ?_; rintro e w5 ⟨rfl,hb5⟩))
        go_ret
        rw [HE.out]
        exact ⟨rfl,bthen HB1.out (bthen HBR.out hb5)⟩
      | true =>
        rw [hkn] at K
        have HKN:=hid hkn
        replace K:=hid K
        clear hkn
        cases hm:mget gs o with
        | none =>
          have HE:=hid (errF_ok (lv:=lv) HOKK.out HKN.out (show (mget gs o).isSome=false from by rw [hm]; rfl))
          have HL:=hid (fun (w':World) (h:IsBook n0 w' X BL BG lv gs)=>(show (Instr.lookup 128 (.map (some BG)) (.int .i64 o) false).run Tryz.prog w' = .ok (.pointer none) w' from by
            have:=h.lookG o
            unfold ptrG at this
            rw [hm] at this
            exact this))
          clear hm
          go_wp2_with (first
            | (go_at_call 101; refine K.out.mono ?_; rintro e w5 ⟨rfl,hb5⟩
               have hI:=H0.out.next (bthen HBR.out hb5)
               have b0:w5.cell? ⟨B,0,none⟩=some (.pointer (some ⟨X,0,none⟩)):=(HB.out.next (bthen HBR.out hb5)).cell 0
               have c1:=hI.cellG
               have l2:=HL.out w5 hI
               have HB5:=hid (bthen HB1.out (bthen HBR.out hb5))
               clear hI hb5))
          go_ret
          rw [HE.out]
          exact ⟨rfl,HB5.out⟩
        | some d =>
          have HE:=hid (errF_there HOKK.out HKN.out (show (mget gs o).isSome=true from by rw [hm]; rfl))
          have HL:=hid (fun (w':World) (h:IsBook n0 w' X BL BG lv gs)=>(show (Instr.lookup 128 (.map (some BG)) (.int .i64 o) false).run Tryz.prog w' = .ok (.pointer (some ⟨d.g,0,none⟩)) w' from by
            have:=h.lookG o
            unfold ptrG at this
            rw [hm] at this
            exact this))
          clear hm
          go_wp2_with (first
            | (go_at_call 101; refine K.out.mono ?_; rintro e w5 ⟨rfl,hb5⟩
               have hI:=H0.out.next (bthen HBR.out hb5)
               have b0:w5.cell? ⟨B,0,none⟩=some (.pointer (some ⟨X,0,none⟩)):=(HB.out.next (bthen HBR.out hb5)).cell 0
               have c1:=hI.cellG
               have l2:=HL.out w5 hI
               have HB5:=hid (bthen HB1.out (bthen HBR.out hb5))
               clear hI hb5))
          go_ret
          rw [HE.out]
          exact ⟨rfl,HB5.out⟩
theorem fit_any (h:IsBook n0 w X BL BG lv gs) (o:Int) (A:Option Addr) (cap:Nat) (ls:List Ln) (hR:Rd w A (ls.flatMap enL)) (hcap:ls.length≤cap) (hcm:cap≤maxLen) :
  Calls Tryz.prog 169 #[.pointer (some ⟨X,0,none⟩),.int .i64 o,.slice A ls.length cap] w fun e w'=>e = .returned (.int .i64 (errF lv gs o ls))∧Below w.heap.size w w':=by
 by_cases hok:headF o ls.length
 ·exact fit_body h o A cap ls hok hR hcap hcm
 ·rw [errF_bad (lv:=lv) (gs:=gs) (fun h=>hok h.1)]
  exact fit_head o A cap ls _ hok
end
end Go.Proofs.YtakaalldbnklcaaGreat.Sk
namespace Go.Proofs.YtakaalldbnklcaaGreat.Sk
open Go.RowKit Go.Maps Go.Sort
set_option linter.unusedVariables false
theorem sortsI (m:Nat):AnyZI.SortsIn Tryz.prog Tryz.sortedI_ren Fence.wide m :=
  ⟨fun blk off cap ss W hH hblk hsz=>callsIn_wide.2 (AnyM.slices_Sort_int Tryz.sortI blk off cap ss W hH hblk hsz),
   fun p cap W=>callsIn_wide.2 (AnyM.slices_Sort_int_none Tryz.sortI p cap W)⟩
def srt (l:List Int):List Int:=l.mergeSort (fun x y=>decide (x≤y))
theorem srt_perm (l:List Int):(srt l).Perm l:=List.mergeSort_perm _ _
theorem srt_sorted (l:List Int):(srt l).Pairwise (fun a b=>a≤b):=by
 have:=List.pairwise_mergeSort (le:=fun x y:Int=>decide (x≤y)) (fun a b c h g=>by simp only [decide_eq_true_eq] at *; omega) (fun a b=>by simp only [Bool.or_eq_true,decide_eq_true_eq]; omega) l
 exact this.imp (fun h=>by simpa using h)
theorem srt_rise {l:List Int} (hn:l.Nodup):(srt l).Pairwise (fun a b=>a < b):=by
 have h1:=srt_sorted l
 have h2:(srt l).Nodup:=(srt_perm l).nodup_iff.2 hn
 refine (h1.and h2).imp ?_
 rintro a b ⟨h,h'⟩
 omega
end Go.Proofs.YtakaalldbnklcaaGreat.Sk
namespace Go.Proofs.YtakaalldbnklcaaGreat.Sk
open Go.RowKit Go.Maps Go.Sort
set_option linter.unusedVariables false
set_option maxRecDepth 100000 in
set_option maxHeartbeats 2000000 in
theorem keys1_inL (F:Fence) (n:Nat) (hf:F.fn 83) (hro:F.round=none) (hn:1≤n) (l Bm b:Nat) (m:List (Int × Lv)) (J:List Int→World→Prop)
  (hY:∀ pre x W,J pre W→pre.length < m.length→YieldAt F (n - 1) Tryz.prog l #[kI x] W fun e W'=>e = .returned (.bool true)∧J (pre++[x]) W'∧KeepsWalks W W')
  (W:World) (hJ:AbidesFrom W.heap.size J) (hm:W.cell? ⟨Bm,0,none⟩=some (.map (some b))) (hM:IsMap W b kI vLv m) (h0:J [] W) :
  CallsIn F n Tryz.prog 83 #[.func (.yield l) #[] #[],.pointer (some ⟨Bm,0,none⟩)] W fun e W'=>(∃ v,e = .returned v)∧∃ xs:List Int,xs.Perm (m.map (·.1))∧J xs W':=by
 refine callsIn_of_wp Tryz.func83 rfl hf ?_ hro
 simp only [Tryz.ntmps83,List.size_toArray,List.length_cons,List.length_nil,Nat.reduceAdd,Nat.reduceSub,Array.replicate_succ,Array.replicate_zero,List.push_toArray,List.append_toArray,List.nil_append,List.cons_append]
 gi_wp2_with (first
  | (gi_at_range; refine wpListIn_range_m _ rfl _ 126 3 127 rfl Tryz.underlying126 b m rfl hM ?_; intro w0 hrg0 hg0 hs0)
  | gi_in)
 go_frame
 gi_loopw [3] (fun _ wr=>∃ (left ps:List (Int × Lv)),IsIter wr W.heap.size b kI vLv m left∧(ps++left).Perm m∧J (ps.map (·.1)) wr)
  (fun _ wr=>wr.rangeLeft b W.heap.size)
 case atStart =>
  exact ⟨m,[],hrg0,List.Perm.refl _,hJ [] W w0 none h0 hg0 (fun r e=>by cases e)⟩
 case round =>
  obtain ⟨left,ps,hrg,hP,hJs⟩:=hrel
  gi_wp2_with (first
   | (gi_at_next; refine wpListIn_next_m _ rfl _ rfl W.heap.size b m left rfl hrg ?_ ?_)
   | gi_in)
  ·intro hl0
   subst hl0
   gi_wp2
   go_end0
   exact ⟨⟨_,rfl⟩,ps.map (·.1),by rw [List.append_nil] at hP; exact hP.map _,hJs⟩
  ·intro k v left' w2 hp hrg2 hg2 hs2 hen
   have hJ2:J (ps.map (·.1)) w2:=hJ _ wr w2 (some W.heap.size) hJs hg2 (fun r e=>by cases e; exact ⟨Nat.le_refl _,hrg.iter_walk⟩)
   have hlen:(ps.map (·.1)).length < m.length:=by
    have h1:=hP.length_eq
    have h2:=hp.length_eq
    simp at h1 h2 ⊢
    omega
   obtain ⟨fn,tmps,assign,body,hy,hR⟩:=hY _ k _ hJ2 hlen
   clear hs2
   simp only [kI] at hen hy
   gi_wp2
   refine hR.mono ?_
   rintro e W3 ⟨rfl,hJ4,hk4⟩
   gi_wp2
   have hrg4:=hrg2.of_walks hk4
   go_roundw
   case rel=>exact ⟨left',ps++[(k,v)],hrg4,by rw [List.append_assoc]; exact ((hp.symm).append_left ps).trans hP,by simpa using hJ4⟩
   case measure=>rw [hrg4.left_len,hrg.left_len]; have:=hp.length_eq; simp at this; omega
theorem keys_givesL (F:Fence) (n:Nat) (hf:F.fn 83) (hro:F.round=none) (hn:1≤n) (Bm b:Nat) (m:List (Int × Lv)) (w:World) (hBm:Bm < w.heap.size)
  (hm:w.cell? ⟨Bm,0,none⟩=some (.map (some b))) (hM:IsMap w b kI vLv m) :
  SeqGives F n Tryz.prog 83 #[.pointer (some ⟨Bm,0,none⟩)] kI (fun xs=>xs.Perm (m.map (·.1))) m.length w:=fun l J W hW hJ hY h0 =>
 keys1_inL F n hf hro hn l Bm b m J hY W hJ ((hW.cell (p:=⟨Bm,0,none⟩) hBm).trans hm) (hM.next hW) h0
set_option maxHeartbeats 1000000 in
theorem keysCall_inL (F:Fence) (n:Nat) (hf:F.fn 40) (hro:F.round=none) (mb:Option Nat) (w:World) :
  CallsIn F n Tryz.prog 40 #[.map mb] w fun e w'=>e = .returned (.func (.func 83) #[] #[.pointer (some ⟨w.heap.size,0,none⟩)])∧w'=w.alloc (.cells #[.map mb] 126):=by
 refine callsIn_of_wp Tryz.func40 rfl hf ?_ hro
 simp only [Tryz.ntmps40,List.size_toArray,List.length_cons,List.length_nil,Nat.reduceAdd,Nat.reduceSub,Array.replicate_succ,Array.replicate_zero,List.push_toArray,List.append_toArray,List.nil_append,List.cons_append]
 gi_wp2
 go_ret
 exact ⟨rfl,rfl⟩
set_option maxRecDepth 100000 in
set_option maxHeartbeats 2000000 in
theorem sortedKeysL (w:World) (Bm b:Nat) (m:List (Int × Lv)) (hm:m.length * 8≤140737488351232) (hBm:Bm < w.heap.size) (hc:w.cell? ⟨Bm,0,none⟩=some (.map (some b))) (hM:IsMap w b kI vLv m) :
  Calls Tryz.prog 39 #[.func (.func 83) #[] #[.pointer (some ⟨Bm,0,none⟩)]] w fun e w' =>
   ∃ (v:Value) (ss:List Int),e = .returned v∧ss.Perm (m.map (·.1))∧w'.ownsRow w.heap.size 3 1 v ss.length ((srt ss).map kI)∧Below w.heap.size w w':=by
 refine (callsIn_wide (n:=5)).1 ?_
 have hseq:SeqGives Fence.wide 2 Tryz.prog 83 #[.pointer (some ⟨Bm,0,none⟩)] kI (fun xs=>xs.Perm (m.map (·.1))) m.length w:=keys_givesL Fence.wide 2 trivial rfl (by omega) Bm b m w hBm hc hM
 have cS:=AnyZI.sorted_in Tryz.sortedI Fence.wide 5 trivial trivial trivial trivial rfl (by omega) (sortsI _) (enters_of Tryz.func82 (by kernel_rfl) rfl) 83 #[.pointer (some ⟨Bm,0,none⟩)] trivial (enters_of Tryz.func83 (by kernel_rfl) rfl) _ m.length (by unfold maxLen; omega) (by omega) w hseq
 exact cS.mono fun e w' ⟨v,ss,h1,h2,h3,_,h5⟩=>⟨v,ss,h1,h2,h3,h5⟩
end Go.Proofs.YtakaalldbnklcaaGreat.Sk
