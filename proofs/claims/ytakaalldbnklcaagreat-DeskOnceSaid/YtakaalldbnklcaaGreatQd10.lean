/-
  A row of stock lines: its words; slices.Clone; slices.ContainsFunc with the test of an equal item.
  flow.IsWord: is it a name?
  The orders' book: prices and orders, told by two lists; New, Item.
  Contracts of package bill and of its reference: what a total is; the postings, as lists of pairs (account, amount).
  The orders' book: lines, May.
  The orders' book: May, Add.
  The orders' book: twin, Get.
  Keys, sorted: slices.Sort at ints.
  maps.Keys over a map of the book: its iterator's contracts; slices.Sorted of the keys (printed by gen_keys.py).
  maps.Keys over a map of the book: its iterator's contracts; slices.Sorted of the keys (printed by gen_keys.py).
-/
import Derived.Test.YtakaalldbnklcaaGreatQd1
import Derived.Test.YtakaalldbnklcaaGreatQd2
import Derived.Test.YtakaalldbnklcaaGreatQd3
import Derived.Lib.BufferMore
import Derived.RegionTactic
import Derived.Deep.RegionHeld3
import Derived.WalkLawsBesides
import Derived.WalkSpells
import Derived.Deep.QuietTactic
import Derived.BigQuiet
import Derived.Shelf.SortM.Plain
import Derived.Shelf.SortM.SortNone
import Derived.Shelf.SlIterI.Sorted
namespace Go.Proofs.YtakaalldbnklcaaGreat.Or
open Go.RowKit Go.WideShapes Go.ChangeShapes Go.ChangeAt Go.Deep
set_option linter.unusedVariables false
structure Ln where
 i:Int
 q:Int
instance:Inhabited Ln:=⟨⟨0,0⟩⟩
def enL (x:Ln):List Value:=[.int .i64 x.i,.int .i64 x.q]
theorem enL_len (x:Ln):(enL x).length=2:=rfl
theorem enL_one (h:Ln):∀ v ∈ enL h,v.oneCell'=true:=by
 intro v hv
 simp only [enL,List.mem_cons,List.not_mem_nil,or_false] at hv
 rcases hv with rfl | rfl <;> rfl
theorem enLs_one (l:List Ln):∀ v ∈ l.flatMap enL,v.oneCell'=true:=fun v hv=>by
 obtain ⟨x,_,hx⟩:=List.mem_flatMap.1 hv
 exact enL_one x v hx
theorem info_ln:(Tryz.prog.info? 67).map (fun i=>(i.zero,i.size,i.bytes))=some (some (.agg #[.int .i64 0,.int .i64 0]),2,16):=by kernel_rfl
set_option maxRecDepth 100000 in
theorem clone_nil (w:World):Calls Tryz.prog 60 #[.slice none 0 0] w fun e w'=>e = .returned (.slice none 0 0)∧w=w':=by
 have hnil:∀ W,(binOp .eql 29 (.slice none 0 0) (.slice none 0 0)).run Tryz.prog W = .ok (.bool true) W:=fun W=>Lib.run_eql_slice_nil_nil W _ _ Tryz.underlying29
 go_enter Tryz.func60,Tryz.ntmps60
 go_wp2_with fail
 go_ret
 exact ⟨rfl,rfl⟩
set_option maxRecDepth 100000 in
set_option maxHeartbeats 2000000 in
theorem clone_some (l:List Ln) (b off cap:Nat) (w:World) (hR:Rd w (some ⟨b,off,none⟩) (l.flatMap enL)) (hl:l.length * 16≤140737488355328) :
  Calls Tryz.prog 60 #[.slice (some ⟨b,off,none⟩) l.length cap] w (NewRowOf enL 67 2 l w):=by
 obtain ⟨i0,hi,hz0,hz1,hz2⟩:=info_parts info_ln
 have hR1:=hid (hR.below ((Below.refl w.heap.size w).alloc (Nat.le_refl _) (.cells #[] 67)))
 have hO:=hid (show (w.alloc (.cells #[] 67)).ownsRow w.heap.size 67 2 (.slice (some ⟨w.heap.size,0,none⟩) 0 0) 0 [] from ⟨rfl,.inr ⟨w.heap.size,0,#[],rfl,Nat.le_refl _,heap_alloc_new w _,Nat.le_refl _,Nat.zero_le _,rfl,rfl⟩⟩)
 have hnil:∀ W,(binOp .eql 29 (.slice (some ⟨b,off,none⟩) l.length cap) (.slice none 0 0)).run Tryz.prog W = .ok (.bool false) W:=fun W=>Lib.run_eql_slice_some_nil W _ _ _ Tryz.underlying29
 clear hR
 go_enter Tryz.func60,Tryz.ntmps60
 go_wp2_with (first
  | (at_builtin; refine wpList_append_own _ rfl _ _ 29 rfl w.heap.size 67 i0 _ 2 16 Tryz.underlying29 hi hz0 hz1 hz2 rfl (by decide) _ 0 [] (by rfl) hO.out ⟨b,off,none⟩ l.length cap (l.flatMap enL) (by rfl) (length_flatMap_const enL 2 enL_len l) ?_ (enLs_one l) (by unfold maxLen; omega) (by omega) (by simp) ?_))
 ·intro j u hu
  rcases hR1.out with h0 | ⟨b',off',hA,hlt,hc⟩
  ·rw [h0] at hu; simp at hu
  ·simp only [Option.some.injEq,Addr.mk.injEq,and_true] at hA
   obtain ⟨rfl,rfl⟩:=hA
   rw [add_plain]
   exact hc j u hu
 ·intro v' w' h2 h3 _
  obtain ⟨A',cap',rfl,_⟩:=own_slice h2
  have hbb:=hid (((Below.refl w.heap.size w).alloc (Nat.le_refl _) (.cells #[] 67)).grown h3 (by simp) (fun k hk=>by simp [Value.ownBlock] at hk; omega))
  go_wp2_with fail
  go_ret
  exact ⟨A',cap',rfl,h2,hbb.out⟩
def hasI (l:List Ln) (id:Int):Bool:=l.any fun x=>x.i == id
set_option maxRecDepth 100000 in
set_option maxHeartbeats 4000000 in
theorem sameItem_any (x:Ln) (G:Nat) (id:Int) (w:World) (hG:w.cell? ⟨G,0,none⟩=some (.int .i64 id)) (hGl:G < w.heap.size) :
  Calls Tryz.prog 102 #[.agg #[.int .i64 x.i,.int .i64 x.q],.pointer (some ⟨G,0,none⟩)] w fun e w'=>e = .returned (.bool (x.i == id))∧Below w.heap.size w w':=by
 obtain ⟨xi,xq⟩:=x
 go_enter Tryz.func102,Tryz.ntmps102
 go_wp2_with fail
 go_ret
 exact ⟨rfl,(Below.refl _ _).alloc (Nat.le_refl _) _⟩
set_option maxRecDepth 100000 in
set_option maxHeartbeats 4000000 in
theorem indexI_any (l:List Ln) (A:Option Addr) (cap G:Nat) (id:Int) (w:World) (hR:Rd w A (l.flatMap enL)) (hl:l.length≤140737488355328) (hG:w.cell? ⟨G,0,none⟩=some (.int .i64 id)) (hGl:G < w.heap.size) :
  Calls Tryz.prog 144 #[.slice A l.length cap,.func (.func 102) #[] #[.pointer (some ⟨G,0,none⟩)]] w fun e w'=>e = .returned (.int .i64 (plc (fun x:Ln=>x.i == id) l))∧Below w.heap.size w w':=by
 go_enter Tryz.func144,Tryz.ntmps144
 go_wp2_with fail
 go_loopw [8] (fun i wr=>∃ k:Nat,k≤l.length∧i = .int .i64 k∧Hid (∀ j y,j < k→l[j]?=some y→(y.i == id)=false)∧Below w.heap.size w wr) (fun i _=>l.length - nOf i)
 case atStart=>exact ⟨0,Nat.zero_le _,rfl,hid (fun j y hj=>by omega),Below.refl _ _⟩
 case round =>
  obtain ⟨k,hk,rfl,hP,hb⟩:=hrel
  by_cases hlt:k < l.length
  ·obtain ⟨y,hy⟩:∃ y,l[k]?=some y:=⟨l[k],List.getElem?_eq_getElem hlt⟩
   obtain ⟨b,off,rfl,hbs,hcc⟩:=(hR.below hb).at_ 2 enL_len (by omega) hy
   have q0:wr.cell? ⟨b,off + k * 2,none⟩=some (.int .i64 y.i):=hcc 0 _ rfl
   have q1:wr.cell? ⟨b,off + k * 2 + 1,none⟩=some (.int .i64 y.q):=hcc 1 _ rfl
   have K:=hid (sameItem_any y G id wr ((hb.cell (p:=⟨G,0,none⟩) hGl).trans hG) (Nat.lt_of_lt_of_le hGl hb.size))
   have HY:=hid hy
   clear hcc hy
   by_cases e:(y.i == id)=true
   ·have HV:=hid (plc_some (p:=fun x:Ln=>x.i == id) HY.out e hP.out)
    have HE:=hid e
    clear e
    go_wp2_with (first | (go_at_call 102; refine K.out.mono ?_; rintro e w5 ⟨rfl,hb5⟩; have HE:=HE.out))
    go_ret
    rw [HV.out]
    exact ⟨rfl,bthen hb hb5⟩
   ·have e:(y.i == id)=false:=by simpa using e
    have HE:=hid e
    clear e
    go_wp2_with (first | (go_at_call 102; refine K.out.mono ?_; rintro e w5 ⟨rfl,hb5⟩; have HE2:=HE.out))
    go_roundw
    case rel=>exact ⟨k + 1,by omega,by go_num,hid (fun j z hj hz=>by
     by_cases e:j=k
     ·subst e; rw [HY.out] at hz; injection hz with hz; subst hz; exact HE.out
     ·exact hP.out j z (by omega) hz),bthen hb hb5⟩
    case measure=>simp [nOf]; omega
  ·have HV:=hid (plc_none (p:=fun x:Ln=>x.i == id) (l:=l) (fun y hy=>by
    obtain ⟨j,hj⟩:=List.mem_iff_getElem?.1 hy
    exact hP.out j y (by have:=(List.getElem?_eq_some_iff.1 hj).1; omega) hj))
   clear hP hk
   go_wp2_with fail
   go_ret
   rw [HV.out]
   exact ⟨rfl,hb⟩
theorem hasI_plc (l:List Ln) (id:Int):hasI l id=decide (0≤plc (fun x:Ln=>x.i == id) l):=by
 unfold hasI
 rcases plc_cases (fun x:Ln=>x.i == id) l with ⟨k,y,hk,hy,hp,he⟩ | ⟨hn,he⟩
 ·rw [he,List.any_eq_true.2 ⟨y,List.mem_of_getElem? hy,hp⟩]
  simp
 ·rw [he]
  cases h:l.any fun x=>x.i == id with
  | false=>rfl
  | true =>
   obtain ⟨y,hy,hp⟩:=List.any_eq_true.1 h
   rw [hn y hy] at hp
   cases hp
set_option maxRecDepth 100000 in
set_option maxHeartbeats 4000000 in
theorem containsI_any (l:List Ln) (A:Option Addr) (cap G:Nat) (id:Int) (w:World) (hR:Rd w A (l.flatMap enL)) (hl:l.length≤140737488355328) (hG:w.cell? ⟨G,0,none⟩=some (.int .i64 id)) (hGl:G < w.heap.size) :
  Calls Tryz.prog 101 #[.slice A l.length cap,.func (.func 102) #[] #[.pointer (some ⟨G,0,none⟩)]] w fun e w'=>e = .returned (.bool (hasI l id))∧Below w.heap.size w w':=by
 have K:=hid (indexI_any l A cap G id w hR hl hG hGl)
 have HH:=hid (hasI_plc l id)
 go_enter Tryz.func101,Tryz.ntmps101
 go_wp2_with (first | (go_at_call 144; refine K.out.mono ?_; rintro e w5 ⟨rfl,hb5⟩))
 go_ret
 rw [HH.out]
 exact ⟨rfl,hb5⟩
end Go.Proofs.YtakaalldbnklcaaGreat.Or
namespace Go.Proofs.YtakaalldbnklcaaGreat.Or
open Go.RowKit
set_option linter.unusedVariables false
def lowB (c:UInt8):Bool:=decide (97≤(c.toNat:Int)) && decide ((c.toNat:Int)≤122)
def digB (c:UInt8):Bool:=(decide (48≤(c.toNat:Int)) && decide ((c.toNat:Int)≤57)) || ((c.toNat:Int) == 45)
def letB (k:Nat) (c:UInt8):Bool:=lowB c || (decide (0 < k) && digB c)
def isW (s:ByteArray):Bool:=(s.data.toList.zipIdx.all fun p=>letB p.2 p.1) && decide (1≤s.size) && decide (s.size≤12)
theorem letters_all {s:ByteArray} (h:∀ j,(hj:j < s.size)→letB j s[j]=true):(s.data.toList.zipIdx.all fun p=>letB p.2 p.1)=true:=by
 rw [List.all_eq_true]
 rintro ⟨c,k⟩ hp
 have h1:=List.mem_zipIdx hp
 simp only [Nat.zero_add,Nat.sub_zero] at h1
 obtain ⟨_,hk,hc⟩:=h1
 have hks:k < s.size:=by simpa using hk
 have:=h k hks
 rw [hc]
 exact this
theorem letters_none {s:ByteArray} {k:Nat} (hk:k < s.size) (h:letB k s[k]=false):isW s=false:=by
 unfold isW
 have:(s.data.toList.zipIdx.all fun p=>letB p.2 p.1)=false:=by
  rw [List.all_eq_false]
  refine ⟨(s[k],k), ?_,by simpa using h⟩
  have hk':k < s.data.toList.length:=by simpa using hk
  have:=List.mk_mem_zipIdx_iff_getElem? (x:=s[k]) (i:=k) (l:=s.data.toList)
  rw [this,List.getElem?_eq_getElem hk']
  rfl
 rw [this]; rfl
theorem empty_iff (s:ByteArray):s.toList=[] ↔ s.size=0:=by
 rw [ByteArray.toList_eq]
 constructor
 ·intro h
  have:s.data.toList.length=0:=by rw [h]; rfl
  simpa using this
 ·intro h
  exact List.eq_nil_of_length_eq_zero (by simpa using h)
theorem letB_iff (k:Nat) (c:UInt8):letB k c=true ↔ (97≤(c.toNat:Int)∧(c.toNat:Int)≤122)∨(0 < k∧((48≤(c.toNat:Int)∧(c.toNat:Int)≤57)∨(c.toNat:Int)=45)):=by
 unfold letB lowB digB
 simp only [Bool.or_eq_true,Bool.and_eq_true,decide_eq_true_eq,beq_iff_eq]
theorem letB_no {k:Nat} {c:UInt8} (h:¬ ((97≤(c.toNat:Int)∧(c.toNat:Int)≤122)∨(0 < k∧((48≤(c.toNat:Int)∧(c.toNat:Int)≤57)∨(c.toNat:Int)=45)))):letB k c=false:=by
 cases hc:letB k c with
 | false=>rfl
 | true=>exact absurd ((letB_iff k c).1 hc) h
set_option maxRecDepth 100000 in
set_option maxHeartbeats 4000000 in
theorem isWord_any (s:ByteArray) (w:World) (hs:s.size≤maxLen) :
    Calls Tryz.prog 100 #[.string s] w fun e w'=>e = .returned (.bool (isW s))∧w=w':=by
  unfold maxLen at hs
  go_enter Tryz.func100,Tryz.ntmps100
  go_wp2_with fail
  go_loop [3] (fun i=>∃ k:Nat,k≤s.size∧i = .int .i64 k∧Hid (∀ j,(hj:j < s.size)→j < k→letB j s[j]=true)) (fun i=>s.size - nOf i)
  case atStart=>exact ⟨0,Nat.zero_le _,rfl,hid (fun j hj hk=>by omega)⟩
  case round =>
    obtain ⟨k,hk,rfl,hP⟩:=hrel
    by_cases hlt:k < s.size
    · go_wp2_with fail
      all_goals
        try (have h45:=beq_eq_false_iff_ne.1 ‹((s[k].toNat:Int) == 45)=false›)
        try (have h45:=eq_of_beq ‹((s[k].toNat:Int) == 45)=true›)
        first
          | (have hb:letB k s[k]=false:=letB_no (by omega)
             have hv:=hid (letters_none hlt hb)
             go_ret
             exact ⟨by rw [hv.out]; rfl,rfl⟩)
          | (have hb:letB k s[k]=true:=(letB_iff _ _).2 (by omega)
             have HB:=hid hb
             go_round
             case rel=>exact ⟨k + 1,by omega,by go_num,hid (fun j hj hk'=>by
               by_cases e:j=k
               · subst e; exact HB.out
               · exact hP.out j hj (by omega))⟩
             case measure=>simp [nOf]; omega)
    · have hk':k=s.size:=by omega
      have hall:=letters_all (fun j hj=>hP.out j hj (by omega))
      have hv:Hid (isW s=(decide (1≤s.size) && decide (s.size≤12))):=hid (by unfold isW; rw [hall]; rfl)
      clear hall hP
      subst hk'
      clear hk hlt
      have hz:=hid (empty_iff s)
      go_wp2_with fail
      · go_ret
        have h0:=(hz.out).1 (by assumption)
        exact ⟨by rw [hv.out]; simp [h0],rfl⟩
      · go_ret
        have h0:s.size ≠ 0:=fun e=>absurd ((hz.out).2 e) (by assumption)
        have h1:s.toList.isEmpty=false:=by
          cases h:s.toList with
          | nil=>exact absurd ((hz.out).1 h) h0
          | cons x l=>rfl
        have e1:decide (1≤s.size)=true:=decide_eq_true (by omega)
        have e2:decide ((s.size:Int)≤12)=decide (s.size≤12):=decide_eq_decide.2 (by omega)
        refine ⟨?_,rfl⟩
        show Ending.returned (Value.bool (!s.toList.isEmpty && decide ((s.size:Int)≤12)))=_
        rw [hv.out,h1,e1,e2]
        rfl
end Go.Proofs.YtakaalldbnklcaaGreat.Or
namespace Go.Proofs.YtakaalldbnklcaaGreat.Or
open Go.RowKit Go.WideShapes Go.ChangeShapes Go.ChangeAt Go.Deep
set_option linter.unusedVariables false
def kI (n:Int):Value:=.int .i64 n
theorem keyL:KeyLaw Tryz.prog 3 kI:=intKey Tryz.underlying3
structure Od where
 i:Int
 c:Int
 f:ByteArray
 b:Nat
 cap:Nat
 ls:List Ln
 n:Int
 t:Int
def enO (o:Od):Value:=.agg #[.int .i64 o.i,.int .i64 o.c,.string o.f,.slice (some ⟨o.b,0,none⟩) o.ls.length o.cap,.int .i64 o.n,.int .i64 o.t]
def zO:Value:=.agg #[.int .i64 0,.int .i64 0,.string ByteArray.empty,.slice none 0 0,.int .i64 0,.int .i64 0]
theorem zeroO (w:World):(zeroValue 166).run Tryz.prog w = .ok zO w:=by kernel_rfl
theorem zeroI (w:World):(zeroValue 3).run Tryz.prog w = .ok (kI 0) w:=by kernel_rfl
structure IsBook (n0:Nat) (w:World) (X BP BO:Nat) (pr:List (Int × Int)) (os:List (Int × Od)):Prop where
 blk:Blk w X 184 #[.map (some BP),.map (some BO)]
 prs:IsMap w BP kI kI pr
 ods:IsMap w BO kI enO os
 lns:∀ p ∈ os,Rd w (some ⟨p.2.b,0,none⟩) (p.2.ls.flatMap enL)∧n0≤p.2.b∧∃ cs,Blk w p.2.b 67 cs
 two:BP ≠ BO
 low:n0≤X∧n0≤BP∧n0≤BO
section
variable {n0:Nat} {w w':World} {X BP BO:Nat} {pr:List (Int × Int)} {os:List (Int × Od)}
def Own (BP BO:Nat) (k:Nat):Prop:=k=BP∨k=BO
theorem IsBook.own_low (h:IsBook n0 w X BP BO pr os) {k:Nat} (hk:Own BP BO k):n0≤k:=by
 rcases hk with rfl | rfl
 ·exact h.low.2.1
 ·exact h.low.2.2
theorem IsBook.touch {S:Nat→Prop} (h:IsBook n0 w X BP BO pr os) (ht:Touch S w w') (hX:¬ S X) (hS:¬ S BP∧¬ S BO) (hL:∀ p ∈ os,¬ S p.2.b):IsBook n0 w' X BP BO pr os :=
 ⟨ht.blk h.blk hX,ht.isMap h.prs hS.1,ht.isMap h.ods hS.2,fun p hp=>by
  obtain ⟨h1,h2,cs,h3⟩:=h.lns p hp
  exact ⟨ht.rd h1 (fun b hb=>by simp at hb; subst hb; exact hL p hp),h2,cs,ht.blk h3 (hL p hp)⟩,h.two,h.low⟩
theorem IsBook.next (h:IsBook n0 w X BP BO pr os) (hb:Below w.heap.size w w'):IsBook n0 w' X BP BO pr os:=h.touch (S:=fun _=>False) (.of_below hb) (fun h=>h) ⟨fun h=>h,fun h=>h⟩ (fun _ _ h=>h)
theorem IsBook.alloc (h:IsBook n0 w X BP BO pr os) (o:Obj):IsBook n0 (w.alloc o) X BP BO pr os:=h.next ((Below.refl _ _).alloc (Nat.le_refl _) o)
theorem IsBook.cellP (h:IsBook n0 w X BP BO pr os):w.cell? ⟨X,0,none⟩=some (.map (some BP)):=h.blk.cell 0
theorem IsBook.cellO (h:IsBook n0 w X BP BO pr os):w.cell? ⟨X,1,none⟩=some (.map (some BO)):=h.blk.cell 1
theorem IsBook.lookP (h:IsBook n0 w X BP BO pr os) (id:Int):(Instr.lookup 181 (.map (some BP)) (.int .i64 id) true).run Tryz.prog w = .ok (.tuple #[.int .i64 ((mget pr id).getD 0),.bool (mget pr id).isSome]) w:=by
 have:=h.prs.lookOk keyL Tryz.underlying181 (zeroI _) id
 rw [show looked (kI 0) kI pr id = .int .i64 ((mget pr id).getD 0) from by unfold looked; cases mget pr id <;> rfl] at this
 exact this
theorem IsBook.lookO (h:IsBook n0 w X BP BO pr os) (id:Int):(Instr.lookup 182 (.map (some BO)) (.int .i64 id) true).run Tryz.prog w = .ok (.tuple #[looked zO enO os id,.bool (mget os id).isSome]) w :=
 h.ods.lookOk keyL Tryz.underlying182 (zeroO _) id
theorem new_any (w:World):Calls Tryz.prog 23 #[] w fun e w' =>
  ∃ X BP BO,e = .returned (.pointer (some ⟨X,0,none⟩))∧IsBook w.heap.size w' X BP BO [] []∧Below w.heap.size w w':=by
 have hmm:=@run_makeMap Tryz.prog
 have hM1:=((IsMap.made w kI kI).alloc (.map #[] 0)).alloc (.cells #[.map (some w.heap.size),.map (some (w.heap.size + 1))] 184)
 have hM2:=(IsMap.made (w.alloc (.map #[] 0)) kI enO).alloc (.cells #[.map (some w.heap.size),.map (some (w.heap.size + 1))] 184)
 have hb:=Blk.new ((w.alloc (.map #[] 0)).alloc (.map #[] 0)) 184 #[.map (some w.heap.size),.map (some (w.heap.size + 1))]
 rw [World.size_alloc] at hM2
 rw [World.size_alloc,World.size_alloc] at hb
 have H:=hid (show IsBook w.heap.size (((w.alloc (.map #[] 0)).alloc (.map #[] 0)).alloc (.cells #[.map (some w.heap.size),.map (some (w.heap.size + 1))] 184)) (w.heap.size + 1 + 1) w.heap.size (w.heap.size + 1) [] [] from
  ⟨hb,hM1,hM2,(fun p hp=>by cases hp),by omega,by omega,by omega,by omega⟩)
 clear hb hM1 hM2
 go_enter Tryz.func23,Tryz.ntmps23
 go_wp2_with fail
 go_ret
 exact ⟨w.heap.size + 1 + 1,w.heap.size,w.heap.size + 1,by simp,H.out,(((Below.refl _ _).alloc (Nat.le_refl _) _).alloc (by simp) _).alloc (by simp; omega) _⟩
theorem IsBook.price {v id:Int} (h:IsBook n0 w X BP BO pr os) (hM:IsMap w' BP kI kI (mset pr id v)) (hgr:w.grownBy w' (some BP)):IsBook n0 w' X BP BO (mset pr id v) os:=by
 have ht:=Touch.of_grown hgr
 have nB:∀ {g:Nat} {t:TypeId} {cs:Array Value},Blk w g t cs→¬ g=BP:=fun hb e=>h.prs.notBlk hb e.symm
 exact ⟨ht.blk h.blk (nB h.blk),hM,ht.isMap h.ods (fun e=>h.two e.symm),fun p hp=>by
  obtain ⟨h1,h2,cs,h3⟩:=h.lns p hp
  exact ⟨ht.rd h1 (fun b hb=>by simp at hb; subst hb; exact nB h3),h2,cs,ht.blk h3 (nB h3)⟩,h.two,h.low⟩
theorem IsBook.order {o:Od} {id:Int} (h:IsBook n0 w X BP BO pr os) (hR:Rd w (some ⟨o.b,0,none⟩) (o.ls.flatMap enL)) (hn:n0≤o.b) (hk:∃ cs,Blk w o.b 67 cs) (hM:IsMap w' BO kI enO (mset os id o)) (hgr:w.grownBy w' (some BO)):IsBook n0 w' X BP BO pr (mset os id o):=by
 have ht:=Touch.of_grown hgr
 have nB:∀ {g:Nat} {t:TypeId} {cs:Array Value},Blk w g t cs→¬ g=BO:=fun hb e=>h.ods.notBlk hb e.symm
 refine ⟨ht.blk h.blk (nB h.blk),ht.isMap h.prs h.two,hM,fun p hp => ?_,h.two,h.low⟩
 rcases mem_mset hp with rfl | ⟨hp',_⟩
 ·obtain ⟨cs,h3⟩:=hk
  exact ⟨ht.rd hR (fun b hb=>by simp at hb; subst hb; exact nB h3),hn,cs,ht.blk h3 (nB h3)⟩
 ·obtain ⟨h1,h2,cs,h3⟩:=h.lns p hp'
  exact ⟨ht.rd h1 (fun b hb=>by simp at hb; subst hb; exact nB h3),h2,cs,ht.blk h3 (nB h3)⟩
def itemOk (id p:Int):Prop:=1≤id∧id≤64∧0≤p∧p≤1000000
set_option maxRecDepth 100000 in
set_option maxHeartbeats 2000000 in
theorem item_no (h:IsBook n0 w X BP BO pr os) (id p:Int) (hno:¬ itemOk id p) :
  Calls Tryz.prog 17 #[.pointer (some ⟨X,0,none⟩),.int .i64 id,.int .i64 p] w fun e w'=>e = .returned (.int .i64 2)∧w=w':=by
 unfold itemOk at hno
 rcases (show id < 1∨(1≤id∧64 < id)∨((1≤id∧id≤64)∧p < 0)∨((1≤id∧id≤64∧0≤p)∧1000000 < p) from by omega) with h1 | ⟨h1,h2⟩ | ⟨⟨h1,h2⟩,h3⟩ | ⟨⟨h1,h2,h3⟩,h4⟩
 all_goals
  clear hno
  go_enter Tryz.func17,Tryz.ntmps17
  go_wp2_with fail
  go_ret
  exact ⟨rfl,rfl⟩
set_option maxRecDepth 100000 in
set_option maxHeartbeats 2000000 in
theorem item_yes (h:IsBook n0 w X BP BO pr os) (id p:Int) (hok:itemOk id p) :
  Calls Tryz.prog 17 #[.pointer (some ⟨X,0,none⟩),.int .i64 id,.int .i64 p] w fun e w'=>e = .returned (.int .i64 0)∧IsBook n0 w' X BP BO (mset pr id p) os∧Touch (Own BP BO) w w':=by
 obtain ⟨k1,k2,k3,k4⟩:=hok
 have hP:=h.cellP
 have H:=hid h
 clear h
 go_enter Tryz.func17,Tryz.ntmps17
 go_wp2_with (first
  | (at_mapUpdate; refine wpList_store _ rfl _ _ _ 181 3 rfl keyL Tryz.underlying181 BP pr rfl H.out.prs id p rfl rfl ?_; intro w2 hM2 hg2 hs2))
 have h2:=hid (And.intro (H.out.price hM2 hg2) ((Touch.of_grown hg2).mono (fun k hk=>(.inl hk:Own BP BO k))))
 clear hM2 hg2 hs2
 go_wp2_with fail
 go_ret
 exact ⟨rfl,h2.out.1,h2.out.2⟩
end
end Go.Proofs.YtakaalldbnklcaaGreat.Or
namespace Go.Proofs.YtakaalldbnklcaaGreat.Or
open Go.RowKit
def lok (x:Int × Int):Bool:=decide (1≤x.1∧x.1≤1000000∧0≤x.2∧x.2≤1000000)
def net1 (x:Int × Int):Int:=x.1 * x.2
def tax1 (x:Int × Int):Int:=(x.1 * x.2 * 20 + 50) / 100
def netOf (l:List (Int × Int)):Int:=(l.map net1).sum
def taxOf (l:List (Int × Int)):Int:=(l.map tax1).sum
def fits (l:List (Int × Int)):Bool:=decide (1≤l.length∧l.length≤4) && l.all lok
def netT (l:List (Int × Int)):Int:=if fits l then netOf l else 0
def taxT (l:List (Int × Int)):Int:=if fits l then taxOf l else 0
def errT (l:List (Int × Int)):Int:=if fits l then 0 else 2
theorem lok_iff {x:Int × Int}:lok x=true ↔ 1≤x.1∧x.1≤1000000∧0≤x.2∧x.2≤1000000:=by simp [lok]
theorem net1_bd {x:Int × Int} (h:lok x=true):0≤x.1 * x.2∧x.1 * x.2≤1000000000000:=by
 obtain ⟨a,b,c,d⟩:=lok_iff.1 h
 refine ⟨Int.mul_nonneg (by omega) c, ?_⟩
 have:=Int.mul_le_mul b d c (by omega)
 omega
theorem sums_bd (l:List (Int × Int)) (h:l.all lok=true):0≤netOf l∧netOf l≤1000000000000 * l.length∧0≤taxOf l∧taxOf l≤200000000001 * l.length:=by
 induction l with
 | nil=>simp [netOf,taxOf]
 | cons x l ih =>
  simp only [List.all_cons,Bool.and_eq_true] at h
  have b:=net1_bd h.1
  have:=ih h.2
  simp only [netOf,taxOf,List.map_cons,List.sum_cons,net1,tax1,List.length_cons] at *
  omega
theorem netOf_snoc (l:List (Int × Int)) (x:Int × Int):netOf (l++[x])=netOf l + x.1 * x.2:=by simp [netOf,net1]
theorem taxOf_snoc (l:List (Int × Int)) (x:Int × Int):taxOf (l++[x])=taxOf l + (x.1 * x.2 * 20 + 50) / 100:=by simp [taxOf,tax1]
theorem take_snoc {α:Type} {l:List α} {k:Nat} {x:α} (h:l[k]?=some x):l.take (k + 1)=l.take k++[x]:=by
 rw [List.take_add_one,h]; rfl
set_option maxHeartbeats 400000 in
theorem total_few (l:List (Int × Int)) (A:Option Addr) (cap:Nat) (w:World) (hl:l.length=0∨4 < l.length) :
  Calls Tryz.prog 59 #[.slice A l.length cap] w fun e w'=>e = .returned (.tuple #[.int .i64 0,.int .i64 0,.int .i64 2])∧Below w.heap.size w w':=by
 go_enter Tryz.func59,Tryz.ntmps59
 rcases hl with h | h
 ·rw [h]
  go_wp2
  go_ret3
  exact ⟨rfl,Below.refl _ _⟩
 ·have h0:((l.length:Int) == 0)=false:=beq_eq_false_iff_ne.2 (by omega)
  have h4:(4:Int) < l.length:=by omega
  go_wp2
  go_ret3
  exact ⟨rfl,Below.refl _ _⟩
set_option maxHeartbeats 400000 in
theorem total_some (l:List (Int × Int)) (A:Option Addr) (cap:Nat) (w:World) (h1:1≤l.length) (h4:l.length≤4) (hL:Rd w A (l.flatMap en2)) :
    Calls Tryz.prog 59 #[.slice A l.length cap] w fun e w'=>e = .returned (.tuple #[.int .i64 (netT l),.int .i64 (taxT l),.int .i64 (errT l)])∧Below w.heap.size w w':=by
  have h0:((l.length:Int) == 0)=false:=beq_eq_false_iff_ne.2 (by omega)
  have h4':¬ (4:Int) < l.length:=by omega
  go_enter Tryz.func59,Tryz.ntmps59
  go_wp2
  go_loopw [2,3,18] (fun n t i wr=>∃ k:Nat,k≤l.length∧i = .int .i64 k∧n = .int .i64 (netOf (l.take k))∧t = .int .i64 (taxOf (l.take k))∧(l.take k).all lok=true∧Below w.heap.size w wr) (fun _ _ i _=>l.length - (intOf i).toNat)
  case atStart=>exact ⟨0,Nat.zero_le _,rfl,rfl,rfl,rfl,Below.refl _ _⟩
  case round =>
    obtain ⟨k,hk,rfl,rfl,rfl,hok,hb⟩:=hrel
    have hbd:=sums_bd _ hok
    have hlen:(l.take k).length≤4:=by simp; omega
    by_cases hlt:k < l.length
    · obtain ⟨x,hx⟩:∃ x,l[k]?=some x:=⟨l[k],List.getElem?_eq_getElem hlt⟩
      obtain ⟨b,off,rfl,hbs,hc⟩:=hL.at_ 2 en2_len (by omega) hx
      have hq:=hc 0 _ rfl
      have hp:=hc 1 _ rfl
      rw [← hb.cell (p:=⟨b,_,none⟩) hbs] at hq hp
      simp only [Nat.add_zero] at hq
      clear hc hL
      have hts:=take_snoc hx
      have hxm:x ∈ l:=List.mem_of_getElem? hx
      by_cases hx1:lok x=true
      · obtain ⟨g1,g2,g3,g4⟩:=lok_iff.1 hx1
        have m0:=net1_bd hx1
        have HS:Hid (l.take (k + 1)=l.take k++[x]):=hts
        clear hts
        go_wp2
        go_roundw
        case rel =>
          refine ⟨k + 1,by omega,by go_num, ?_, ?_, ?_,hb.alloc hb.size _⟩
          · rw [HS.out,netOf_snoc]
          · rw [HS.out,taxOf_snoc]
          · rw [HS.out]; simp [hok,hx1]
        case measure=>simp [intOf]; omega
      · have hbad:¬ (((1≤x.1∧x.1≤1000000)∧0≤x.2)∧x.2≤1000000):=fun h=>hx1 (lok_iff.2 ⟨h.1.1.1,h.1.1.2,h.1.2,h.2⟩)
        have hfit:fits l=false:=by
          cases hf:fits l with
          | false=>rfl
          | true =>
            simp only [fits,Bool.and_eq_true,List.all_eq_true] at hf
            exact absurd (hf.2 x hxm) hx1
        clear hts hx1
        go_wp2
        all_goals first
          | (exact absurd ‹_› hbad)
          | (go_ret3
             exact ⟨ret3 (by simp [netT,hfit]) (by simp [taxT,hfit]) (by simp [errT,hfit]),hb.alloc hb.size _⟩)
    · have hk':k=l.length:=by omega
      subst hk'
      rw [List.take_length] at hok
      have hfit:fits l=true:=by
        simp only [fits,Bool.and_eq_true,hok,decide_eq_true_eq,and_true]; omega
      rw [List.take_length]
      go_wp2
      go_ret3
      exact ⟨ret3 (by simp [netT,hfit]) (by simp [taxT,hfit]) (by simp [errT,hfit]),hb⟩
theorem total_any (l:List (Int × Int)) (A:Option Addr) (cap:Nat) (w:World) (hL:Rd w A (l.flatMap en2)) :
  Calls Tryz.prog 59 #[.slice A l.length cap] w fun e w'=>e = .returned (.tuple #[.int .i64 (netT l),.int .i64 (taxT l),.int .i64 (errT l)])∧Below w.heap.size w w':=by
 by_cases h:1≤l.length∧l.length≤4
 ·exact total_some l A cap w h.1 h.2 hL
 ·have hfit:fits l=false:=by simp [fits]; intro h1 h2; exact absurd ⟨by omega,h2⟩ h
  simp only [netT,taxT,errT,hfit]
  exact total_few l A cap w (by omega)
end Go.Proofs.YtakaalldbnklcaaGreat.Or
namespace Go.Proofs.YtakaalldbnklcaaGreat.Or
open Go.RowKit Go.WideShapes Go.ChangeShapes Go.ChangeAt Go.Deep
set_option linter.unusedVariables false
def LnOk (ls:List Ln) (k:Nat):Prop:=∀ x,ls[k]?=some x→1≤x.q∧x.q≤1000000∧hasI (ls.take k) x.i=false
def headOk (id c:Int) (f:ByteArray) (n:Nat):Prop:=1≤id∧id≤256∧1≤c∧c≤64∧isW f=true∧1≤n∧n≤4
def OrdOk (id c:Int) (f:ByteArray) (ls:List Ln):Prop:=headOk id c f ls.length∧∀ k,LnOk ls k
def knowB (pr:List (Int × Int)) (ls:List Ln):Bool:=ls.all fun x=>(mget pr x.i).isSome
def prL (pr:List (Int × Int)) (ls:List Ln):List (Int × Int):=ls.map fun x=>(x.q,(mget pr x.i).getD 0)
open Classical in
noncomputable def errL (pr:List (Int × Int)) (os:List (Int × Od)) (id c:Int) (f:ByteArray) (ls:List Ln):Int :=
 if OrdOk id c f ls then (if knowB pr ls=true then (if (mget os id).isSome=true then 71 else 0) else 70) else 2
theorem errL_bad {pr:List (Int × Int)} {os:List (Int × Od)} {id c:Int} {f:ByteArray} {ls:List Ln} (h:¬ OrdOk id c f ls):errL pr os id c f ls=2:=if_neg h
theorem errL_none {pr:List (Int × Int)} {os:List (Int × Od)} {id c:Int} {f:ByteArray} {ls:List Ln} (h:OrdOk id c f ls) (hk:knowB pr ls=false):errL pr os id c f ls=70:=by
 unfold errL; rw [if_pos h,hk]; rfl
theorem errL_there {pr:List (Int × Int)} {os:List (Int × Od)} {id c:Int} {f:ByteArray} {ls:List Ln} (h:OrdOk id c f ls) (hk:knowB pr ls=true) (ht:(mget os id).isSome=true):errL pr os id c f ls=71:=by
 unfold errL; rw [if_pos h,if_pos hk,if_pos ht]
theorem errL_ok {pr:List (Int × Int)} {os:List (Int × Od)} {id c:Int} {f:ByteArray} {ls:List Ln} (h:OrdOk id c f ls) (hk:knowB pr ls=true) (ht:(mget os id).isSome=false):errL pr os id c f ls=0:=by
 unfold errL; rw [if_pos h,if_pos hk,ht]; rfl
theorem errL_zero {pr:List (Int × Int)} {os:List (Int × Od)} {id c:Int} {f:ByteArray} {ls:List Ln} (h:errL pr os id c f ls=0):OrdOk id c f ls∧knowB pr ls=true∧mget os id=none:=by
 by_cases h1:OrdOk id c f ls
 ·cases h2:knowB pr ls with
  | false=>rw [errL_none h1 h2] at h; omega
  | true =>
   cases h3:mget os id with
   | some o=>rw [errL_there h1 h2 (by rw [h3]; rfl)] at h; omega
   | none=>exact ⟨h1,rfl,rfl⟩
 ·rw [errL_bad h1] at h; omega
theorem info_bl:(Tryz.prog.info? 252).map (fun i=>(i.zero,i.size,i.bytes))=some (some (.agg #[.int .i64 0,.int .i64 0]),2,16):=by kernel_rfl
def LinPost (pr:List (Int × Int)) (os:List (Int × Od)) (id c:Int) (f:ByteArray) (ls:List Ln) (w:World) (e:Ending) (w':World):Prop :=
 ∃ (A:Option Addr) (n cap:Nat),e = .returned (.tuple #[.slice A n cap,.int .i64 (errL pr os id c f ls)])∧(errL pr os id c f ls=0→n=ls.length∧Rd w' A ((prL pr ls).flatMap en2))∧Below w.heap.size w w'
section
variable {n0:Nat} {w w':World} {X BP BO:Nat} {pr:List (Int × Int)} {os:List (Int × Od)}
theorem linPost_bad {id c:Int} {f:ByteArray} {ls:List Ln} (hb:Below w.heap.size w w') (h:¬ OrdOk id c f ls):LinPost pr os id c f ls w (.returned (.tuple #[.slice none 0 0,.int .i64 2])) w' :=
 ⟨none,0,0,by rw [errL_bad h],fun h0=>(by rw [errL_bad h] at h0; omega),hb⟩
theorem linPost_err {id c m:Int} {f:ByteArray} {ls:List Ln} (he:errL pr os id c f ls=m) (hm:m ≠ 0) (hb:Below w.heap.size w w'):LinPost pr os id c f ls w (.returned (.tuple #[.slice none 0 0,.int .i64 m])) w' :=
 ⟨none,0,0,by rw [he],fun h0=>absurd (he.symm.trans h0) hm,hb⟩
set_option maxRecDepth 100000 in
set_option maxHeartbeats 8000000 in
theorem lines_head (id c:Int) (f:ByteArray) (A:Option Addr) (cap:Nat) (ls:List Ln) (v:Addr) (hfs:f.size≤maxLen) (hno:¬ headOk id c f ls.length) :
  Calls Tryz.prog 58 #[.pointer (some v),.int .i64 id,.int .i64 c,.string f,.slice A ls.length cap] w (LinPost pr os id c f ls w):=by
 have HB:=hid (show ¬ OrdOk id c f ls from fun h=>hno h.1)
 have W:=hid (fun w=>isWord_any f w hfs)
 unfold headOk at hno
 have hcs:id < 1∨(1≤id∧256 < id)∨((1≤id∧id≤256)∧c < 1)∨((1≤id∧id≤256∧1≤c)∧64 < c)∨((1≤id∧id≤256∧1≤c∧c≤64)∧isW f=false)∨((1≤id∧id≤256∧1≤c∧c≤64)∧isW f=true∧ls.length=0)∨((1≤id∧id≤256∧1≤c∧c≤64)∧isW f=true∧4 < ls.length):=by
  generalize ls.length=m at hno ⊢
  generalize isW f=b at hno ⊢
  cases b <;> simp only [Bool.false_eq_true,Bool.true_eq_false,and_false,false_and,true_and,and_true,or_false,false_or,not_false_eq_true] at hno ⊢ <;> omega
 clear hno
 rcases hcs with h1 | ⟨h1,h2⟩ | ⟨⟨h1,h2⟩,h3⟩ | ⟨⟨h1,h2,h3⟩,h4⟩ | ⟨⟨h1,h2,h3,h4⟩,h5⟩ | ⟨⟨h1,h2,h3,h4⟩,h5,h6⟩ | ⟨⟨h1,h2,h3,h4⟩,h5,h6⟩
 ·go_enter Tryz.func58,Tryz.ntmps58
  go_wp2_with fail
  go_ret2
  exact linPost_bad (Below.refl _ _) HB.out
 ·go_enter Tryz.func58,Tryz.ntmps58
  go_wp2_with fail
  go_ret2
  exact linPost_bad (Below.refl _ _) HB.out
 ·go_enter Tryz.func58,Tryz.ntmps58
  go_wp2_with fail
  go_ret2
  exact linPost_bad (Below.refl _ _) HB.out
 ·go_enter Tryz.func58,Tryz.ntmps58
  go_wp2_with fail
  go_ret2
  exact linPost_bad (Below.refl _ _) HB.out
 ·rw [h5] at W
  clear h5
  go_enter Tryz.func58,Tryz.ntmps58
  go_wp2_with (first | (go_at_call 100; refine (W.out _).mono ?_; rintro e w5 ⟨rfl,rfl⟩))
  go_ret2
  exact linPost_bad (Below.refl _ _) HB.out
 ·rw [h5] at W
  clear h5
  have e1:((ls.length:Int) == 0)=true:=by simp [h6]
  clear h6
  go_enter Tryz.func58,Tryz.ntmps58
  go_wp2_with (first | (go_at_call 100; refine (W.out _).mono ?_; rintro e w5 ⟨rfl,rfl⟩))
  go_ret2
  exact linPost_bad (Below.refl _ _) HB.out
 ·rw [h5] at W
  clear h5
  have e1:((ls.length:Int) == 0)=false:=beq_eq_false_iff_ne.2 (by omega)
  have e2:decide ((4:Int) < (ls.length:Int))=true:=decide_eq_true (by omega)
  clear h6
  go_enter Tryz.func58,Tryz.ntmps58
  go_wp2_with (first | (go_at_call 100; refine (W.out _).mono ?_; rintro e w5 ⟨rfl,rfl⟩))
  go_ret2
  exact linPost_bad (Below.refl _ _) HB.out
theorem knowB_snoc {ls:List Ln} {k:Nat} {x:Ln} (hx:ls[k]?=some x):knowB pr (ls.take (k + 1))=(knowB pr (ls.take k) && (mget pr x.i).isSome):=by
 unfold knowB
 rw [List.take_add_one,hx]
 simp [List.all_append]
theorem prL_snoc {ls:List Ln} {k:Nat} {x:Ln} (hx:ls[k]?=some x):prL pr (ls.take (k + 1))=prL pr (ls.take k)++[(x.q,(mget pr x.i).getD 0)]:=by
 unfold prL
 rw [List.take_add_one,hx]
 simp
theorem prL_len (ls:List Ln):(prL pr ls).length=ls.length:=by simp [prL]
set_option maxRecDepth 100000 in
set_option maxHeartbeats 16000000 in
theorem lines_body (h:IsBook n0 w X BP BO pr os) (id c:Int) (f:ByteArray) (A:Option Addr) (cap:Nat) (ls:List Ln) (hfs:f.size≤maxLen) (hok:headOk id c f ls.length) (hR:Rd w A (ls.flatMap enL)) (hcap:ls.length≤cap) (hcm:cap≤maxLen) :
  Calls Tryz.prog 58 #[.pointer (some ⟨X,0,none⟩),.int .i64 id,.int .i64 c,.string f,.slice A ls.length cap] w (LinPost pr os id c f ls w):=by
 have HK:=hid hok
 obtain ⟨h1,h2,h3,h4,h5,h6,h7⟩:=hok
 have W:=hid (fun w=>isWord_any f w hfs)
 rw [h5] at W
 obtain ⟨i0,hi,hz0,hz1,hz2⟩:=info_parts info_bl
 have e1:((ls.length:Int) == 0)=false:=beq_eq_false_iff_ne.2 (by omega)
 have e2:decide ((4:Int) < (ls.length:Int))=false:=decide_eq_false (by omega)
 unfold maxLen at hcm
 have H0:=hid h
 clear h5 h
 go_enter Tryz.func58,Tryz.ntmps58
 go_wp2_with (first | (go_at_call 100; refine (W.out _).mono ?_; rintro e w5 ⟨rfl,rfl⟩))
 clear W
 go_loopw [12,13,55] (fun v kn i wr=>∃ k:Nat,k≤ls.length∧i = .int .i64 k∧kn = .bool (knowB pr (ls.take k))∧Hid (∀ j,j < k→LnOk ls j)∧wr.ownsRow w.heap.size 252 2 v k ((prL pr (ls.take k)).flatMap en2)∧Below w.heap.size w wr) (fun _ _ i _=>ls.length - nOf i)
 case atStart=>exact ⟨0,Nat.zero_le _,rfl,rfl,hid (fun j hj=>by omega),World.ownsRow_nil _ _ _ _,Below.refl _ _⟩
 case round =>
  obtain ⟨k,hk,rfl,rfl,hG,hO,hb⟩:=hrel
  by_cases hlt:k < ls.length
  ·obtain ⟨x,hx⟩:∃ x,ls[k]?=some x:=⟨ls[k],List.getElem?_eq_getElem hlt⟩
   obtain ⟨b,off,hAA,hbs,hcc⟩:=(hR.below hb).at_ 2 enL_len (by omega) hx
   have HX:=hid hx
   have HKN:=hid (knowB_snoc (pr:=pr) hx)
   have HPR:=hid (prL_snoc (pr:=pr) hx)
   have hln:(ls.take k).length=k:=by simp; omega
   obtain ⟨xi,xq⟩:=x
   simp only at HKN HPR
   have q0:wr.cell? ⟨b,off + k * 2,none⟩=some (.int .i64 xi):=hcc 0 _ rfl
   have q1:wr.cell? ⟨b,off + k * 2 + 1,none⟩=some (.int .i64 xq):=hcc 1 _ rfl
   have hwb:Below wr.heap.size wr (wr.alloc (.cells #[.int .i64 xi,.int .i64 xq] 67)):=(Below.refl _ _).alloc (Nat.le_refl _) _
   have hG0:Blk (wr.alloc (.cells #[.int .i64 xi,.int .i64 xq] 67)) wr.heap.size 67 #[.int .i64 xi,.int .i64 xq]:=Blk.new _ _ _
   have hOz:=hO.alloc (.cells #[.int .i64 xi,.int .i64 xq] 67)
   obtain ⟨wz,hwz⟩:∃ wz,wz=wr.alloc (.cells #[.int .i64 xi,.int .i64 xq] 67):=⟨_,rfl⟩
   obtain ⟨G,hGG⟩:∃ G,G=wr.heap.size:=⟨_,rfl⟩
   have HW:=hid hwz
   have HGG:=hid hGG
   have hbz:=bthen hb hwb
   rw [← hwz, ← hGG] at hG0
   rw [← hwz] at hbz hOz
   clear hcc hx hwb hwz hGG hb hO
   have g0:wz.cell? ⟨G,0,none⟩=some (.int .i64 xi):=hG0.cell 0
   have g1:wz.cell? ⟨G,1,none⟩=some (.int .i64 xq):=hG0.cell 1
   have lG:G < wz.heap.size:=hG0.lt
   by_cases hq1:1≤xq
   ·by_cases hq2:xq≤1000000
    ·have K:=containsI_any (ls.take k) A cap G xi wz ((hR.below hbz).take k) (by omega) g0 lG
     rw [hln] at K
     have b1:decide (xq < 1)=false:=decide_eq_false (by omega)
     have b2:decide (1000000 < xq)=false:=decide_eq_false (by omega)
     subst hAA
     cases hh:hasI (ls.take k) xi with
     | true =>
      rw [hh] at K
      have HBAD:=hid (show ¬ OrdOk id c f ls from fun hb=>by have:=(hb.2 k _ HX.out).2.2; rw [hh] at this; cases this)
      replace K:=hid K
      have HB:=hid hbz
      clear hh hln hOz hbz hG0 hR hbs
      go_wp2_with fail
      rw [← HW.out, ← HGG.out]
      go_wp2_with (first | (go_at_call 101; refine K.out.mono ?_; rintro e w5 ⟨rfl,hb5⟩))
      go_ret2
      exact linPost_bad (bthen HB.out hb5) HBAD.out
     | false =>
      rw [hh] at K
      have HGOOD:=hid (show LnOk ls k from fun y hy=>by rw [HX.out] at hy; injection hy with hy; subst hy; exact ⟨hq1,hq2,hh⟩)
      replace K:=hid K
      clear hh hln hbs
      go_wp2_with fail
      rw [← HW.out, ← HGG.out]
      go_wp2_with (first | (go_at_call 101; refine K.out.mono ?_; rintro e w5 ⟨rfl,hb5⟩))
      have hOq:=hOz.kept (grown_of_below hb5 none) (by cases hv:u12.ownBlock <;> simp)
      have hbq:=bthen hbz hb5
      have hGq:=hG0.next hb5
      clear K hOz hbz hG0 g0 g1 lG hb5 HW HGG q0 q1
      obtain ⟨C,hCd⟩:∃ C:World→Prop,∀ w',C w' ↔ Below w5.heap.size w5 w':=⟨_,fun _=>Iff.rfl⟩
      have hC:C w5.drew:=(hCd _).2 ((Below.refl _ _).drew)
      have g0:∀ p:In C,p.w.cell? ⟨G,0,none⟩=some (.int .i64 xi):=fun p=>(hGq.next ((hCd _).1 p.h)).cell 0
      have c0:∀ p:In C,p.w.cell? ⟨X,0,none⟩=some (.map (some BP)):=fun p=>(H0.out.next (bthen hbq ((hCd _).1 p.h))).cellP
      have l0:∀ p:In C,(Instr.lookup 181 (.map (some BP)) (.int .i64 xi) true).run Tryz.prog p.w = .ok (.tuple #[.int .i64 ((mget pr xi).getD 0),.bool (mget pr xi).isSome]) p.w:=fun p=>(H0.out.next (bthen hbq ((hCd _).1 p.h))).lookP xi
      have HCd:=hid hCd
      have HQ:=hid (And.intro hOq (And.intro hbq hGq))
      clear hCd hOq hbq hGq
      obtain ⟨pv,hpv⟩:∃ pv,pv=(mget pr xi).getD 0:=⟨_,rfl⟩
      obtain ⟨ps,hps⟩:∃ ps,ps=(mget pr xi).isSome:=⟨_,rfl⟩
      rw [← hpv, ← hps] at l0
      rw [← hps] at HKN
      rw [← hpv] at HPR
      clear hpv hps
      refine wp_region_in C (by kernel_rfl) (by kernel_rfl) hC ?_
      intro hne
      clear hC
      repeat (first | go_big_quiet_step (fail) | quiet_step (fail))
      refine wpQuiet_nil ?_
      intro wq hq
      have hbq2:=(HCd.out _).1 hq
      clear g0 c0 l0 hne hq HCd
      obtain ⟨hOq,hbq,hGq⟩:=HQ.out
      have hO6:=hOq.kept (grown_of_below hbq2 none) (by cases hv:u12.ownBlock <;> simp)
      have hb6:=bthen hbq hbq2
      have hG6:=hGq.next hbq2
      clear HQ hOq hbq hGq hbq2
      have g1:wq.cell? ⟨G,1,none⟩=some (.int .i64 xq):=hG6.cell 1
      have lG:G < wq.heap.size:=hG6.lt
      have HO6:=hid hO6
      have hO3:=hid (hO6.alloc (.cells #[.int .i64 xq,.int .i64 pv] 252))
      have hb3:=hid (hb6.alloc hb6.size (.cells #[.int .i64 xq,.int .i64 pv] 252))
      have hwz:=hb6.size
      clear hO6 hb6 hG6
      generalize hkn:knowB pr (ls.take k)=kn at HKN ⊢
      clear hkn
      cases kn
      all_goals
       go_wp2_with (first
        | (at_builtin; refine wpList_push _ rfl _ _ 185 rfl w.heap.size 252 i0 _ 2 16 Tryz.underlying185 hi hz0 hz1 hz2 rfl (by decide) _ _ _ (by rfl) HO6.out #[.int .i64 xq,.int .i64 pv] wq.heap.size (by simp) (by rfl) (by rfl) (by rfl) (by unfold maxLen; omega) (by omega) hwz ?_; intro v' w3 hO4 hg4))
       have hb4:=hb3.out.grown hg4 (by simp; omega) (fun k hk=>(HO6.out.lt k hk).1)
       have hO5:w3.ownsRow w.heap.size 252 2 v' (k + 1) ((prL pr (ls.take (k + 1))).flatMap en2):=by
        rw [HPR.out,List.flatMap_append]
        simpa [en2] using hO4
       clear hO4 hg4 HO6 hO3 hb3
       go_roundw
       case rel=>exact ⟨k + 1,by omega,by go_num,by rw [HKN.out]; simp,hid (fun j hj=>(Nat.lt_succ_iff_lt_or_eq.1 hj).elim (fun h=>hG.out j h) (fun e=>by subst e; exact HGOOD.out)),hO5,hb4⟩
       case measure=>simp [nOf]; omega
    ·have b1:decide (xq < 1)=false:=decide_eq_false (by omega)
     have b2:decide (1000000 < xq)=true:=decide_eq_true (by omega)
     have HBAD:=hid (show ¬ OrdOk id c f ls from fun hb=>hq2 (hb.2 k _ HX.out).2.1)
     have HB:=hid hbz
     subst hAA
     clear hln hOz hbz hG0 hR hbs hq2
     go_wp2_with fail
     go_ret2
     rw [← HW.out]
     exact linPost_bad HB.out HBAD.out
   ·have b1:decide (xq < 1)=true:=decide_eq_true (by omega)
    have HBAD:=hid (show ¬ OrdOk id c f ls from fun hb=>hq1 (hb.2 k _ HX.out).1)
    have HB:=hid hbz
    subst hAA
    clear hln hOz hbz hG0 hR hbs hq1
    go_wp2_with fail
    go_ret2
    rw [← HW.out]
    exact linPost_bad HB.out HBAD.out
  ·have hk':k=ls.length:=by omega
   subst hk'
   rw [List.take_length] at hO
   have hOK:OrdOk id c f ls:=⟨HK.out,fun j=>by
    by_cases hj:j < ls.length
    ·exact hG.out j hj
    ·intro p hp
     rw [List.getElem?_eq_none (by omega)] at hp
     cases hp⟩
   have hI:=H0.out.next hb
   have cO:=hI.cellO
   have lX:X < wr.heap.size:=hI.blk.lt
   have l2:=hI.lookO id
   rw [List.take_length]
   obtain ⟨A',cap',rfl,hrd⟩:=own_slice hO
   have HRD:=hid (fun wz (hb:Below wr.heap.size wr wz)=>hrd.below hb)
   have HB:=hid hb
   have hOKK:=hid hOK
   clear hO hb hI hk hlt hG hOK hrd
   unfold looked at l2
   cases hm:mget os id with
   | none =>
    rw [hm] at l2
    simp only [Option.isSome_none,zO] at l2
    cases hkn:knowB pr ls with
    | false =>
     have HE:=hid (errL_none (os:=os) hOKK.out hkn)
     clear hkn hm
     go_wp2_with fail
     go_ret2
     exact linPost_err HE.out (by omega) (HB.out.alloc HB.out.size _)
    | true =>
     have HE:=hid (errL_ok (os:=os) hOKK.out hkn (by rw [hm]; rfl))
     clear hkn hm
     go_wp2_with fail
     go_ret2
     exact ⟨A',ls.length,cap',by rw [HE.out]; rfl,fun _=>⟨rfl,HRD.out _ ((Below.refl _ _).alloc (Nat.le_refl _) _)⟩,HB.out.alloc HB.out.size _⟩
   | some o =>
    rw [hm] at l2
    simp only [Option.isSome_some,enO] at l2
    obtain ⟨oi,oc,of,ob,ocp,ols,on,ot⟩:=o
    simp only at l2
    cases hkn:knowB pr ls with
    | false =>
     have HE:=hid (errL_none (os:=os) hOKK.out hkn)
     clear hkn hm
     go_wp2_with fail
     go_ret2
     exact linPost_err HE.out (by omega) (HB.out.alloc HB.out.size _)
    | true =>
     have HE:=hid (errL_there (os:=os) hOKK.out hkn (by rw [hm]; rfl))
     clear hkn hm
     go_wp2_with fail
     go_ret2
     exact linPost_err HE.out (by omega) (HB.out.alloc HB.out.size _)
theorem lines_any (h:IsBook n0 w X BP BO pr os) (id c:Int) (f:ByteArray) (A:Option Addr) (cap:Nat) (ls:List Ln) (hfs:f.size≤maxLen) (hR:Rd w A (ls.flatMap enL)) (hcap:ls.length≤cap) (hcm:cap≤maxLen) :
  Calls Tryz.prog 58 #[.pointer (some ⟨X,0,none⟩),.int .i64 id,.int .i64 c,.string f,.slice A ls.length cap] w (LinPost pr os id c f ls w):=by
 by_cases hok:headOk id c f ls.length
 ·exact lines_body h id c f A cap ls hfs hok hR hcap hcm
 ·exact lines_head id c f A cap ls _ hfs hok
end
end Go.Proofs.YtakaalldbnklcaaGreat.Or
namespace Go.Proofs.YtakaalldbnklcaaGreat.Or
open Go.RowKit Go.WideShapes Go.ChangeShapes Go.ChangeAt Go.Deep
set_option linter.unusedVariables false
theorem rowBlk {w:World} {base n cap m:Nat} {e:TypeId} {size:Nat} {A:Option Addr} {xs:List Value} (h:w.ownsRow base e size (.slice A n cap) m xs) {b:Nat} (hb:A.map (·.block)=some b):∃ cs,Blk w b e cs:=by
 rcases h.2 with ⟨h1,_⟩ | ⟨g,cap',cur,h1,_,hh,_⟩
 ·simp at h1
  rw [h1.1] at hb
  simp at hb
 ·simp at h1
  rw [h1.1] at hb
  simp at hb
  subst hb
  exact ⟨_,hh⟩
section
variable {n0:Nat} {w w':World} {X BP BO:Nat} {pr:List (Int × Int)} {os:List (Int × Od)}
def PrOk (pr:List (Int × Int)):Prop:=∀ id p,mget pr id=some p→1≤id∧id≤64∧0≤p∧p≤1000000
theorem prL_fits {id c:Int} {f:ByteArray} {ls:List Ln} (hp:PrOk pr) (h:OrdOk id c f ls) (hk:knowB pr ls=true):fits (prL pr ls)=true:=by
 unfold fits
 obtain ⟨_,_,_,_,_,h6,h7⟩:=h.1
 rw [prL_len]
 simp only [Bool.and_eq_true,decide_eq_true_eq]
 refine ⟨⟨h6,h7⟩, ?_⟩
 rw [List.all_eq_true]
 intro x hx
 obtain ⟨y,hy,rfl⟩:=List.mem_map.1 hx
 obtain ⟨j,hj⟩:=List.mem_iff_getElem?.1 hy
 have h1:=h.2 j y hj
 have h2:=List.all_eq_true.1 hk y hy
 obtain ⟨p,hpp⟩:=Option.isSome_iff_exists.1 h2
 have h3:=hp _ _ hpp
 rw [lok_iff]
 simp only [hpp,Option.getD_some]
 exact ⟨h1.1,h1.2.1,h3.2.2.1,h3.2.2.2⟩
def AddPost (n0 X BP BO:Nat) (pr:List (Int × Int)) (os:List (Int × Od)) (id c:Int) (f:ByteArray) (ls:List Ln) (w:World) (e:Ending) (w':World):Prop :=
 ∃ o:Od,e = .returned (.int .i64 0)∧IsBook n0 w' X BP BO pr (mset os id o)∧o.i=id∧o.c=c∧o.f=f∧o.ls=ls∧o.n=netT (prL pr ls)∧o.t=taxT (prL pr ls)∧Touch (Own BP BO) w w'
def AddNew (n0 X BP BO:Nat) (pr:List (Int × Int)) (os:List (Int × Od)) (id c:Int) (f:ByteArray) (ls:List Ln) (w:World) (e:Ending) (w':World):Prop :=
 ∃ o:Od,e = .returned (.int .i64 0)∧IsBook n0 w' X BP BO pr (mset os id o)∧(o.i=id∧o.c=c∧o.f=f∧o.ls=ls∧o.n=netT (prL pr ls)∧o.t=taxT (prL pr ls))∧w.heap.size≤o.b∧Touch (Own BP BO) w w'
set_option maxRecDepth 100000 in
set_option maxHeartbeats 4000000 in
theorem add_no (h:IsBook n0 w X BP BO pr os) (id c:Int) (f:ByteArray) (A:Option Addr) (cap:Nat) (ls:List Ln) (hfs:f.size≤maxLen) (hR:Rd w A (ls.flatMap enL)) (hcap:ls.length≤cap) (hcm:cap≤maxLen) (hno:errL pr os id c f ls ≠ 0) :
  Calls Tryz.prog 18 #[.pointer (some ⟨X,0,none⟩),.int .i64 id,.int .i64 c,.string f,.slice A ls.length cap] w fun e w'=>e = .returned (.int .i64 (errL pr os id c f ls))∧Below w.heap.size w w':=by
 have L:=lines_any h id c f A cap ls hfs hR hcap hcm
 unfold LinPost at L
 have hz:(errL pr os id c f ls != 0)=true:=by simpa using hno
 generalize errL pr os id c f ls=z at L hz
 replace L:=hid L
 clear h hR hno
 go_enter Tryz.func18,Tryz.ntmps18
 go_wp2_with (first | (go_at_call 58; refine L.out.mono ?_; rintro e w5 ⟨A',n',cap',rfl,_,hb5⟩))
 go_ret
 exact ⟨rfl,hb5⟩
set_option maxRecDepth 100000 in
set_option maxHeartbeats 4000000 in
theorem add_new (h:IsBook n0 w X BP BO pr os) (hp:PrOk pr) (id c:Int) (f:ByteArray) (A:Option Addr) (cap:Nat) (ls:List Ln) (hfs:f.size≤maxLen) (hR:Rd w A (ls.flatMap enL)) (hcap:ls.length≤cap) (hcm:cap≤maxLen) (hn:n0≤w.heap.size) (hyes:errL pr os id c f ls=0) :
    Calls Tryz.prog 18 #[.pointer (some ⟨X,0,none⟩),.int .i64 id,.int .i64 c,.string f,.slice A ls.length cap] w (AddNew n0 X BP BO pr os id c f ls w):=by
  have L:=lines_any h id c f A cap ls hfs hR hcap hcm
  unfold LinPost at L
  rw [hyes] at L
  obtain ⟨hok,hkn,hnone⟩:=errL_zero hyes
  have hfit:=prL_fits hp hok hkn
  have hl1:=hok.1.2.2.2.2.2.1
  have hl4:=hok.1.2.2.2.2.2.2
  obtain ⟨b,off,rfl⟩:∃ b off,A=some ⟨b,off,none⟩:=by
    rcases hR with h0 | ⟨b,off,hA,_,_⟩
    · have:=length_flatMap_const enL 2 enL_len ls
      rw [h0] at this
      simp at this
      omega
    · exact ⟨b,off,hA⟩
  have T:=hid (fun (A':Option Addr) (cap':Nat) w' (hr:Rd w' A' ((prL pr ls).flatMap en2))=>total_any (prL pr ls) A' cap' w' hr)
  have hT:Hid (errT (prL pr ls)=0):=hid (by unfold errT; rw [hfit]; rfl)
  have K:=hid (fun w' (hb:Below w.heap.size w w')=>clone_some ls b off cap w' (hR.below hb) (by omega))
  unfold NewRowOf at K
  have H:=hid h
  have HL:=hid (prL_len (pr:=pr) ls)
  replace L:=hid L
  clear h hR hok hkn hfit hyes
  go_enter Tryz.func18,Tryz.ntmps18
  go_wp2_with (first | (go_at_call 58; refine L.out.mono ?_; rintro e w5 ⟨A',n',cap',rfl,hAA,hb5⟩))
  obtain ⟨rfl,hr5⟩:=hAA (by trivial)
  have T5:=T.out A' cap' w5 hr5
  rw [HL.out,hT.out] at T5
  replace T5:=hid T5
  clear hAA T hr5 L
  go_wp2_with (first | (go_at_call 59; refine T5.out.mono ?_; rintro e w6 ⟨rfl,hb6⟩))
  have hb:=bthen hb5 hb6
  clear hb5 hb6 T5
  have hI:=H.out.next hb
  have c1:w6.cell? ⟨X,1,none⟩=some (.map (some BO)):=hI.cellO
  have lX:X < w6.heap.size:=hI.blk.lt
  obtain ⟨N,hNe⟩:∃ N,N=netT (prL pr ls):=⟨_,rfl⟩
  obtain ⟨TX,hTe⟩:∃ TX,TX=taxT (prL pr ls):=⟨_,rfl⟩
  rw [← hNe, ← hTe]
  have HN:=hid hNe
  have HT:=hid hTe
  clear hNe hTe
  have hw6:=hid (And.intro hb hI)
  clear hb hI HL hT
  go_region_held3 (fun w'=>w'.cell? ⟨X,1,none⟩=some (.map (some BO))) (first | exact c1 | exact c7 | exact c8)
    (first
      | (go_at_call 60; refine (K.out _ hw6.out.1.drew).mono ?_; rintro e w7 ⟨A7,cp7,rfl,hO7,hb7⟩
         obtain ⟨g7,cq7,e7,_,_⟩:=own_form hO7 (by omega)
         injection e7 with e8 e9 e10
         subst e8 e10
         have hI7:=H.out.next (bthen hw6.out.1.drew hb7)
         have c7:w7.cell? ⟨X,1,none⟩=some (.map (some BO)):=hI7.cellO
         obtain ⟨w8,hrun,hM8,hg8,hs8⟩:=hI7.ods.store (P:=Tryz.prog) (mt:=182) (et:=166) keyL Tryz.underlying182 id (⟨id,c,f,g7,cp7,ls,N,TX⟩:Od)
         simp only [enO,kI] at hrun
         have hI8:=hI7.order (o:=(⟨id,c,f,g7,cp7,ls,N,TX⟩:Od)) (own_rd hO7) (show n0≤g7 from Nat.le_trans (Nat.le_trans hn hw6.out.1.drew.size) (hO7.lt g7 rfl).1) (rowBlk hO7 rfl) hM8 hg8
         have c8:w8.cell? ⟨X,1,none⟩=some (.map (some BO)):=hI8.cellO
         have hG7:=hid (Nat.le_trans hw6.out.1.drew.size (hO7.lt g7 rfl).1)
         have hF:=hid (And.intro hI8 ((Touch.of_below (S:=Own BP BO) (bthen hw6.out.1.drew hb7)).then ((Touch.of_grown hg8).mono (fun k hk=>(.inr hk:Own BP BO k)))))
         clear hO7 hb7 hI7 hM8 hg8 hs8 hI8))
  all_goals
    go_wp2_with fail
    go_ret
    exact ⟨_,rfl,hF.out.1,⟨rfl,rfl,rfl,rfl,HN.out,HT.out⟩,hG7.out,hF.out.2⟩
theorem add_yes (h:IsBook n0 w X BP BO pr os) (hp:PrOk pr) (id c:Int) (f:ByteArray) (A:Option Addr) (cap:Nat) (ls:List Ln) (hfs:f.size≤maxLen) (hR:Rd w A (ls.flatMap enL)) (hcap:ls.length≤cap) (hcm:cap≤maxLen) (hn:n0≤w.heap.size) (hyes:errL pr os id c f ls=0) :
  Calls Tryz.prog 18 #[.pointer (some ⟨X,0,none⟩),.int .i64 id,.int .i64 c,.string f,.slice A ls.length cap] w (AddPost n0 X BP BO pr os id c f ls w) :=
 (add_new h hp id c f A cap ls hfs hR hcap hcm hn hyes).mono fun _ _ ⟨o,h1,h2,⟨h3,h4,h5,h6,h7,h8⟩,_,h9⟩=>⟨o,h1,h2,h3,h4,h5,h6,h7,h8,h9⟩
end
end Go.Proofs.YtakaalldbnklcaaGreat.Or
namespace Go.Proofs.YtakaalldbnklcaaGreat.Or
open Go.RowKit Go.WideShapes Go.ChangeShapes Go.ChangeAt Go.Deep
set_option linter.unusedVariables false
theorem _root_.Go.Proofs.YtakaalldbnklcaaGreat.Touch.set {S:Nat→Prop} {w w1:World} (h:Touch S w w1) {g:Nat} (hg:S g) (i:Nat) (v:Value):Touch S w (w1.setCell ⟨g,i,none⟩ v):=h.then ((Touch.setCell w1 g i v).mono (fun k hk=>by subst hk; exact hg))
theorem ownsRow_low {w:World} {base b':Nat} {e:TypeId} {size n:Nat} {v:Value} {xs:List Value} (h:w.ownsRow base e size v n xs) (hb:b'≤base):w.ownsRow b' e size v n xs:=by
 obtain ⟨hl,h1 | ⟨g,cap,cur,rfl,hg,hh,hr⟩⟩:=h
 ·exact ⟨hl,.inl h1⟩
 ·exact ⟨hl,.inr ⟨g,cap,cur,rfl,by omega,hh,hr⟩⟩
section
variable {n0:Nat} {w w':World} {X BP BO:Nat} {pr:List (Int × Int)} {os:List (Int × Od)}
structure LnRow (base:Nat) (w:World) (b cap:Nat) (ls:List Ln):Prop where
 own:w.ownsRow base 67 2 (.slice (some ⟨b,0,none⟩) ls.length cap) ls.length (ls.flatMap enL)
set_option maxRecDepth 100000 in
set_option maxHeartbeats 4000000 in
theorem twin_zero (w:World):Calls Tryz.prog 93 #[.agg #[.int .i64 0,.int .i64 0,.string ByteArray.empty,.slice none 0 0,.int .i64 0,.int .i64 0]] w fun e w'=>e = .returned (.agg #[.int .i64 0,.int .i64 0,.string ByteArray.empty,.slice none 0 0,.int .i64 0,.int .i64 0])∧Below w.heap.size w w':=by
 have K:=hid (fun w=>clone_nil w)
 go_enter Tryz.func93,Tryz.ntmps93
 go_wp2_with (first | (go_at_call 60; refine (K.out _).mono ?_; rintro e w7 ⟨rfl,rfl⟩))
 exact bodyPost_ret (v:=.agg #[.int .i64 0,.int .i64 0,.string ByteArray.empty,.slice none 0 0,.int .i64 0,.int .i64 0]) (by simp [results,Tryz.results93,go_sem]) rfl ⟨rfl,((Below.refl _ _).alloc (Nat.le_refl _) _).alloc (by simp) _⟩
set_option maxRecDepth 100000 in
set_option maxHeartbeats 4000000 in
theorem twin_off (oi oc:Int) (of:ByteArray) (ob off ocp:Nat) (ls:List Ln) (on ot:Int) (w:World) (hR:Rd w (some ⟨ob,off,none⟩) (ls.flatMap enL)) (hl1:1≤ls.length) (hl4:ls.length≤4) :
  Calls Tryz.prog 93 #[.agg #[.int .i64 oi,.int .i64 oc,.string of,.slice (some ⟨ob,off,none⟩) ls.length ocp,.int .i64 on,.int .i64 ot]] w fun e w'=>∃ b cap,e = .returned (.agg #[.int .i64 oi,.int .i64 oc,.string of,.slice (some ⟨b,0,none⟩) ls.length cap,.int .i64 on,.int .i64 ot])∧LnRow w.heap.size w' b cap ls∧Below w.heap.size w w':=by
 have K:=hid (fun w' (hb:Below w.heap.size w w')=>clone_some ls ob off ocp w' (hR.below hb) (by omega))
 unfold NewRowOf at K
 obtain ⟨W2,hW2⟩:∃ W2,W2=((w.alloc (.cells #[.int .i64 oi,.int .i64 oc,.string of,.slice (some ⟨ob,off,none⟩) ls.length ocp,.int .i64 on,.int .i64 ot] 166)).alloc (.cells #[.int .i64 0,.int .i64 0,.string ⟨#[]⟩,.slice none 0 0,.int .i64 0,.int .i64 0] 166)):=⟨_,rfl⟩
 obtain ⟨G,hG⟩:∃ G,G=w.heap.size:=⟨_,rfl⟩
 have hb2:Below w.heap.size w W2:=by rw [hW2]; exact ((Below.refl _ _).alloc (Nat.le_refl _) _).alloc (by simp) _
 have hB1:Blk W2 G 166 #[.int .i64 oi,.int .i64 oc,.string of,.slice (some ⟨ob,off,none⟩) ls.length ocp,.int .i64 on,.int .i64 ot]:=by rw [hW2,hG]; exact (Blk.new _ _ _).alloc _
 have hB2:Blk W2 (G + 1) 166 #[.int .i64 0,.int .i64 0,.string ⟨#[]⟩,.slice none 0 0,.int .i64 0,.int .i64 0]:=by
  rw [hW2,hG]
  have:=Blk.new (w.alloc (.cells #[.int .i64 oi,.int .i64 oc,.string of,.slice (some ⟨ob,off,none⟩) ls.length ocp,.int .i64 on,.int .i64 ot] 166)) 166 #[.int .i64 0,.int .i64 0,.string ⟨#[]⟩,.slice none 0 0,.int .i64 0,.int .i64 0]
  rw [World.size_alloc] at this
  exact this
 have HW:=hid hW2
 have HG:=hid hG
 have HH:=hid (And.intro hb2 (And.intro hB1 hB2))
 clear hR hW2 hG hb2 hB1 hB2
 go_enter Tryz.func93,Tryz.ntmps93
 go_wp2_with fail
 rw [← HW.out, ← HG.out]
 obtain ⟨hb2,hB1,hB2⟩:=HH.out
 refine (K.out _ hb2).mono ?_
 rintro e w7 ⟨A7,cp7,rfl,hO7,hb7⟩
 obtain ⟨g7,cq7,e7,hg7,_⟩:=own_form hO7 (by omega)
 injection e7 with e8 e9 e10
 subst e8 e10
 replace hB1:=hB1.next hb7
 replace hB2:=hB2.next hb7
 have h1:g7 ≠ G:=by have:=HH.out.2.1.lt; omega
 have h2:g7 ≠ G + 1:=by have:=HH.out.2.2.lt; omega
 have hGw:w.heap.size≤G:=by have:=HG.out; omega
 clear HH HW K hg7
 have c0:w7.cell? ⟨G,0,none⟩=some (.int .i64 oi):=hB1.cell 0
 have c1:w7.cell? ⟨G,1,none⟩=some (.int .i64 oc):=hB1.cell 1
 have c2:w7.cell? ⟨G,2,none⟩=some (.string of):=hB1.cell 2
 have c3:w7.cell? ⟨G,3,none⟩=some (.slice (some ⟨ob,off,none⟩) ls.length ocp):=hB1.cell 3
 have c4:w7.cell? ⟨G,4,none⟩=some (.int .i64 on):=hB1.cell 4
 have c5:w7.cell? ⟨G,5,none⟩=some (.int .i64 ot):=hB1.cell 5
 have f3:=hB1.free 3
 have d0:w7.cell? ⟨G + 1,0,none⟩=some (.int .i64 0):=hB2.cell 0
 have d1:w7.cell? ⟨G + 1,1,none⟩=some (.int .i64 0):=hB2.cell 1
 have d2:w7.cell? ⟨G + 1,2,none⟩=some (.string ⟨#[]⟩):=hB2.cell 2
 have d3:w7.cell? ⟨G + 1,3,none⟩=some (.slice none 0 0):=hB2.cell 3
 have d4:w7.cell? ⟨G + 1,4,none⟩=some (.int .i64 0):=hB2.cell 4
 have d5:w7.cell? ⟨G + 1,5,none⟩=some (.int .i64 0):=hB2.cell 5
 have k0:=hB2.free 0
 have k1:=hB2.free 1
 have k2:=hB2.free 2
 have k3:=hB2.free 3
 have k4:=hB2.free 4
 have k5:=hB2.free 5
 have hF:=hid (And.intro hO7 (And.intro hb2 hb7))
 have hB9:Blk (((((((w7.setCell ⟨G,3,none⟩ (.slice (some ⟨g7,0,none⟩) ls.length cp7)).setCell ⟨G + 1,0,none⟩ (.int .i64 oi)).setCell ⟨G + 1,1,none⟩ (.int .i64 oc)).setCell ⟨G + 1,2,none⟩ (.string of)).setCell ⟨G + 1,3,none⟩ (.slice (some ⟨g7,0,none⟩) ls.length cp7)).setCell ⟨G + 1,4,none⟩ (.int .i64 on)).setCell ⟨G + 1,5,none⟩ (.int .i64 ot)) (G + 1) 166 #[.int .i64 oi,.int .i64 oc,.string of,.slice (some ⟨g7,0,none⟩) ls.length cp7,.int .i64 on,.int .i64 ot] :=
  ((((((hB2.far (p:=⟨G,3,none⟩) (by simp) _).set_ 0 _).set_ 1 _).set_ 2 _).set_ 3 _).set_ 4 _).set_ 5 _
 replace hB9:=hid hB9
 clear hO7 hb2 hb7 hB1 hB2
 go_wp2_with fail
 replace hB9:=hB9.out
 obtain ⟨W9,hW9⟩:∃ W9,W9=(((((((w7.setCell ⟨G,3,none⟩ (.slice (some ⟨g7,0,none⟩) ls.length cp7)).setCell ⟨G + 1,0,none⟩ (.int .i64 oi)).setCell ⟨G + 1,1,none⟩ (.int .i64 oc)).setCell ⟨G + 1,2,none⟩ (.string of)).setCell ⟨G + 1,3,none⟩ (.slice (some ⟨g7,0,none⟩) ls.length cp7)).setCell ⟨G + 1,4,none⟩ (.int .i64 on)).setCell ⟨G + 1,5,none⟩ (.int .i64 ot)):=⟨_,rfl⟩
 rw [← hW9] at hB9 ⊢
 have HW9:=hid hW9
 clear hW9 c0 c1 c2 c3 c4 c5 d0 d1 d2 d3 d4 d5 f3 k0 k1 k2 k3 k4 k5
 have c0:W9.cell? ⟨G + 1,0,none⟩=some (.int .i64 oi):=hB9.cell 0
 have c1:W9.cell? ⟨G + 1,1,none⟩=some (.int .i64 oc):=hB9.cell 1
 have c2:W9.cell? ⟨G + 1,2,none⟩=some (.string of):=hB9.cell 2
 have c3:W9.cell? ⟨G + 1,3,none⟩=some (.slice (some ⟨g7,0,none⟩) ls.length cp7):=hB9.cell 3
 have c4:W9.cell? ⟨G + 1,4,none⟩=some (.int .i64 on):=hB9.cell 4
 have c5:W9.cell? ⟨G + 1,5,none⟩=some (.int .i64 ot):=hB9.cell 5
 refine bodyPost_ret (v:=.agg #[.int .i64 oi,.int .i64 oc,.string of,.slice (some ⟨g7,0,none⟩) ls.length cp7,.int .i64 on,.int .i64 ot]) (by simp [results,Tryz.results93,go_sem,c0,c1,c2,c3,c4,c5]) rfl ?_
 rw [HW9.out]
 obtain ⟨hO7,hb2,hb7⟩:=hF.out
 have hT:=((((((Touch.refl (fun k=>k=G∨k=G + 1) w7).set (g:=G) (.inl rfl) 3 (.slice (some ⟨g7,0,none⟩) ls.length cp7)).set (g:=G + 1) (.inr rfl) 0 (.int .i64 oi)).set (g:=G + 1) (.inr rfl) 1 (.int .i64 oc)).set (g:=G + 1) (.inr rfl) 2 (.string of)).set (g:=G + 1) (.inr rfl) 3 (.slice (some ⟨g7,0,none⟩) ls.length cp7)).set (g:=G + 1) (.inr rfl) 4 (.int .i64 on)
 replace hT:=hT.set (g:=G + 1) (.inr rfl) 5 (.int .i64 ot)
 refine ⟨g7,cp7,rfl,⟨ownsRow_low (own_touch hO7 hT (fun k hk => ?_)) hb2.size⟩,(bthen hb2 hb7).trans (hT.below (bthen hb2 hb7).size (fun k hk=>by omega))⟩
 have hk':g7=k:=by simpa [Value.ownBlock] using hk
 subst hk'
 intro hc
 rcases hc with e | e
 ·exact h1 e
 ·exact h2 e
theorem twin_some (o:Od) (w:World) (hR:Rd w (some ⟨o.b,0,none⟩) (o.ls.flatMap enL)) (hl1:1≤o.ls.length) (hl4:o.ls.length≤4) :
  Calls Tryz.prog 93 #[enO o] w fun e w'=>∃ b cap,e = .returned (enO ⟨o.i,o.c,o.f,b,cap,o.ls,o.n,o.t⟩)∧LnRow w.heap.size w' b cap o.ls∧Below w.heap.size w w' :=
 twin_off o.i o.c o.f o.b 0 o.cap o.ls o.n o.t w hR hl1 hl4
def GetPost (os:List (Int × Od)) (id:Int) (w:World) (e:Ending) (w':World):Prop :=
 (mget os id=none→e = .returned (.tuple #[.agg #[.int .i64 0,.int .i64 0,.string ByteArray.empty,.slice none 0 0,.int .i64 0,.int .i64 0],.bool false])) ∧
 (∀ o,mget os id=some o→∃ b cap,e = .returned (.tuple #[enO ⟨o.i,o.c,o.f,b,cap,o.ls,o.n,o.t⟩,.bool true])∧LnRow w.heap.size w' b cap o.ls)∧Below w.heap.size w w'
set_option maxRecDepth 100000 in
set_option maxHeartbeats 4000000 in
theorem get_any (h:IsBook n0 w X BP BO pr os) (hq:∀ p ∈ os,1≤p.2.ls.length∧p.2.ls.length≤4) (id:Int) :
  Calls Tryz.prog 85 #[.pointer (some ⟨X,0,none⟩),.int .i64 id] w (GetPost os id w):=by
 have l1:=(h.alloc (.cells #[.int .i64 0,.int .i64 0,.string ⟨#[]⟩,.slice none 0 0,.int .i64 0,.int .i64 0] 166)).lookO id
 have cO:=h.cellO
 have lX:X < w.heap.size:=h.blk.lt
 unfold looked at l1
 cases hm:mget os id with
 | none =>
  rw [hm] at l1
  simp only [Option.isSome_none,zO] at l1
  have K:=hid (fun w' (_h:Below w.heap.size w w')=>twin_zero w')
  have HM:=hid hm
  obtain ⟨W2,hW2⟩:∃ W2,W2=((w.alloc (.cells #[.int .i64 0,.int .i64 0,.string ⟨#[]⟩,.slice none 0 0,.int .i64 0,.int .i64 0] 166)).alloc (.cells #[.int .i64 0,.int .i64 0,.string ByteArray.empty,.slice none 0 0,.int .i64 0,.int .i64 0] 166)):=⟨_,rfl⟩
  obtain ⟨G,hG⟩:∃ G,G=w.heap.size:=⟨_,rfl⟩
  have hb2:Below w.heap.size w W2:=by rw [hW2]; exact ((Below.refl _ _).alloc (Nat.le_refl _) _).alloc (by simp) _
  have hB2:Blk W2 G 166 #[.int .i64 0,.int .i64 0,.string ⟨#[]⟩,.slice none 0 0,.int .i64 0,.int .i64 0]:=by rw [hW2,hG]; exact (Blk.new _ _ _).alloc _
  have HW:=hid hW2
  have HG:=hid hG
  have HH:=hid (And.intro hb2 hB2)
  clear hm h hW2 hG hb2 hB2
  go_enter Tryz.func85,Tryz.ntmps85
  go_wp2_with fail
  rw [← HW.out, ← HG.out]
  obtain ⟨hb2,hB2⟩:=HH.out
  refine (K.out _ hb2).mono ?_
  rintro e w7 ⟨rfl,hb7⟩
  replace hB2:=hB2.next hb7
  have hGw:w.heap.size≤G:=by have:=HG.out; omega
  have d0:w7.cell? ⟨G,0,none⟩=some (.int .i64 0):=hB2.cell 0
  have d1:w7.cell? ⟨G,1,none⟩=some (.int .i64 0):=hB2.cell 1
  have d2:w7.cell? ⟨G,2,none⟩=some (.string ⟨#[]⟩):=hB2.cell 2
  have d3:w7.cell? ⟨G,3,none⟩=some (.slice none 0 0):=hB2.cell 3
  have d4:w7.cell? ⟨G,4,none⟩=some (.int .i64 0):=hB2.cell 4
  have d5:w7.cell? ⟨G,5,none⟩=some (.int .i64 0):=hB2.cell 5
  have k0:=hB2.free 0
  have k1:=hB2.free 1
  have k2:=hB2.free 2
  have k3:=hB2.free 3
  have k4:=hB2.free 4
  have k5:=hB2.free 5
  have hB9:Blk ((((((w7.setCell ⟨G,0,none⟩ (.int .i64 0)).setCell ⟨G,1,none⟩ (.int .i64 0)).setCell ⟨G,2,none⟩ (.string ByteArray.empty)).setCell ⟨G,3,none⟩ (.slice none 0 0)).setCell ⟨G,4,none⟩ (.int .i64 0)).setCell ⟨G,5,none⟩ (.int .i64 0)) G 166 #[.int .i64 0,.int .i64 0,.string ByteArray.empty,.slice none 0 0,.int .i64 0,.int .i64 0]:=(((((hB2.set_ 0 _).set_ 1 _).set_ 2 _).set_ 3 _).set_ 4 _).set_ 5 _
  replace hB9:=hid hB9
  have hF:=hid (And.intro hb2 (And.intro hb7 trivial))
  clear hb2 hb7 hB2 HH HW K
  go_wp2_with fail
  replace hB9:=hB9.out
  obtain ⟨W9,hW9⟩:∃ W9,W9=((((((w7.setCell ⟨G,0,none⟩ (.int .i64 0)).setCell ⟨G,1,none⟩ (.int .i64 0)).setCell ⟨G,2,none⟩ (.string ByteArray.empty)).setCell ⟨G,3,none⟩ (.slice none 0 0)).setCell ⟨G,4,none⟩ (.int .i64 0)).setCell ⟨G,5,none⟩ (.int .i64 0)):=⟨_,rfl⟩
  rw [← hW9] at hB9 ⊢
  have HW9:=hid hW9
  clear hW9 d0 d1 d2 d3 d4 d5 k0 k1 k2 k3 k4 k5
  have c0:W9.cell? ⟨G,0,none⟩=some (.int .i64 0):=hB9.cell 0
  have c1:W9.cell? ⟨G,1,none⟩=some (.int .i64 0):=hB9.cell 1
  have c2:W9.cell? ⟨G,2,none⟩=some (.string ByteArray.empty):=hB9.cell 2
  have c3:W9.cell? ⟨G,3,none⟩=some (.slice none 0 0):=hB9.cell 3
  have c4:W9.cell? ⟨G,4,none⟩=some (.int .i64 0):=hB9.cell 4
  have c5:W9.cell? ⟨G,5,none⟩=some (.int .i64 0):=hB9.cell 5
  refine bodyPost_ret (v:=.tuple #[.agg #[.int .i64 0,.int .i64 0,.string ByteArray.empty,.slice none 0 0,.int .i64 0,.int .i64 0],.bool false]) (by simp [results,Tryz.results85,go_sem,c0,c1,c2,c3,c4,c5]) rfl ?_
  rw [HW9.out]
  obtain ⟨hb2,hb7,hO7⟩:=hF.out
  have hT:=(((((((Touch.refl (fun k=>k=G) w7).set (g:=G) rfl 0 (.int .i64 0)).set (g:=G) rfl 1 (.int .i64 0)).set (g:=G) rfl 2 (.string ByteArray.empty)).set (g:=G) rfl 3 (.slice none 0 0)).set (g:=G) rfl 4 (.int .i64 0)).set (g:=G) rfl 5 (.int .i64 0))
  have hbf:Below w.heap.size w _:=(bthen hb2 hb7).trans (hT.below (bthen hb2 hb7).size (fun k hk=>by omega))
  exact ⟨fun _=>rfl,fun o ho=>(by rw [HM.out] at ho; cases ho),hbf⟩
 | some o =>
  rw [hm] at l1
  obtain ⟨oi,oc,of,ob,ocp,ols,on,ot⟩:=o
  simp only [Option.isSome_some,enO] at l1
  have hql:=hq _ (mget_mem hm)
  have hrd:=(h.lns _ (mget_mem hm)).1
  simp only at hql hrd
  have K:=hid (fun w' (hb:Below w.heap.size w w')=>twin_some (⟨oi,oc,of,ob,ocp,ols,on,ot⟩:Od) w' (hrd.below hb) hql.1 hql.2)
  simp only [enO] at K
  have HM:=hid hm
  clear hrd
  obtain ⟨W2,hW2⟩:∃ W2,W2=((w.alloc (.cells #[.int .i64 0,.int .i64 0,.string ⟨#[]⟩,.slice none 0 0,.int .i64 0,.int .i64 0] 166)).alloc (.cells #[.int .i64 oi,.int .i64 oc,.string of,.slice (some ⟨ob,0,none⟩) ols.length ocp,.int .i64 on,.int .i64 ot] 166)):=⟨_,rfl⟩
  obtain ⟨G,hG⟩:∃ G,G=w.heap.size:=⟨_,rfl⟩
  have hb2:Below w.heap.size w W2:=by rw [hW2]; exact ((Below.refl _ _).alloc (Nat.le_refl _) _).alloc (by simp) _
  have hB2:Blk W2 G 166 #[.int .i64 0,.int .i64 0,.string ⟨#[]⟩,.slice none 0 0,.int .i64 0,.int .i64 0]:=by rw [hW2,hG]; exact (Blk.new _ _ _).alloc _
  have HW:=hid hW2
  have HG:=hid hG
  have HL:=hid (show G < W2.heap.size from hB2.lt)
  have HH:=hid (And.intro hb2 hB2)
  clear hm h hW2 hG hb2 hB2
  go_enter Tryz.func85,Tryz.ntmps85
  go_wp2_with fail
  rw [← HW.out, ← HG.out]
  obtain ⟨hb2,hB2⟩:=HH.out
  refine (K.out _ hb2).mono ?_
  rintro e w7 ⟨b7,cp7,rfl,hO7,hb7⟩
  replace hB2:=hB2.next hb7
  have hGw:w.heap.size≤G:=by have:=HG.out; omega
  have d0:w7.cell? ⟨G,0,none⟩=some (.int .i64 0):=hB2.cell 0
  have d1:w7.cell? ⟨G,1,none⟩=some (.int .i64 0):=hB2.cell 1
  have d2:w7.cell? ⟨G,2,none⟩=some (.string ⟨#[]⟩):=hB2.cell 2
  have d3:w7.cell? ⟨G,3,none⟩=some (.slice none 0 0):=hB2.cell 3
  have d4:w7.cell? ⟨G,4,none⟩=some (.int .i64 0):=hB2.cell 4
  have d5:w7.cell? ⟨G,5,none⟩=some (.int .i64 0):=hB2.cell 5
  have k0:=hB2.free 0
  have k1:=hB2.free 1
  have k2:=hB2.free 2
  have k3:=hB2.free 3
  have k4:=hB2.free 4
  have k5:=hB2.free 5
  have hB9:Blk ((((((w7.setCell ⟨G,0,none⟩ (.int .i64 oi)).setCell ⟨G,1,none⟩ (.int .i64 oc)).setCell ⟨G,2,none⟩ (.string of)).setCell ⟨G,3,none⟩ (.slice (some ⟨b7,0,none⟩) ols.length cp7)).setCell ⟨G,4,none⟩ (.int .i64 on)).setCell ⟨G,5,none⟩ (.int .i64 ot)) G 166 #[.int .i64 oi,.int .i64 oc,.string of,.slice (some ⟨b7,0,none⟩) ols.length cp7,.int .i64 on,.int .i64 ot]:=(((((hB2.set_ 0 _).set_ 1 _).set_ 2 _).set_ 3 _).set_ 4 _).set_ 5 _
  replace hB9:=hid hB9
  have hF:=hid (And.intro hb2 (And.intro hb7 hO7))
  clear hb2 hb7 hB2 HH HW K hO7
  go_wp2_with fail
  replace hB9:=hB9.out
  obtain ⟨W9,hW9⟩:∃ W9,W9=((((((w7.setCell ⟨G,0,none⟩ (.int .i64 oi)).setCell ⟨G,1,none⟩ (.int .i64 oc)).setCell ⟨G,2,none⟩ (.string of)).setCell ⟨G,3,none⟩ (.slice (some ⟨b7,0,none⟩) ols.length cp7)).setCell ⟨G,4,none⟩ (.int .i64 on)).setCell ⟨G,5,none⟩ (.int .i64 ot)):=⟨_,rfl⟩
  rw [← hW9] at hB9 ⊢
  have HW9:=hid hW9
  clear hW9 d0 d1 d2 d3 d4 d5 k0 k1 k2 k3 k4 k5
  have c0:W9.cell? ⟨G,0,none⟩=some (.int .i64 oi):=hB9.cell 0
  have c1:W9.cell? ⟨G,1,none⟩=some (.int .i64 oc):=hB9.cell 1
  have c2:W9.cell? ⟨G,2,none⟩=some (.string of):=hB9.cell 2
  have c3:W9.cell? ⟨G,3,none⟩=some (.slice (some ⟨b7,0,none⟩) ols.length cp7):=hB9.cell 3
  have c4:W9.cell? ⟨G,4,none⟩=some (.int .i64 on):=hB9.cell 4
  have c5:W9.cell? ⟨G,5,none⟩=some (.int .i64 ot):=hB9.cell 5
  refine bodyPost_ret (v:=.tuple #[.agg #[.int .i64 oi,.int .i64 oc,.string of,.slice (some ⟨b7,0,none⟩) ols.length cp7,.int .i64 on,.int .i64 ot],.bool true]) (by simp [results,Tryz.results85,go_sem,c0,c1,c2,c3,c4,c5]) rfl ?_
  rw [HW9.out]
  obtain ⟨hb2,hb7,hO7⟩:=hF.out
  have hT:=(((((((Touch.refl (fun k=>k=G) w7).set (g:=G) rfl 0 (.int .i64 oi)).set (g:=G) rfl 1 (.int .i64 oc)).set (g:=G) rfl 2 (.string of)).set (g:=G) rfl 3 (.slice (some ⟨b7,0,none⟩) ols.length cp7)).set (g:=G) rfl 4 (.int .i64 on)).set (g:=G) rfl 5 (.int .i64 ot))
  have hbf:Below w.heap.size w _:=(bthen hb2 hb7).trans (hT.below (bthen hb2 hb7).size (fun k hk=>by omega))
  refine ⟨fun hn=>(by rw [HM.out] at hn; cases hn),fun o ho => ?_,hbf⟩
  rw [HM.out] at ho
  injection ho with ho
  subst ho
  refine ⟨b7,cp7,rfl,⟨own_touch (ownsRow_low hO7.own hb2.size) hT (fun k hk => ?_)⟩⟩
  have hk':b7=k:=by simpa [Value.ownBlock] using hk
  subst hk'
  intro hc
  have h1:=(hO7.own.lt b7 rfl).1
  have h2:=hb2.size
  have h3:=HL.out
  omega
end
end Go.Proofs.YtakaalldbnklcaaGreat.Or
namespace Go.Proofs.YtakaalldbnklcaaGreat.Or
open Go.RowKit Go.Maps Go.Sort
set_option linter.unusedVariables false
theorem sortsI (m:Nat):AnyZI.SortsIn Tryz.prog Tryz.sortedI_ren Fence.wide m :=
  ⟨fun blk off cap ss W hH hblk hsz=>callsIn_wide.2 (AnyM.slices_Sort_int Tryz.sortI blk off cap ss W hH hblk hsz),
   fun p cap W=>callsIn_wide.2 (AnyM.slices_Sort_int_none Tryz.sortI p cap W)⟩
def srt (l:List Int):List Int:=l.mergeSort (fun x y=>decide (x≤y))
theorem srt_perm (l:List Int):(srt l).Perm l:=List.mergeSort_perm _ _
theorem srt_sorted (l:List Int):(srt l).Pairwise (fun a b=>a≤b):=by
 have:=List.pairwise_mergeSort (le:=fun x y:Int=>decide (x≤y)) (fun a b c h g=>by simp only [decide_eq_true_eq] at *; omega) (fun a b=>by simp only [Bool.or_eq_true,decide_eq_true_eq]; omega) l
 exact this.imp (fun h=>by simpa using h)
theorem srt_rise {l:List Int} (hn:l.Nodup):(srt l).Pairwise (fun a b=>a < b):=by
 have h1:=srt_sorted l
 have h2:(srt l).Nodup:=(srt_perm l).nodup_iff.2 hn
 refine (h1.and h2).imp ?_
 rintro a b ⟨h,h'⟩
 omega
end Go.Proofs.YtakaalldbnklcaaGreat.Or
namespace Go.Proofs.YtakaalldbnklcaaGreat.Or
open Go.RowKit Go.Maps Go.Sort
set_option linter.unusedVariables false
end Go.Proofs.YtakaalldbnklcaaGreat.Or
namespace Go.Proofs.YtakaalldbnklcaaGreat.Or
open Go.RowKit Go.Maps Go.Sort
set_option linter.unusedVariables false
set_option maxRecDepth 100000 in
set_option maxHeartbeats 2000000 in
theorem keys1_inO (F:Fence) (n:Nat) (hf:F.fn 132) (hro:F.round=none) (hn:1≤n) (l Bm b:Nat) (m:List (Int × Od)) (J:List Int→World→Prop)
  (hY:∀ pre x W,J pre W→pre.length < m.length→YieldAt F (n - 1) Tryz.prog l #[kI x] W fun e W'=>e = .returned (.bool true)∧J (pre++[x]) W'∧KeepsWalks W W')
  (W:World) (hJ:AbidesFrom W.heap.size J) (hm:W.cell? ⟨Bm,0,none⟩=some (.map (some b))) (hM:IsMap W b kI enO m) (h0:J [] W) :
  CallsIn F n Tryz.prog 132 #[.func (.yield l) #[] #[],.pointer (some ⟨Bm,0,none⟩)] W fun e W'=>(∃ v,e = .returned v)∧∃ xs:List Int,xs.Perm (m.map (·.1))∧J xs W':=by
 refine callsIn_of_wp Tryz.func132 rfl hf ?_ hro
 simp only [Tryz.ntmps132,List.size_toArray,List.length_cons,List.length_nil,Nat.reduceAdd,Nat.reduceSub,Array.replicate_succ,Array.replicate_zero,List.push_toArray,List.append_toArray,List.nil_append,List.cons_append]
 gi_wp2_with (first
  | (gi_at_range; refine wpListIn_range_m _ rfl _ 182 3 166 rfl Tryz.underlying182 b m rfl hM ?_; intro w0 hrg0 hg0 hs0)
  | gi_in)
 go_frame
 gi_loopw [3] (fun _ wr=>∃ (left ps:List (Int × Od)),IsIter wr W.heap.size b kI enO m left∧(ps++left).Perm m∧J (ps.map (·.1)) wr)
  (fun _ wr=>wr.rangeLeft b W.heap.size)
 case atStart =>
  exact ⟨m,[],hrg0,List.Perm.refl _,hJ [] W w0 none h0 hg0 (fun r e=>by cases e)⟩
 case round =>
  obtain ⟨left,ps,hrg,hP,hJs⟩:=hrel
  gi_wp2_with (first
   | (gi_at_next; refine wpListIn_next_m _ rfl _ rfl W.heap.size b m left rfl hrg ?_ ?_)
   | gi_in)
  ·intro hl0
   subst hl0
   gi_wp2
   go_end0
   exact ⟨⟨_,rfl⟩,ps.map (·.1),by rw [List.append_nil] at hP; exact hP.map _,hJs⟩
  ·intro k v left' w2 hp hrg2 hg2 hs2 hen
   have hJ2:J (ps.map (·.1)) w2:=hJ _ wr w2 (some W.heap.size) hJs hg2 (fun r e=>by cases e; exact ⟨Nat.le_refl _,hrg.iter_walk⟩)
   have hlen:(ps.map (·.1)).length < m.length:=by
    have h1:=hP.length_eq
    have h2:=hp.length_eq
    simp at h1 h2 ⊢
    omega
   obtain ⟨fn,tmps,assign,body,hy,hR⟩:=hY _ k _ hJ2 hlen
   clear hs2
   simp only [kI] at hen hy
   gi_wp2
   refine hR.mono ?_
   rintro e W3 ⟨rfl,hJ4,hk4⟩
   gi_wp2
   have hrg4:=hrg2.of_walks hk4
   go_roundw
   case rel=>exact ⟨left',ps++[(k,v)],hrg4,by rw [List.append_assoc]; exact ((hp.symm).append_left ps).trans hP,by simpa using hJ4⟩
   case measure=>rw [hrg4.left_len,hrg.left_len]; have:=hp.length_eq; simp at this; omega
theorem keys_givesO (F:Fence) (n:Nat) (hf:F.fn 132) (hro:F.round=none) (hn:1≤n) (Bm b:Nat) (m:List (Int × Od)) (w:World) (hBm:Bm < w.heap.size)
  (hm:w.cell? ⟨Bm,0,none⟩=some (.map (some b))) (hM:IsMap w b kI enO m) :
  SeqGives F n Tryz.prog 132 #[.pointer (some ⟨Bm,0,none⟩)] kI (fun xs=>xs.Perm (m.map (·.1))) m.length w:=fun l J W hW hJ hY h0 =>
 keys1_inO F n hf hro hn l Bm b m J hY W hJ ((hW.cell (p:=⟨Bm,0,none⟩) hBm).trans hm) (hM.next hW) h0
set_option maxHeartbeats 1000000 in
theorem keysCall_inO (F:Fence) (n:Nat) (hf:F.fn 92) (hro:F.round=none) (mb:Option Nat) (w:World) :
  CallsIn F n Tryz.prog 92 #[.map mb] w fun e w'=>e = .returned (.func (.func 132) #[] #[.pointer (some ⟨w.heap.size,0,none⟩)])∧w'=w.alloc (.cells #[.map mb] 182):=by
 refine callsIn_of_wp Tryz.func92 rfl hf ?_ hro
 simp only [Tryz.ntmps92,List.size_toArray,List.length_cons,List.length_nil,Nat.reduceAdd,Nat.reduceSub,Array.replicate_succ,Array.replicate_zero,List.push_toArray,List.append_toArray,List.nil_append,List.cons_append]
 gi_wp2
 go_ret
 exact ⟨rfl,rfl⟩
set_option maxRecDepth 100000 in
set_option maxHeartbeats 2000000 in
theorem sortedKeysO (w:World) (Bm b:Nat) (m:List (Int × Od)) (hm:m.length * 8≤140737488351232) (hBm:Bm < w.heap.size) (hc:w.cell? ⟨Bm,0,none⟩=some (.map (some b))) (hM:IsMap w b kI enO m) :
  Calls Tryz.prog 39 #[.func (.func 132) #[] #[.pointer (some ⟨Bm,0,none⟩)]] w fun e w' =>
   ∃ (v:Value) (ss:List Int),e = .returned v∧ss.Perm (m.map (·.1))∧w'.ownsRow w.heap.size 3 1 v ss.length ((srt ss).map kI)∧Below w.heap.size w w':=by
 refine (callsIn_wide (n:=5)).1 ?_
 have hseq:SeqGives Fence.wide 2 Tryz.prog 132 #[.pointer (some ⟨Bm,0,none⟩)] kI (fun xs=>xs.Perm (m.map (·.1))) m.length w:=keys_givesO Fence.wide 2 trivial rfl (by omega) Bm b m w hBm hc hM
 have cS:=AnyZI.sorted_in Tryz.sortedI Fence.wide 5 trivial trivial trivial trivial rfl (by omega) (sortsI _) (enters_of Tryz.func82 (by kernel_rfl) rfl) 132 #[.pointer (some ⟨Bm,0,none⟩)] trivial (enters_of Tryz.func132 (by kernel_rfl) rfl) _ m.length (by unfold maxLen; omega) (by omega) w hseq
 exact cS.mono fun e w' ⟨v,ss,h1,h2,h3,_,h5⟩=>⟨v,ss,h1,h2,h3,h5⟩
end Go.Proofs.YtakaalldbnklcaaGreat.Or
