/-
  The book of money: WriteOff, Memo, Refund, Dun, Open, Get, Balance.
  The ledger: Sums, Balance.
  The book of money: Refund, Dun, Get, Balance.
  Money of orders: sums over all customers; a book with one order; wakes.
  The book of money: All.
  The document's book of money: Find, OpenOf, Put (its loop is printed by gen_chr.py).
  The desk's five books and the document's, side by side: which blocks each may write, and that each stays where another one's are written.
-/
import Derived.Test.YtakaalldbnklcaaGreatQd2
import Derived.Test.YtakaalldbnklcaaGreatQd4
import Derived.Test.YtakaalldbnklcaaGreatQd6
import Derived.Test.YtakaalldbnklcaaGreatQd8
import Derived.Test.YtakaalldbnklcaaGreatQd9
import Derived.Test.YtakaalldbnklcaaGreatQd10
import Derived.Test.YtakaalldbnklcaaGreatQd11
import Derived.Test.YtakaalldbnklcaaGreatQd14
import Derived.Test.YtakaalldbnklcaaGreatQd15
import Derived.Laws.Tables
import Derived.Shelf.SlSortCmp.NoneTotal
import Derived.Deep.RegionHeldLaw
import Derived.Deep.RegionLaw
import Derived.Deep.AppendLies
namespace Go.Proofs.YtakaalldbnklcaaGreat.Mo
open Go.RowKit Go.WideShapes Go.ChangeShapes Go.ChangeAt Go.Deep
set_option linter.unusedVariables false
theorem _root_.Go.Proofs.YtakaalldbnklcaaGreat.Blk.setRow {w:World} {g:Nat} {t:TypeId} {cs:Array Value} (h:Blk w g t cs) (vs:Array Value):Blk (w.setRow g vs) g t vs:=by
 unfold Blk World.setRow at *
 simp [Array.getElem?_modify,h]
theorem _root_.Go.Proofs.YtakaalldbnklcaaGreat.Touch.setRow (w:World) (g:Nat) (vs:Array Value):Touch (· = g) w (w.setRow g vs):=by
 refine ⟨rfl,rfl,rfl, ?_,fun k hk hn => ?_⟩
 ·unfold World.setRow; simp
 ·unfold World.setRow
  simp only [Array.getElem?_modify]
  rw [if_neg (fun e=>hn e.symm)]
theorem cfind_none {ac:List (Int × CP)} {o:Int}:cfind ac o=none ↔ mget ac o=none:=by
 unfold cfind
 cases mget ac o <;> simp
theorem cfind_some {ac:List (Int × CP)} {o:Int} {a:Ca}:cfind ac o=some a ↔ ∃ g,mget ac o=some ⟨g,a⟩:=by
 unfold cfind
 cases h:mget ac o with
 | none=>simp
 | some q =>
  obtain ⟨g,b⟩:=q
  simp
theorem acOf_some {F:Int→Option Ca} {o c:Int} {a:Ca} (h:F o=some a):acOf F o c=a:=by unfold acOf; rw [h]; rfl
theorem addF_move0 (f:Fn) (c ta fr:Int):addF f c (moveE ta fr 0)=f:=by
 funext p
 rw [addF_apply]
 simp [moveE]
theorem addF_moves (f:Fn) (c ta fr a b:Int):addF (addF f c (moveE ta fr a)) c (moveE ta fr b)=addF f c (moveE ta fr (a + b)):=by
 funext p
 rw [addF_apply,addF_apply,addF_apply]
 simp only [moveE,List.map_cons,List.map_nil,List.sum_cons,List.sum_nil]
 split <;> split <;> omega
section
variable {n0:Nat} {w w':World} {X XL BL BA:Nat} {ac:List (Int × CP)} {f f':Fn} {d d':Int}
set_option maxRecDepth 100000 in
set_option maxHeartbeats 8000000 in
theorem cmem_any (h:IsC n0 w X XL BL BA ac d) (o:Int) :
    Calls Tryz.prog 177 #[.pointer (some ⟨X,0,none⟩),.int .i64 o] w fun e w'=>e = .returned (.int .i64 (memR (cfind ac) d o).code)∧PostC n0 X XL BL BA ac o (memR (cfind ac) d o) w w':=by
  unfold memR
  cases hm:cfind ac o with
  | none =>
    have K:=hid (find_none h.bk o (cfind_none.1 hm))
    have H:=hid h
    clear h hm
    go_enter Tryz.func177,Tryz.ntmps177
    go_wp2_with fail
    refine K.out.mono ?_
    rintro e w1 ⟨rfl,rfl⟩
    go_wp2_with fail
    go_ret
    exact ⟨rfl,PostC.same H.out (Below.refl _ _)⟩
  | some a =>
    obtain ⟨g,hg⟩:=cfind_some.1 hm
    have K:=hid (find_some h.bk o _ hg)
    have hB:=h.bk.at_ hg
    have hfit:=(h.gd.of o 0 hm).1
    have hao:=(h.gd.of o 0 hm).2.1
    have hwt:=(h.gd.of o 0 hm).2.2
    simp only at K hB ⊢
    have H:=hid h
    have HB:=hid hB
    have HM:=hid (And.intro hm hg)
    have HF:=hid (And.intro hfit (And.intro hao (And.intro hwt h.gd.tot)))
    have lg:=hB.lt
    by_cases hs:a.st=1
    · rw [if_neg (fun e=>e hs)]
      have c2:w.cell? ⟨g,2,none⟩=some (.int .i64 1):=by have:=hB.cell 2; rw [show (celC a)[2]?=some (.int .i64 a.st) from rfl,hs] at this; exact this
      obtain ⟨C,hCd⟩:∃ C:World→Prop,∀ w',C w' ↔ Below w.heap.size w w':=⟨_,fun _=>Iff.rfl⟩
      have hC:C w.drew:=(hCd _).2 ((Below.refl _ _).drew)
      have q4:∀ p:In C,p.w.cell? ⟨g,4,none⟩=some (.int .i64 a.net):=fun p=>(HB.out.next ((hCd _).1 p.h)).cell 4
      have q5:∀ p:In C,p.w.cell? ⟨g,5,none⟩=some (.int .i64 a.tax):=fun p=>(HB.out.next ((hCd _).1 p.h)).cell 5
      have wnt:IntKind.i64.wrap (a.net + a.tax)=a.net + a.tax:=IntWalk.i64_in _ ⟨by have:=hfit.n0; have:=hfit.t0; omega,by have:=hfit.n1; have:=hfit.t1; omega⟩
      have HR0:∀ p:In C,Calls Tryz.prog 71 #[.pointer (some ⟨X,0,none⟩),.int .i64 (a.net + a.tax)] p.w fun e w'=>e = .returned (.int .i64 (roomR d (a.net + a.tax)))∧C w':=fun p=>(room_any (H.out.bk.next ((hCd _).1 p.h)) (a.net + a.tax) (by have:=hfit.n0; have:=hfit.t0; omega) (by have:=hfit.n1; have:=hfit.t1; omega)).mono fun e w' ⟨h1,h2⟩=>⟨h1,(hCd _).2 (bthen ((hCd _).1 p.h) h2)⟩
      have HCd:=hid hCd
      have HS:=hid hs
      clear h hm hg hB hfit hao hwt hCd hs
      by_cases hr:576460752303423488 - (a.net + a.tax) < d
      · rw [if_pos hr]
        rw [roomR_many hr] at HR0
        clear hr
        go_enter Tryz.func177,Tryz.ntmps177
        go_wp2_with fail
        refine K.out.mono ?_
        rintro e w1 ⟨rfl,rfl⟩
        go_wp2_with fail
        refine wp_region_in C (by kernel_rfl) (by kernel_rfl) hC ?_
        intro hne
        clear hC c2
        repeat (first | go_big_quiet_step (fail) | quiet_step (exact Calls.in_of (HR0 _)))
        refine wpQuiet_nil ?_
        intro w4 hq
        have HB1:=hid ((HCd.out _).1 hq)
        clear q4 q5 HR0 hne hq HCd wnt
        go_wp2_with fail
        go_ret
        exact ⟨rfl,PostC.same H.out HB1.out⟩
      · rw [if_neg hr]
        have HR:=hid hr
        rw [roomR_zero (by omega)] at HR0
        clear hr
        go_enter Tryz.func177,Tryz.ntmps177
        go_wp2_with fail
        refine K.out.mono ?_
        rintro e w1 ⟨rfl,rfl⟩
        go_wp2_with fail
        refine wp_region_in C (by kernel_rfl) (by kernel_rfl) hC ?_
        intro hne
        clear hC c2
        repeat (first | go_big_quiet_step (fail) | quiet_step (exact Calls.in_of (HR0 _)))
        refine wpQuiet_nil ?_
        intro w4 hq
        have HB1:=hid ((HCd.out _).1 hq)
        clear q4 q5 HR0 hne hq HCd wnt
        have hB4:=HB.out.next HB1.out
        have h4:=H.out.bk.next HB1.out
        have c1:w4.cell? ⟨g,4,none⟩=some (.int .i64 a.net)∧w4.cell? ⟨g,5,none⟩=some (.int .i64 a.tax)∧w4.cell? ⟨g,6,none⟩=some (.int .i64 a.ap)∧w4.cell? ⟨g,7,none⟩=some (.int .i64 a.wr):=⟨hB4.cell 4,hB4.cell 5,hB4.cell 6,hB4.cell 7⟩
        have lg4:=hB4.lt
        have HT5:=hid (Touch.of_below (S:=fun k=>Ch.Own XL BL BA ac k∨k=g) HB1.out)
        have H5:=hid (And.intro h4 hB4)
        clear hB4 h4 lg HB1
        go_wp2_with fail
        go_region_held3 (fun w'=>w'.cell? ⟨g,4,none⟩=some (.int .i64 a.net)∧w'.cell? ⟨g,5,none⟩=some (.int .i64 a.tax)∧w'.cell? ⟨g,6,none⟩=some (.int .i64 a.ap)∧w'.cell? ⟨g,7,none⟩=some (.int .i64 a.wr)) (first | exact c1 | exact c6 | exact c7)
          (first
            | (go_at_call 225; refine (memo_any a.net a.tax a.ap a.wr _).mono ?_; rintro e w6 ⟨A',cap,rfl,hR,hlo,hb6⟩
               have b1:=HF.out.1.n0
               have b2:=HF.out.1.n1
               have b3:=HF.out.1.t0
               have b4:=HF.out.1.t1
               have b5:=HF.out.1.p0
               have b6:=HF.out.1.p1
               have b7:=HF.out.1.w0
               have b8:=HF.out.1.w1
               rw [memoL_eq ⟨b1,by omega⟩ ⟨b3,by omega⟩ ⟨b5,by omega⟩ ⟨b7,by omega⟩] at hR
               rw [memoL_eq ⟨b1,by omega⟩ ⟨b3,by omega⟩ ⟨b5,by omega⟩ ⟨b7,by omega⟩]
               have hb46:Below w4.heap.size w4 w6:=(below_drewN (Below.refl _ _) _).trans (hb6.mono (by simp))
               have h6:=H5.out.1.next hb46
               have hB6:=H5.out.2.next hb46
               have c6:w6.cell? ⟨g,4,none⟩=some (.int .i64 a.net)∧w6.cell? ⟨g,5,none⟩=some (.int .i64 a.tax)∧w6.cell? ⟨g,6,none⟩=some (.int .i64 a.ap)∧w6.cell? ⟨g,7,none⟩=some (.int .i64 a.wr):=⟨hB6.cell 4,hB6.cell 5,hB6.cell 6,hB6.cell 7⟩
               have K:=cpost_any h6 g a hB6 (memE a.net a.tax a.ap a.wr) (memE_ok ⟨HF.out.1.c1,HF.out.1.c2⟩ ⟨b1,b2⟩ ⟨b3,b4⟩ b5 b7 (by omega) (by have:=HR.out; omega)) A' cap hR (fun b hb=>H5.out.1.not_xb (hlo b hb))
               rw [memE_debs b1 b3 b5 b7 (by omega)] at K
               replace K:=hid K
               have H6:=hid (And.intro h6 hB6)
               have HT6:=hid (HT5.out.then (.of_below hb46))
               clear hR hlo hb6 h6 hB6 hb46 b1 b2 b3 b4 b5 b6 b7 b8)
            | (go_at_call 72; refine K.out.mono ?_; rintro e w7 ⟨rfl,hL,hT7⟩
               have hB7:=(H6.out.1.ledger hL hT7).at_ HM.out.2
               simp only at hB7
               have c7:w7.cell? ⟨g,4,none⟩=some (.int .i64 a.net)∧w7.cell? ⟨g,5,none⟩=some (.int .i64 a.tax)∧w7.cell? ⟨g,6,none⟩=some (.int .i64 a.ap)∧w7.cell? ⟨g,7,none⟩=some (.int .i64 a.wr):=⟨hB7.cell 4,hB7.cell 5,hB7.cell 6,hB7.cell 7⟩
               have HL:=hid (And.intro hL hT7)
               clear hB7 hL hT7))
        obtain ⟨hL,hT7⟩:=HL.out
        have h7:=H6.out.1.ledger hL hT7
        have hb7:Below w7.heap.size w7 w7.drew:=below_drewN (Below.refl _ _) 1
        have h7d:=h7.next hb7
        have hB7:=h7d.at_ HM.out.2
        simp only at hB7
        have HT7:=hid ((HT6.out.then (hT7.mono (fun k hk=>(.inl (Ch.xb_own hk):Ch.Own XL BL BA ac k∨k=g)))).then (.of_below hb7))
        obtain ⟨w8,hw8⟩:∃ w8,w8=w7.drew:=⟨_,rfl⟩
        rw [← hw8] at h7d hB7 HT7
        obtain ⟨C,hCd⟩:∃ C:World→Prop,∀ w',C w' ↔ w'=w8:=⟨_,fun _=>Iff.rfl⟩
        have hC:C w7.drew:=(hCd _).2 hw8.symm
        have q6:∀ p:In C,p.w.cell? ⟨g,6,none⟩=some (.int .i64 a.ap):=fun p=>by rw [(hCd _).1 p.h]; exact hB7.cell 6
        have q8:∀ p:In C,p.w.cell? ⟨g,8,none⟩=some (.int .i64 a.dep):=fun p=>by rw [(hCd _).1 p.h]; exact hB7.cell 8
        have wda:IntKind.i64.wrap (a.dep + a.ap)=a.dep + a.ap:=IntWalk.i64_in _ ⟨by have:=HF.out.1.d0; have:=HF.out.1.p0; omega,by have:=HF.out.1.d1; have:=HF.out.1.p1; have:=HF.out.1.n1; have:=HF.out.1.t1; omega⟩
        have HCd:=hid hCd
        have H8:=hid (And.intro h7d hB7)
        have f8:=hB7.free 8
        have f2:=hB7.free 2
        have f6:=hB7.free 6
        have f7:=hB7.free 7
        have e8:w8.cell? ⟨g,8,none⟩=some (.int .i64 a.dep):=hB7.cell 8
        have e2:w8.cell? ⟨g,2,none⟩=some (.int .i64 a.st):=hB7.cell 2
        have e6:w8.cell? ⟨g,6,none⟩=some (.int .i64 a.ap):=hB7.cell 6
        have e7:w8.cell? ⟨g,7,none⟩=some (.int .i64 a.wr):=hB7.cell 7
        have lg:=hB7.lt
        clear K H6 HT6 hL hT7 h7 h7d hB7 hb7 hw8 hCd HL c1 c6 c7 lg4 H5 HT5
        go_wp2_with fail
        refine wp_region_in_tail C 11 (by kernel_rfl) (by kernel_rfl) hC ?_
        intro hne
        clear hC
        refine wpIn_quiet ?_
        simp only [List.take_succ_cons,List.take_zero,List.drop_succ_cons,List.drop_zero]
        repeat (first | go_big_quiet_step (fail) | quiet_step (fail))
        refine wpQuiet_nil ?_
        intro wp hwp
        obtain rfl:=(HCd.out _).1 hwp
        clear q6 q8 hne hwp HCd
        go_wp2_with fail
        have hN:=mem_next (c:=a.c) (d:=d) HF.out.1 HS.out (by have:=HF.out.1.n0; have:=HF.out.1.t0; have:=HF.out.1.w0; have h1:=HF.out.2.2.1; have h2:=HF.out.2.2.2; have:=HR.out; unfold wt at h1; rw [if_pos HS.out] at h1; omega)
        have hB9:Blk ((((wp.setCell ⟨g,8,none⟩ (.int .i64 (a.dep + a.ap))).setCell ⟨g,2,none⟩ (.int .i64 2)).setCell ⟨g,6,none⟩ (.int .i64 0)).setCell ⟨g,7,none⟩ (.int .i64 0)) g 162 (celC (memB a)):=(((H8.out.2.set_ 8 (.int .i64 (a.dep + a.ap))).set_ 2 (.int .i64 2)).set_ 6 (.int .i64 0)).set_ 7 (.int .i64 0)
        have hT9:=(((Touch.setCell wp g 8 (.int .i64 (a.dep + a.ap))).then (Touch.setCell _ g 2 (.int .i64 2))).then (Touch.setCell _ g 6 (.int .i64 0))).then (Touch.setCell _ g 7 (.int .i64 0))
        have h9:=H8.out.1.put (o:=o) (p:=⟨g,a⟩) (a':=memB a) HM.out.2 hB9 hT9
        go_ret
        have e:acOf (cfind ac) o a.c=a:=acOf_some HM.out.1
        exact ⟨rfl,PostC.put H.out (.inr (.inr (.inr ⟨_,mget_mem HM.out.2,rfl⟩)) |> .inl) (by rw [e]) (by rw [e]; exact HF.out.2.1) (by rw [e]; exact hN) (by have:=HR.out; have:=HF.out.1.n0; have:=HF.out.1.t0; omega) h9 (HT7.out.then (hT9.mono (fun k hk => .inr hk)))⟩
    · rw [if_pos (fun e=>hs e)]
      have c2:w.cell? ⟨g,2,none⟩=some (.int .i64 a.st):=hB.cell 2
      have t1:(a.st != 1)=true:=by simpa using hs
      clear h hm hg hB hfit hao hwt hs
      go_enter Tryz.func177,Tryz.ntmps177
      go_wp2_with fail
      refine K.out.mono ?_
      rintro e w1 ⟨rfl,rfl⟩
      go_wp2_with fail
      go_ret
      exact ⟨rfl,PostC.same H.out (Below.refl _ _)⟩
end
end Go.Proofs.YtakaalldbnklcaaGreat.Mo
namespace Go.Proofs.YtakaalldbnklcaaGreat.Mo
open Go.RowKit Go.WideShapes Go.ChangeShapes Go.ChangeAt Go.Deep
set_option linter.unusedVariables false
end Go.Proofs.YtakaalldbnklcaaGreat.Mo
namespace Go.Proofs.YtakaalldbnklcaaGreat.Mo
open Go.RowKit Go.WideShapes Go.ChangeShapes Go.ChangeAt Go.Deep
set_option linter.unusedVariables false
section
variable {n0:Nat} {w w':World} {X XL BL BA:Nat} {ac:List (Int × CP)} {f f':Fn} {d d':Int}
def intC (v:Value):Nat:=match v with | .int _ n=>n.toNat | _=>0
set_option maxRecDepth 100000 in
set_option maxHeartbeats 8000000 in
theorem cref_any (h:IsC n0 w X XL BL BA ac d) (o:Int) :
  Calls Tryz.prog 178 #[.pointer (some ⟨X,0,none⟩),.int .i64 o] w fun e w'=>e = .returned (.tuple #[.int .i64 (refR (cfind ac) d o).1,.int .i64 (refR (cfind ac) d o).2.code])∧PostC n0 X XL BL BA ac o (refR (cfind ac) d o).2 w w':=by
 unfold refR
 cases hm:cfind ac o with
 | none =>
  have K:=hid (find_none h.bk o (cfind_none.1 hm))
  have H:=hid h
  clear h hm
  go_enter Tryz.func178,Tryz.ntmps178
  go_wp2_with fail
  refine K.out.mono ?_
  rintro e w1 ⟨rfl,rfl⟩
  go_wp2_with fail
  go_ret2
  exact ⟨rfl,PostC.same H.out (Below.refl _ _)⟩
 | some a =>
  obtain ⟨g,hg⟩:=cfind_some.1 hm
  have K:=hid (find_some h.bk o _ hg)
  have hB:=h.bk.at_ hg
  have hfit:=(h.gd.of o 0 hm).1
  have hao:=(h.gd.of o 0 hm).2.1
  have hwt:=(h.gd.of o 0 hm).2.2
  simp only at K hB ⊢
  have H:=hid h
  have HB:=hid hB
  have HM:=hid (And.intro hm hg)
  have HF:=hid (And.intro hfit (And.intro hao hwt))
  have lg:=hB.lt
  have e8:w.cell? ⟨g,8,none⟩=some (.int .i64 a.dep):=hB.cell 8
  have R:=room_any h.bk a.dep (by have:=hfit.d0; omega) (by have:=hfit.d1; omega)
  by_cases hr:576460752303423488 - a.dep < d
  ·rw [if_pos hr]
   rw [roomR_many hr] at R
   replace R:=hid R
   clear h hm hg hB hfit hao hwt hr
   go_enter Tryz.func178,Tryz.ntmps178
   go_wp2_with fail
   refine K.out.mono ?_
   rintro e w1 ⟨rfl,rfl⟩
   go_wp2_with fail
   refine R.out.mono ?_
   rintro e w2 ⟨rfl,hb⟩
   clear e8
   go_wp2_with fail
   go_ret2
   exact ⟨rfl,PostC.same H.out hb⟩
  ·rw [if_neg hr]
   rw [roomR_zero hr] at R
   replace R:=hid R
   have HR:=hid hr
   clear h hm hg hB hfit hao hwt hr
   go_enter Tryz.func178,Tryz.ntmps178
   go_wp2_with fail
   refine K.out.mono ?_
   rintro e w1 ⟨rfl,rfl⟩
   go_wp2_with fail
   refine R.out.mono ?_
   rintro e w2 ⟨rfl,hb⟩
   have hB2:=HB.out.next hb
   have e8:w2.cell? ⟨g,8,none⟩=some (.int .i64 a.dep):=hB2.cell 8
   have f8:=hB2.free 8
   have lg2:=hB2.lt
   have HB2:=hid (And.intro hb hB2)
   clear hB2 hb lg R K
   go_wp2_with fail
   have hB5:Blk (w2.setCell ⟨g,8,none⟩ (.int .i64 0)) g 162 (celC (refB a)):=HB2.out.2.set_ 8 (.int .i64 0)
   have hT5:=Touch.setCell w2 g 8 (.int .i64 0)
   have h5:=(H.out.bk.next HB2.out.1).put (o:=o) (p:=⟨g,a⟩) (a':=refB a) HM.out.2 hB5 hT5
   have HT5:=(Touch.of_below (S:=fun k=>Ch.Own XL BL BA ac k∨k=g) HB2.out.1).then (hT5.mono (fun k hk => .inr hk))
   clear hB5 hT5 HB2 lg2 e8 f8
   generalize w2.setCell ⟨g,8,none⟩ (.int .i64 0)=w5 at h5 HT5 ⊢
   have hn0:0≤a.dep:=HF.out.1.d0
   have hn1:a.dep≤576460752303423488:=HF.out.1.d1
   obtain ⟨n,hn⟩:∃ n,n=a.dep:=⟨_,rfl⟩
   rw [← hn] at hn0 hn1 ⊢
   have HN:=hid hn
   have HRN:=HR.out
   rw [← hn] at HRN
   have HRN:=hid HRN
   clear hn
   go_loopw [9] (fun v wr=>∃ L:Int,0≤L∧L≤n∧v = .int .i64 L∧IsCash n0 wr X XL BL BA (mset ac o ⟨g,refB a⟩) (addF (ledC ac) a.c (moveE 4 0 (n - L))) (d + (n - L))∧Touch (fun k=>Ch.Own XL BL BA ac k∨k=g) w wr) (fun v _=>intC v)
   case atStart =>
    refine ⟨n,hn0,Int.le_refl _,rfl, ?_,HT5⟩
    rw [Int.sub_self,addF_move0,Int.add_zero]
    exact h5
   case round =>
    clear h5 HT5
    obtain ⟨L,hL0,hL1,rfl,hI,hT⟩:=hrel
    by_cases hlt:0 < L
    ·have t1:decide (0 < L)=true:=decide_eq_true hlt
     have HI:=hid (And.intro hI hT)
     clear hI hT
     go_wp2_with fail
     all_goals
      refine (refund_any _ _).mono ?_
      rintro e w6 ⟨A',cap,rfl,hR,hlo,hb6⟩
      rw [moveL_eq ⟨by omega,by omega⟩] at hR ⊢
      have h6:=HI.out.1.next hb6
      have K:=cpost_any h6 g (refB a) (h6.at_ (o:=o) (p:=⟨g,refB a⟩) (by rw [mget_mset,if_pos rfl])) _ (moveE_ok ⟨HF.out.1.c1,HF.out.1.c2⟩ ⟨by omega,by omega⟩ (by omega) (by omega) (by have:=HRN.out; omega)) A' cap hR (fun b hb=>HI.out.1.not_xb (hlo b hb))
      rw [moveE_debs (by omega),show (refB a).c=a.c from rfl,addF_moves] at K
      replace K:=hid K
      have H6:=hid (And.intro h6 (HI.out.2.then (.of_below hb6)))
      clear hR hlo hb6 h6 HI
      go_wp2_with fail
      refine K.out.mono ?_
      rintro e w7 ⟨rfl,hL,hT7⟩
      have h7:=hid (And.intro (H6.out.1.ledger hL hT7) (H6.out.2.then (hT7.mono (fun k hk=>(.inl (Ch.xb_own hk):Ch.Own XL BL BA ac k∨k=g)))))
      clear K H6 hL hT7
      go_wp2_with fail
      all_goals
       first
        | (exfalso; omega)
        | skip
      go_roundw
      case rel =>
       refine ⟨_, ?_, ?_,rfl, ?_,h7.out.2⟩
       ·omega
       ·omega
       ·rw [show n - (L - min L 1125899906842624)=n - L + min L 1125899906842624 from by omega,show d + (n - L + min L 1125899906842624)=d + (n - L) + min L 1125899906842624 from by omega]
        exact h7.out.1
      case measure=>simp [intC]; omega
    ·have t1:decide (0 < L)=false:=decide_eq_false hlt
     have hLz:L=0:=by omega
     subst hLz
     rw [Int.sub_zero] at hI
     have HI:=hid (And.intro hI hT)
     clear hI hT hlt
     go_wp2_with fail
     go_ret2
     have e:acOf (cfind ac) o a.c=a:=acOf_some HM.out.1
     have hN:=ref_next (c:=a.c) (d:=d) HF.out.1
     rw [← HN.out] at hN
     rw [← HN.out]
     exact ⟨rfl,PostC.put H.out (.inr (.inr (.inr ⟨_,mget_mem HM.out.2,rfl⟩)) |> .inl) (by rw [e]) (by rw [e]; exact HF.out.2.1) (by rw [e]; exact hN) (by have:=HRN.out; omega) HI.out.1 HI.out.2⟩
end
end Go.Proofs.YtakaalldbnklcaaGreat.Mo
namespace Go.Proofs.YtakaalldbnklcaaGreat.Mo
open Go.RowKit Go.WideShapes Go.ChangeShapes Go.ChangeAt Go.Deep
set_option linter.unusedVariables false
theorem isC_new {n0:Nat} {w:World} {X XL BL BA:Nat} (h:IsCash n0 w X XL BL BA [] f0 0):IsC n0 w X XL BL BA [] 0 :=
 ⟨h,⟨fun q hq=>(by cases hq),by simp [wts,sumM],by omega⟩⟩
section
variable {n0:Nat} {w w':World} {X XL BL BA:Nat} {ac:List (Int × CP)} {d:Int}
end
structure WC (w0:World) (n0:Nat) (X XL BL BA:Nat) (ac:List (Int × CP)) (d:Int) (w:World):Prop where
 c:IsC n0 w X XL BL BA ac d
 low:w0.heap.size≤n0∧n0≤w.heap.size
 bel:Below w0.heap.size w0 w
section
variable {w0 w w':World} {n0:Nat} {X XL BL BA:Nat} {ac:List (Int × CP)} {d:Int}
end
def F1 (a:Ca):Int→Option Ca:=fun o'=>if o'=1 then some a else none
end Go.Proofs.YtakaalldbnklcaaGreat.Mo
namespace Go.Proofs.YtakaalldbnklcaaGreat.Mo
open Go.RowKit Go.Maps Go.Sort Go.ChangeShapes Go.WideShapes Go.ChangeAt Go.Deep
set_option linter.unusedVariables false
def enC9 (a:Ca):List Value:=(celC a).toList
theorem enC9_len (a:Ca):(enC9 a).length=9:=rfl
theorem enC9_one (a:Ca):∀ v ∈ enC9 a,v.oneCell'=true:=by
 intro v hv
 simp only [enC9,celC,List.mem_cons,List.not_mem_nil,or_false] at hv
 rcases hv with rfl | rfl | rfl | rfl | rfl | rfl | rfl | rfl | rfl <;> rfl
theorem info_ca:(Tryz.prog.info? 162).map (fun i=>(i.zero,i.size,i.bytes))=some (some (.agg #[.int .i64 0,.int .i64 0,.int .i64 0,.int .i64 0,.int .i64 0,.int .i64 0,.int .i64 0,.int .i64 0,.int .i64 0]),9,72):=by kernel_rfl
def cfC (x y:Ca):Int:=cmpI x.o y.o
def ltC (x y:Ca):Bool:=decide (cfC x y < 0)
theorem ltC_iff (x y:Ca):ltC x y=true ↔ x.o < y.o:=by
 unfold ltC cfC cmpI
 rw [decide_eq_true_eq]
 split
 ·simp_all
 ·split <;> simp_all <;> omega
theorem ltC_no {x y:Ca} (h:ltC x y=false):¬ x.o < y.o:=fun e=>by rw [(ltC_iff x y).2 e] at h; cases h
theorem swoC:Sort.SWO ltC where
 irrefl a:=by
  cases h:ltC a a with
  | false=>rfl
  | true=>have:=(ltC_iff a a).1 h; omega
 trans x y z h g:=by rw [ltC_iff] at *; omega
 ntrans x y z h1 h2:=by
  cases h:ltC x z with
  | false=>rfl
  | true =>
   have h':=(ltC_iff x z).1 h
   have a:=ltC_no h1
   have b:=ltC_no h2
   omega
set_option maxRecDepth 100000 in
set_option maxHeartbeats 4000000 in
theorem corder_any (x y:Ca) (w:World):Calls Tryz.prog 91 #[.agg (celC x),.agg (celC y)] w fun e w'=>e = .returned (.int .i64 (cfC x y))∧Grew w w':=by
 obtain ⟨xo,xc,xst,xlv,xnet,xtax,xap,xwr,xdep⟩:=x
 obtain ⟨yo,yc,yst,ylv,ynet,ytax,yap,ywr,ydep⟩:=y
 simp only [celC]
 have b1:Blk ((w.alloc (.cells #[.int .i64 xo,.int .i64 xc,.int .i64 xst,.int .i64 xlv,.int .i64 xnet,.int .i64 xtax,.int .i64 xap,.int .i64 xwr,.int .i64 xdep] 162)).alloc (.cells #[.int .i64 yo,.int .i64 yc,.int .i64 yst,.int .i64 ylv,.int .i64 ynet,.int .i64 ytax,.int .i64 yap,.int .i64 ywr,.int .i64 ydep] 162)) w.heap.size 162 #[.int .i64 xo,.int .i64 xc,.int .i64 xst,.int .i64 xlv,.int .i64 xnet,.int .i64 xtax,.int .i64 xap,.int .i64 xwr,.int .i64 xdep]:=(Blk.new _ _ _).alloc _
 have b2:Blk ((w.alloc (.cells #[.int .i64 xo,.int .i64 xc,.int .i64 xst,.int .i64 xlv,.int .i64 xnet,.int .i64 xtax,.int .i64 xap,.int .i64 xwr,.int .i64 xdep] 162)).alloc (.cells #[.int .i64 yo,.int .i64 yc,.int .i64 yst,.int .i64 ylv,.int .i64 ynet,.int .i64 ytax,.int .i64 yap,.int .i64 ywr,.int .i64 ydep] 162)) (w.heap.size + 1) 162 #[.int .i64 yo,.int .i64 yc,.int .i64 yst,.int .i64 ylv,.int .i64 ynet,.int .i64 ytax,.int .i64 yap,.int .i64 ywr,.int .i64 ydep]:=by
  have:=Blk.new (w.alloc (.cells #[.int .i64 xo,.int .i64 xc,.int .i64 xst,.int .i64 xlv,.int .i64 xnet,.int .i64 xtax,.int .i64 xap,.int .i64 xwr,.int .i64 xdep] 162)) 162 #[.int .i64 yo,.int .i64 yc,.int .i64 yst,.int .i64 ylv,.int .i64 ynet,.int .i64 ytax,.int .i64 yap,.int .i64 ywr,.int .i64 ydep]
  rw [World.size_alloc] at this
  exact this
 have hg:Grew w ((w.alloc (.cells #[.int .i64 xo,.int .i64 xc,.int .i64 xst,.int .i64 xlv,.int .i64 xnet,.int .i64 xtax,.int .i64 xap,.int .i64 xwr,.int .i64 xdep] 162)).alloc (.cells #[.int .i64 yo,.int .i64 yc,.int .i64 yst,.int .i64 ylv,.int .i64 ynet,.int .i64 ytax,.int .i64 yap,.int .i64 ywr,.int .i64 ydep] 162)):=((Grew.refl w).alloc _).alloc _
 have B1:=hid b1
 have B2:=hid b2
 clear b1 b2
 go_enter Tryz.func91,Tryz.ntmps91
 go_wp2_with fail
 obtain ⟨W,hW⟩:∃ W,W=((w.alloc (.cells #[.int .i64 xo,.int .i64 xc,.int .i64 xst,.int .i64 xlv,.int .i64 xnet,.int .i64 xtax,.int .i64 xap,.int .i64 xwr,.int .i64 xdep] 162)).alloc (.cells #[.int .i64 yo,.int .i64 yc,.int .i64 yst,.int .i64 ylv,.int .i64 ynet,.int .i64 ytax,.int .i64 yap,.int .i64 ywr,.int .i64 ydep] 162)):=⟨_,rfl⟩
 replace B1:=B1.out
 replace B2:=B2.out
 rw [← hW] at B1 B2 hg ⊢
 obtain ⟨G,hG⟩:∃ G,G=w.heap.size:=⟨_,rfl⟩
 rw [← hG] at B1 B2 ⊢
 clear hW hG
 have p0:W.cell? ⟨G,0,none⟩=some (.int .i64 xo):=B1.cell 0
 have p3:W.cell? ⟨G + 1,0,none⟩=some (.int .i64 yo):=B2.cell 0
 clear B1 B2
 go_wp2_with (first | (go_at_call 38; refine (compare_any _ _ _).mono ?_; rintro e w5 ⟨rfl,rfl⟩))
 go_ret
 exact ⟨rfl,hg⟩
theorem sortsCa:SortsAt Tryz.prog 90 (.func (.func 91) #[] #[]) enC9 9 ltC:=by
 refine ⟨fun blk off cap d w hH hb hsz => ?_,fun p cap w => ?_⟩
 ·have eg:∀ args w,(callFunc 91 args).run Tryz.prog w = .ok (.enter 91 args) w:=enters_of Tryz.func91 (by kernel_rfl) rfl
  exact AnyQ.slices_SortFunc Tryz.sortAcc 9 Tryz.isAgg162 Tryz.sizeOf162 enC9 enC9_len enC9_one cfC swoC 91 #[] blk off cap d w eg (fun _ _ _ _ x y=>corder_any x y _) hH hb hsz
 ·exact AnyF.slices_SortFunc_none Tryz.sortAcc p cap _ w
def accs (ac:List (Int × CP)):List Ca:=ac.map (·.2.a)
def AllC (ac:List (Int × CP)) (w:World) (e:Ending) (w':World):Prop :=
 ∃ (A:Option Addr) (cap:Nat) (l:List Ca),e = .returned (.slice A l.length cap)∧l.Perm (accs ac)∧l.Pairwise (fun a b=>ltC b a=false) ∧
  w'.ownsRow w.heap.size 162 9 (.slice A l.length cap) l.length (l.flatMap enC9)∧l.length≤cap∧Below w.heap.size w w'
section
variable {n0:Nat} {w w':World} {X XL BL BA:Nat} {ac:List (Int × CP)} {f:Fn} {d:Int}
set_option maxRecDepth 100000 in
set_option maxHeartbeats 8000000 in
theorem call_any (h:IsCash n0 w X XL BL BA ac f d) (hm:ac.length * 72≤140737488351232) :
  Calls Tryz.prog 47 #[.pointer (some ⟨X,0,none⟩)] w (AllC ac w):=by
 have c1:=h.cellA
 obtain ⟨i0,hi,hz0,hz1,hz2⟩:=info_parts info_ca
 have hGM:=h.acs
 have H:=hid h
 clear h
 go_enter Tryz.func47,Tryz.ntmps47
 go_wp2_with (at_range; refine wpList_range _ rfl _ 193 3 212 rfl Tryz.underlying193 BA ac rfl hGM ?_; intro w1 hI hb hz)
 go_frame
 go_loopw [3] (fun v wr=>∃ (left:List (Int × CP)) (vis:List Ca),wr.ownsRow w.heap.size 162 9 v vis.length (vis.flatMap enC9)∧IsIter wr w.heap.size BA kC vCP ac left∧Hid (∃ vs:List (Int × CP),(vs++left).Perm ac∧vis=accs vs)∧Below w.heap.size w wr)
  (fun _ wr=>wr.rangeLeft BA w.heap.size)
 case atStart=>exact ⟨ac,[],World.ownsRow_nil _ _ _ _,hI,hid ⟨[],by simp,rfl⟩,hb⟩
 case round =>
  clear hI hb hz hGM
  obtain ⟨left,vis,hO,hI,hP,hb⟩:=hrel
  have hlen:vis.length + left.length≤ac.length:=by
   obtain ⟨vs,h1,h2⟩:=hP.out
   have h3:=h1.length_eq
   have h4:=congrArg List.length h2
   simp [accs] at h3 h4
   omega
  have hll:=hI.left_len
  have HL:=hid hll
  clear hll
  go_wp2_with (first
   | (at_next; refine wpList_next _ rfl _ rfl w.heap.size BA ac left rfl hI ?_ ?_))
  ·intro hl0
   subst hl0
   clear HL
   have hvl:vis.length≤ac.length:=by simp at hlen; exact hlen
   go_wp2_with fail
   refine (sort_owned sortsCa enC9_len hO (by omega)).mono ?_
   rintro e w5 ⟨rfl,l',hp,hst,hO',hg⟩
   have hb5:Below w.heap.size w w5:=hb.grown hg hb.size (fun k hk=>(hO.lt k hk).1)
   obtain ⟨A,cap,hv,hcap⟩:=own_slice hO'
   subst hv
   have HF:=hid (And.intro hO' (And.intro hcap hb5))
   have HS:=hid hst
   have HPP:=hid hp
   clear hO hI hb hg hO' hb5 hst hp hcap
   go_wp2_with fail
   go_ret
   obtain ⟨vs,h1,h2⟩:=hP.out
   refine ⟨A,cap,l',rfl, ?_,HS.out,HF.out.1, ?_,HF.out.2.2⟩
   ·rw [List.append_nil] at h1
    exact HPP.out.trans (h2 ▸ h1.map _)
   ·rcases HF.out.1.2 with ⟨h0,h1'⟩ | ⟨g',cap',cur,h0,_,_,hnc,_⟩
    ·simp at h0
     omega
    ·simp at h0
     obtain ⟨_,rfl⟩:=h0
     exact hnc
  ·intro a q left' w2 hp hI2 hg2 hs2 hen
   have hlen2:vis.length + 1≤ac.length:=by
    have h2:=hp.length_eq
    simp at h2
    omega
   have hin:(a,q) ∈ ac:=by
    obtain ⟨vs,h1,_⟩:=hP.out
    exact h1.mem_iff.1 (List.mem_append_right _ (hp.mem_iff.2 (List.mem_cons_self ..)))
   have hO2:=hO.kept hg2 (.inr (fun e=>hI.notOwn hO e.symm))
   have hb2:=hb.trans (grown_below hg2 hb.size (Nat.le_refl _))
   have hB:=(H.out.next hb2).cells (a,q) hin
   obtain ⟨g,x⟩:=q
   obtain ⟨xo,xc,xst,xlv,xnet,xtax,xap,xwr,xdep⟩:=x
   simp only at hB
   have g0:w2.cell? ⟨g,0,none⟩=some (.int .i64 xo):=hB.cell 0
   have g1:w2.cell? ⟨g,1,none⟩=some (.int .i64 xc):=hB.cell 1
   have g2:w2.cell? ⟨g,2,none⟩=some (.int .i64 xst):=hB.cell 2
   have g3:w2.cell? ⟨g,3,none⟩=some (.int .i64 xlv):=hB.cell 3
   have g4:w2.cell? ⟨g,4,none⟩=some (.int .i64 xnet):=hB.cell 4
   have g5:w2.cell? ⟨g,5,none⟩=some (.int .i64 xtax):=hB.cell 5
   have g6:w2.cell? ⟨g,6,none⟩=some (.int .i64 xap):=hB.cell 6
   have g7:w2.cell? ⟨g,7,none⟩=some (.int .i64 xwr):=hB.cell 7
   have g8:w2.cell? ⟨g,8,none⟩=some (.int .i64 xdep):=hB.cell 8
   simp only [kC,vCP] at hen
   have hPP:=hid (show ∃ vs:List (Int × CP),(vs++left').Perm ac∧vis++[⟨xo,xc,xst,xlv,xnet,xtax,xap,xwr,xdep⟩]=accs vs from by
    obtain ⟨vs,h1,h2⟩:=hP.out
    refine ⟨vs++[(a,⟨g,⟨xo,xc,xst,xlv,xnet,xtax,xap,xwr,xdep⟩⟩)], ?_,by simp [h2,accs]⟩
    rw [List.append_assoc]
    exact (List.Perm.append_left vs hp.symm).trans h1)
   have hll:left'.length < left.length:=by have:=hp.length_eq; simp at this; omega
   have HLT:=hid hll
   have hwz:w.heap.size≤w2.heap.size:=hb2.size
   have HI3:=hid (hI2.alloc (.cells #[.int .i64 xo,.int .i64 xc,.int .i64 xst,.int .i64 xlv,.int .i64 xnet,.int .i64 xtax,.int .i64 xap,.int .i64 xwr,.int .i64 xdep] 162))
   have HO3:=hid (hO2.alloc (.cells #[.int .i64 xo,.int .i64 xc,.int .i64 xst,.int .i64 xlv,.int .i64 xnet,.int .i64 xtax,.int .i64 xap,.int .i64 xwr,.int .i64 xdep] 162))
   have HB3:=hid (hb2.alloc hwz (.cells #[.int .i64 xo,.int .i64 xc,.int .i64 xst,.int .i64 xlv,.int .i64 xnet,.int .i64 xtax,.int .i64 xap,.int .i64 xwr,.int .i64 xdep] 162))
   have HO2:=hid hO2
   clear hO hI hg2 hs2 hO2 hb hb2 hI2 hB hin hp hll hP hlen
   go_wp2_with (first
    | (at_builtin; refine wpList_push _ rfl _ _ 141 rfl w.heap.size 162 i0 _ 9 72 Tryz.underlying141 hi hz0 hz1 hz2 rfl (by decide) _ _ _ (by rfl) HO2.out #[.int .i64 xo,.int .i64 xc,.int .i64 xst,.int .i64 xlv,.int .i64 xnet,.int .i64 xtax,.int .i64 xap,.int .i64 xwr,.int .i64 xdep] w2.heap.size (by simp) (by rfl) (by rfl) (by rfl) (by unfold maxLen; omega) (by omega) hwz ?_; intro v' w3 hO4 hg4))
   have hI4:=HI3.out.grown hg4 (fun e=>HI3.out.isMap.notOwn HO3.out e) (fun e=>HI3.out.notOwn HO3.out e)
   have hb4:=HB3.out.grown hg4 (by simp; omega) (fun k hk=>(HO3.out.lt k hk).1)
   have hO5:w3.ownsRow w.heap.size 162 9 v' (vis++[(⟨xo,xc,xst,xlv,xnet,xtax,xap,xwr,xdep⟩:Ca)]).length ((vis++[(⟨xo,xc,xst,xlv,xnet,xtax,xap,xwr,xdep⟩:Ca)]).flatMap enC9):=by simpa [enC9,celC] using hO4
   clear HO3 HI3 HB3 HO2 hO4 hg4 hen
   go_roundw
   case rel=>exact ⟨left',_,hO5,hI4,hPP,hb4⟩
   case measure=>rw [hI4.left_len,HL.out]; exact HLT.out
end
end Go.Proofs.YtakaalldbnklcaaGreat.Mo
namespace Go.Proofs.YtakaalldbnklcaaGreat.Mo
open Go.RowKit Go.WideShapes Go.ChangeShapes Go.ChangeAt Go.Deep
set_option linter.unusedVariables false
theorem info_rc:(Tryz.prog.info? 164).map (fun i=>(i.zero,i.size,i.bytes))=some (some (.agg #[.int .i64 0,.int .i64 0,.int .i64 0,.int .i64 0,.int .i64 0,.int .i64 0,.int .i64 0,.int .i64 0,.int .i64 0]),9,72):=by kernel_rfl
structure IsRf (base:Nat) (w:World) (R:Nat) (A:Option Addr) (cap:Nat) (L:List Ca) (d:Int):Prop where
 blk:Blk w R 88 #[.slice A L.length cap,.int .i64 d]
 own:w.ownsRow base 164 9 (.slice A L.length cap) L.length (L.flatMap enC9)
 lt:R < base
theorem ins_start {α:Type} {enc:α→List Value} {s:Nat} {t tb:TypeId} {base R j:Nat} {A:Option Addr} {r:List α} {x:α} {w0 w3:World} {v':Value} {cs:Array Value} (n:Nat)
  (h3:Blk w3 R tb cs) (hO:w3.ownsRow base t s v' (r.length + 1) (r.flatMap enc++enc x)) (hT:Touch (RT n R A) w0 w3) (hlt:R < base) (hloc:∀ g,v'.ownBlock=some g→RT n R A g) :
  ∃ g cap',v' = .slice (some ⟨g,0,none⟩) (r.length + 1) cap'∧g ≠ R∧base≤g∧RT n R A g∧InsRow enc s t base g cap' (w3.setCell ⟨R,j,none⟩ (.slice (some ⟨g,0,none⟩) (r.length + 1) cap')) (midK r x r.length) (w3.setCell ⟨R,j,none⟩ (.slice (some ⟨g,0,none⟩) (r.length + 1) cap')) ∧
   Touch (RT n R A) w0 (w3.setCell ⟨R,j,none⟩ (.slice (some ⟨g,0,none⟩) (r.length + 1) cap'))∧Blk (w3.setCell ⟨R,j,none⟩ (.slice (some ⟨g,0,none⟩) (r.length + 1) cap')) R tb (cs.setIfInBounds j (.slice (some ⟨g,0,none⟩) (r.length + 1) cap')):=by
 have e:r.flatMap enc++enc x=(r++[x]).flatMap enc:=by simp
 rw [e] at hO
 have hO':w3.ownsRow base t s v' (r++[x]).length ((r++[x]).flatMap enc):=by simpa using hO
 obtain ⟨g,cap',rfl,hbg,hgl⟩:=own_form hO' (by simp)
 have hl:(r++[x]).length=r.length + 1:=by simp
 rw [hl] at hloc ⊢
 have hne:g ≠ R:=by omega
 have hg:w3.grownBy (w3.setCell ⟨R,j,none⟩ (.slice (some ⟨g,0,none⟩) (r.length + 1) cap')) (some R):=⟨rfl,rfl,rfl,by simp,fun k _ hk=>heap_setCell_other w3 ⟨R,j,none⟩ k _ (fun e=>hk (by simp [e]))⟩
 refine ⟨g,cap',rfl,hne,hbg,hloc g rfl,⟨?_,Touch.refl _ _⟩,hT.then ((Touch.setCell w3 R j _).mono (fun k hk => .inl hk)),h3.set_ j _⟩
 rw [midK_end]
 have:=hO'.kept hg (.inr (by simp [Value.ownBlock]; exact hne))
 exact this
def isO (o:Int) (y:Ca):Bool:=y.o == o
section
variable {base R cap:Nat} {A:Option Addr} {L:List Ca} {d:Int} {w w' w4 wr:World}
theorem IsRf.next (h:IsRf base w R A cap L d) (hb:Below w.heap.size w w'):IsRf base w' R A cap L d :=
 ⟨h.blk.next hb,h.own.kept (grown_of_below hb none) (by cases hv:(Value.slice A L.length cap).ownBlock <;> simp),h.lt⟩
theorem IsRf.alloc (h:IsRf base w R A cap L d) (o:Obj):IsRf base (w.alloc o) R A cap L d:=h.next ((Below.refl _ _).alloc (Nat.le_refl _) o)
theorem IsRf.elem (h:IsRf base w R A cap L d) {k:Nat} {y:Ca} (hk:L[k]?=some y):∃ g,A=some ⟨g,0,none⟩∧base≤g∧CellsAt w g (k * 9) (enC9 y):=by
 have hkl:=(List.getElem?_eq_some_iff.1 hk).1
 obtain ⟨g,cap',e,hb,hlt⟩:=own_form h.own (by omega)
 injection e with e1 e2 e3
 subst e1 e3
 exact ⟨g,rfl,hb,hlt,fun j u hu=>own_cells enC9_len h.own hk hu⟩
theorem IsRf.ins2 {g cap':Nat} {l:List Ca} (h:IsRf base w R A cap L d) (hI:InsRow enC9 9 164 base g cap' w4 l wr) (hB:Blk w4 R 88 #[.slice (some ⟨g,0,none⟩) l.length cap',.int .i64 d])
  (hT:Touch (RT w.heap.size R A) w w4) (hg:RT w.heap.size R A g) (hgR:g ≠ R):IsRf base wr R (some ⟨g,0,none⟩) cap' l d∧Touch (RT w.heap.size R A) w wr :=
 ⟨⟨hI.touch.blk hB (fun e=>hgR e.symm),hI.own,h.lt⟩,hT.then (hI.touch.mono (fun k hk=>by subst hk; exact hg))⟩
set_option maxRecDepth 100000 in
set_option maxHeartbeats 4000000 in
theorem rfind_any (h:IsRf base w R A cap L d) (o:Int) (hl:L.length≤140737488355328) :
  Calls Tryz.prog 108 #[.pointer (some ⟨R,0,none⟩),.int .i64 o] w fun e w'=>e = .returned (.int .i64 (plc (isO o) L))∧w=w':=by
 go_enter Tryz.func108,Tryz.ntmps108
 go_wp2_with fail
 go_loop [5] (fun i=>∃ k:Nat,k≤L.length∧i = .int .i64 k∧Hid (∀ j y,j < k→L[j]?=some y→isO o y=false)) (fun i=>L.length - nOf i)
 case atStart=>exact ⟨0,Nat.zero_le _,rfl,hid (fun j y hj=>by omega)⟩
 case round =>
  obtain ⟨k,hk,rfl,hP⟩:=hrel
  have c0:w.cell? ⟨R,0,none⟩=some (.slice A L.length cap):=h.blk.cell 0
  by_cases hlt:k < L.length
  ·obtain ⟨y,hy⟩:∃ y,L[k]?=some y:=⟨L[k],List.getElem?_eq_getElem hlt⟩
   obtain ⟨g,rfl,_,hpr⟩:=h.elem hy
   have HY:=hid hy
   obtain ⟨yo,yc,yst,ylv,ynet,ytax,yap,ywr,ydep⟩:=y
   have p0:w.cell? ⟨g,k * 9,none⟩=some (.int .i64 yo):=hpr.2 0 _ rfl
   clear hy hpr
   by_cases e:yo=o
   ·subst e
    have HV:=hid (plc_some (p:=isO yo) HY.out (by simp [isO]) hP.out)
    clear hP HY
    go_wp2_with fail
    go_ret
    rw [HV.out]; exact ⟨rfl,rfl⟩
   ·have b2:(yo == o)=false:=by simpa using e
    have HN:=hid (show isO o (⟨yo,yc,yst,ylv,ynet,ytax,yap,ywr,ydep⟩:Ca)=false from by simpa [isO] using e)
    clear e
    go_wp2_with fail
    go_round
    case rel=>exact ⟨k + 1,by omega,by go_num,hid (fun j z hj hz=>by
     by_cases e:j=k
     ·subst e; rw [HY.out] at hz; injection hz with hz; subst hz; exact HN.out
     ·exact hP.out j z (by omega) hz)⟩
    case measure=>simp [nOf]; omega
  ·have HV:=hid (plc_none (p:=isO o) (l:=L) (fun y hy=>by
    obtain ⟨j,hj⟩:=List.mem_iff_getElem?.1 hy
    exact hP.out j y (by have:=(List.getElem?_eq_some_iff.1 hj).1; omega) hj))
   clear hP
   go_wp2_with fail
   go_ret
   rw [HV.out]; exact ⟨rfl,rfl⟩
set_option maxRecDepth 100000 in
theorem ropen_any (a:Ca) (w:World) (hs:SmallC a):Calls Tryz.prog 109 #[.agg (celC a)] w fun e w'=>e = .returned (.int .i64 (openC a))∧Below w.heap.size w w':=by
 obtain ⟨o,c,st,lv,net,tax,ap,wr,dep⟩:=a
 obtain ⟨⟨a1,a2⟩,⟨b1,b2⟩,⟨c1,c2⟩,⟨d1,d2⟩⟩:=hs
 simp only [celC,openC] at *
 by_cases h:st=1
 ·subst h
  rw [if_pos rfl]
  go_enter Tryz.func109,Tryz.ntmps109
  go_wp2_with fail
  go_ret
  exact ⟨rfl,(Below.refl _ _).alloc (Nat.le_refl _) _⟩
 ·rw [if_neg h]
  have t1:(st != 1)=true:=by simpa using h
  clear h a1 a2 b1 b2 c1 c2 d1 d2
  go_enter Tryz.func109,Tryz.ntmps109
  go_wp2_with fail
  go_ret
  exact ⟨rfl,(Below.refl _ _).alloc (Nat.le_refl _) _⟩
def PutC (base R:Nat) (A:Option Addr) (L:List Ca) (a:Ca) (d:Int) (w:World) (e:Ending) (w':World):Prop :=
 ∃ A' cap' L',e = .returned (.tuple #[])∧IsRf base w' R A' cap' L' d∧(a.o ∈ L.map Ca.o→L'=updK Ca.o L a)∧(a.o ∉ L.map Ca.o→L'=insK Ca.o ltI L a)∧Touch (RT w.heap.size R A) w w'
set_option maxRecDepth 100000 in
set_option maxHeartbeats 16000000 in
theorem rputn_any (h:IsRf base w R A cap L d) (hs:SortedK Ca.o ltI L) (a:Ca) (hn:a.o ∉ L.map Ca.o) (hl:L.length * 72 + 72≤140737488355328) (hbw:base≤w.heap.size) :
  Calls Tryz.prog 110 #[.pointer (some ⟨R,0,none⟩),.agg (celC a)] w (PutC base R A L a d w):=by
  obtain ⟨zo,zc,zst,zlv,znet,ztax,zap,zwr,zdep⟩:=a
  have HN:=hid (show (⟨zo,zc,zst,zlv,znet,ztax,zap,zwr,zdep⟩:Ca).o ∉ L.map Ca.o from hn)
  have HS:=hid hs
  have hpl:plc (isO zo) L = -1:=plc_none (fun y hy=>by
   have:y.o ≠ zo:=fun e=>hn (by simp only; rw [← e]; exact List.mem_map_of_mem hy)
   simpa [isO] using this)
  clear hn hs
  simp only [celC]
  obtain ⟨i0,hi,hz0,hz1,hz2⟩:=info_parts info_rc
  obtain ⟨wz,hwz⟩:∃ wz,wz=w.alloc (.cells #[.int .i64 zo,.int .i64 zc,.int .i64 zst,.int .i64 zlv,.int .i64 znet,.int .i64 ztax,.int .i64 zap,.int .i64 zwr,.int .i64 zdep] 164):=⟨_,rfl⟩
  obtain ⟨G0,hG0⟩:∃ G0,G0=w.heap.size:=⟨_,rfl⟩
  have hz:IsRf base wz R A cap L d:=by rw [hwz]; exact h.alloc _
  have hGz:Blk wz G0 164 #[.int .i64 zo,.int .i64 zc,.int .i64 zst,.int .i64 zlv,.int .i64 znet,.int .i64 ztax,.int .i64 zap,.int .i64 zwr,.int .i64 zdep]:=by rw [hwz,hG0]; exact Blk.new _ _ _
  have hTz:Touch (RT w.heap.size R A) w wz:=by rw [hwz]; exact (Touch.refl _ _).alloc _
  have F:=hid (rfind_any hz zo (by omega))
  rw [hpl] at F
  have HW:=hid hwz
  have HG:=hid hG0
  have hRw:R < w.heap.size:=h.blk.lt
  have hRG:R ≠ G0:=by omega
  have hRb:=h.lt
  have hbz:base≤wz.heap.size:=Nat.le_trans hbw hTz.size
  have H:=hid h
  clear h hwz hG0 hpl
  go_enter Tryz.func110,Tryz.ntmps110
  go_wp2_with fail
  rw [← HW.out, ← HG.out]
  refine F.out.mono ?_
  rintro e w1 ⟨rfl,rfl⟩
  have c0:wz.cell? ⟨R,0,none⟩=some (.slice A L.length cap):=hz.blk.cell 0
  have g0:wz.cell? ⟨G0,0,none⟩=some (.int .i64 zo):=hGz.cell 0
  have g1:wz.cell? ⟨G0,1,none⟩=some (.int .i64 zc):=hGz.cell 1
  have g2:wz.cell? ⟨G0,2,none⟩=some (.int .i64 zst):=hGz.cell 2
  have g3:wz.cell? ⟨G0,3,none⟩=some (.int .i64 zlv):=hGz.cell 3
  have g4:wz.cell? ⟨G0,4,none⟩=some (.int .i64 znet):=hGz.cell 4
  have g5:wz.cell? ⟨G0,5,none⟩=some (.int .i64 ztax):=hGz.cell 5
  have g6:wz.cell? ⟨G0,6,none⟩=some (.int .i64 zap):=hGz.cell 6
  have g7c:wz.cell? ⟨G0,7,none⟩=some (.int .i64 zwr):=hGz.cell 7
  have g8:wz.cell? ⟨G0,8,none⟩=some (.int .i64 zdep):=hGz.cell 8
  have lR:R < wz.heap.size:=hz.blk.lt
  have lG:G0 < wz.heap.size:=hGz.lt
  have hO:=hid (((hz.next (below_drewN (Below.refl _ _) 1)).own).alloc (.cells #[.int .i64 zo,.int .i64 zc,.int .i64 zst,.int .i64 zlv,.int .i64 znet,.int .i64 ztax,.int .i64 zap,.int .i64 zwr,.int .i64 zdep] 164))
  have hRk:=(hz.next (below_drewN (Below.refl _ _) 1)).blk.alloc (.cells #[.int .i64 zo,.int .i64 zc,.int .i64 zst,.int .i64 zlv,.int .i64 znet,.int .i64 ztax,.int .i64 zap,.int .i64 zwr,.int .i64 zdep] 164)
  have hT:=hid (hTz.drew.alloc (.cells #[.int .i64 zo,.int .i64 zc,.int .i64 zst,.int .i64 zlv,.int .i64 znet,.int .i64 ztax,.int .i64 zap,.int .i64 zwr,.int .i64 zdep] 164))
  have HL2:=hid (show some R ≠ (Value.slice A L.length cap).ownBlock from fun e=>by have:=(H.out.own.lt R e.symm).1; omega)
  have hwsz:=hTz.size
  clear hz hGz hTz F
  go_wp2_with fail
  go_region_law ((refine step_append_lies _ (by rfl) _ _ _ (by rfl) base 164 i0 _ 9 72 Tryz.underlying86 hi hz0 hz1 hz2 rfl (by decide) _ _ _ (by rfl) hO.out ⟨wz.heap.size,0,none⟩ 1 1 [.int .i64 zo,.int .i64 zc,.int .i64 zst,.int .i64 zlv,.int .i64 znet,.int .i64 ztax,.int .i64 zap,.int .i64 zwr,.int .i64 zdep] (by rfl) (by rfl) (World.news_of_block (heap_alloc_new _ _)) (enC9_one (⟨zo,zc,zst,zlv,znet,ztax,zap,zwr,zdep⟩:Ca)) (by omega) (by unfold maxLen; omega) (by omega) (by simp; omega) _ rfl ?_; intro g7 cap7 w7 hO7 hg7 hat7 hlt7; have hB7:=hRk.grown hg7 HL2.out; have c7:w7.cell? ⟨R,0,none⟩=some (.slice A L.length cap):=hB7.cell 0; have f7:=hB7.free 0))
  all_goals
   have hT7:=hT.out.then (touch_row hg7 (fun k hk => .inr (.inl (by cases A with | none=>simp [Value.ownBlock] at hk | some a=>simpa [Value.ownBlock] using hk))))
   have hrt7:RT w.heap.size R A g7:=by
    rcases hat7 with e | e
    ·refine .inr (.inl ?_)
     cases A with
     | none=>simp [Value.ownBlock] at e
     | some a=>simpa [Value.ownBlock] using e
    ·refine .inr (.inr ?_)
     simp at e
     omega
   obtain ⟨g,cap',e7,hgR,hbg,hrt,hI0,hT4,hB4⟩:=ins_start (j:=0) (x:=(⟨zo,zc,zst,zlv,znet,ztax,zap,zwr,zdep⟩:Ca)) (enc:=enC9) w.heap.size hB7 hO7 hT7 hRb (fun g hg=>by
    have hg':g7=g:=by simpa [Value.ownBlock] using hg
    subst hg'
    exact hrt7)
   injection e7 with e8 e9 e10
   injection e8 with e8
   injection e8 with e8
   subst e8 e10
   obtain ⟨w4,hw4⟩:∃ w4,w4=w7.setCell ⟨R,0,none⟩ (.slice (some ⟨g7,0,none⟩) (L.length + 1) cap7):=⟨_,rfl⟩
   rw [← hw4] at hI0 hT4 hB4 ⊢
   have hBB:Blk w4 R 88 #[.slice (some ⟨g7,0,none⟩) (L.length + 1) cap7,.int .i64 d]:=by simpa using hB4
   obtain ⟨g,hgg⟩:∃ g,g=g7:=⟨_,rfl⟩
   obtain ⟨cap',hcc⟩:∃ cap',cap'=cap7:=⟨_,rfl⟩
   rw [← hgg] at hI0 hrt hgR hbg hBB ⊢
   rw [← hcc] at hI0 hBB ⊢
   have c4:w4.cell? ⟨R,0,none⟩=some (.slice (some ⟨g,0,none⟩) (L.length + 1) cap'):=hBB.cell 0
   have lR4:R < w4.heap.size:=hBB.lt
   have HT4:=hid hT4
   have HBB:=hid hBB
   have hI:=hid hI0
   clear hw4 hI0 hT4 hB4 hBB hT7 hO7 hg7 hat7 hlt7 hB7 c7 f7 hgg hcc c0 g0 g1 g2 g3 g4 g5 g6 g7c g8 lR lG hO hRk hT HL2
   go_wp2_with fail
   replace hI:=hI.out
   clear c4 lR4
   go_loopw [5] (fun i wr=>∃ k:Nat,k≤L.length∧i = .int .i64 k∧Hid (Behind Ca.o ltI L (⟨zo,zc,zst,zlv,znet,ztax,zap,zwr,zdep⟩:Ca) k)∧InsRow enC9 9 164 base g cap' w4 (midK L (⟨zo,zc,zst,zlv,znet,ztax,zap,zwr,zdep⟩:Ca) k) wr) (fun i _=>nOf i)
   case atStart=>exact ⟨L.length,Nat.le_refl _,by go_num,hid behind_end,hI⟩
   case round =>
    clear hI
    obtain ⟨k,hk,rfl,hP,hI⟩:=hrel
    have hln:=midK_len (z:=(⟨zo,zc,zst,zlv,znet,ztax,zap,zwr,zdep⟩:Ca)) hk
    obtain ⟨n1,hn1⟩:∃ n1,n1=L.length + 1:=⟨_,rfl⟩
    have c0:wr.cell? ⟨R,0,none⟩=some (.slice (some ⟨g,0,none⟩) n1 cap'):=by rw [hn1]; exact (hI.touch.blk HBB.out (fun e=>hgR e.symm)).cell 0
    have lR:R < wr.heap.size:=(hI.touch.blk HBB.out (fun e=>hgR e.symm)).lt
    have hkn:k < n1:=by omega
    have hn2:n1≤140737488355328:=by omega
    have e2:=hI.elem enC9_len (midK_here hk)
    have lg:g < wr.heap.size:=e2.1
    have q0:wr.cell? ⟨g,k * 9,none⟩=some (.int .i64 zo):=e2.2 0 _ rfl
    have q1:wr.cell? ⟨g,k * 9 + 1,none⟩=some (.int .i64 zc):=e2.2 1 _ rfl
    have q2:wr.cell? ⟨g,k * 9 + 2,none⟩=some (.int .i64 zst):=e2.2 2 _ rfl
    have q3:wr.cell? ⟨g,k * 9 + 3,none⟩=some (.int .i64 zlv):=e2.2 3 _ rfl
    have q4:wr.cell? ⟨g,k * 9 + 4,none⟩=some (.int .i64 znet):=e2.2 4 _ rfl
    have q5:wr.cell? ⟨g,k * 9 + 5,none⟩=some (.int .i64 ztax):=e2.2 5 _ rfl
    have q6:wr.cell? ⟨g,k * 9 + 6,none⟩=some (.int .i64 zap):=e2.2 6 _ rfl
    have q7:wr.cell? ⟨g,k * 9 + 7,none⟩=some (.int .i64 zwr):=e2.2 7 _ rfl
    have q8:wr.cell? ⟨g,k * 9 + 8,none⟩=some (.int .i64 zdep):=e2.2 8 _ rfl
    have HEX:Hid (∀ w',(∀ y,0 < k→L[k - 1]?=some y→ltI (Ca.o (⟨zo,zc,zst,zlv,znet,ztax,zap,zwr,zdep⟩:Ca)) (Ca.o y)=false)→Below wr.heap.size wr w'→PutC base R A L (⟨zo,zc,zst,zlv,znet,ztax,zap,zwr,zdep⟩:Ca) d w (.returned (.tuple #[])) w'):=hid (fun w' hf hb=>by
     have hI':=hI.next hb
     rw [midK_done linI HS.out HN.out hk hP.out hf] at hI'
     obtain ⟨a1,a2⟩:=H.out.ins2 hI' (by rw [insK_length]; exact HBB.out) HT4.out hrt hgR
     exact ⟨_,_,_,rfl,a1,fun hh=>absurd hh HN.out,fun _=>rfl,a2⟩)
    by_cases hk0:0 < k
    ·obtain ⟨y,hy⟩:∃ y,L[k - 1]?=some y:=⟨L[k - 1],List.getElem?_eq_getElem (by omega)⟩
     have e1:=hI.elem enC9_len (k:=k - 1) (y:=y) (by rw [midK_at hk0 hk]; exact hy)
     have hkw:IntKind.i64.wrap ((k:Int) - 1)=((k - 1:Nat):Int):=by rw [IntWalk.i64_in _ ⟨by omega,by omega⟩]; omega
     have hkl:k - 1 < n1:=by omega
     have HY:=hid hy
     obtain ⟨yo,yc,yst,ylv,ynet,ytax,yap,ywr,ydep⟩:=y
     have p0:wr.cell? ⟨g,(k - 1) * 9,none⟩=some (.int .i64 yo):=e1.2 0 _ rfl
     have p1:wr.cell? ⟨g,(k - 1) * 9 + 1,none⟩=some (.int .i64 yc):=e1.2 1 _ rfl
     have p2:wr.cell? ⟨g,(k - 1) * 9 + 2,none⟩=some (.int .i64 yst):=e1.2 2 _ rfl
     have p3:wr.cell? ⟨g,(k - 1) * 9 + 3,none⟩=some (.int .i64 ylv):=e1.2 3 _ rfl
     have p4:wr.cell? ⟨g,(k - 1) * 9 + 4,none⟩=some (.int .i64 ynet):=e1.2 4 _ rfl
     have p5:wr.cell? ⟨g,(k - 1) * 9 + 5,none⟩=some (.int .i64 ytax):=e1.2 5 _ rfl
     have p6:wr.cell? ⟨g,(k - 1) * 9 + 6,none⟩=some (.int .i64 yap):=e1.2 6 _ rfl
     have p7:wr.cell? ⟨g,(k - 1) * 9 + 7,none⟩=some (.int .i64 ywr):=e1.2 7 _ rfl
     have p8:wr.cell? ⟨g,(k - 1) * 9 + 8,none⟩=some (.int .i64 ydep):=e1.2 8 _ rfl
     clear e1 e2 hy
     by_cases hlt:zo < yo
     ·have HP2:=hid (behind_step hP.out hk0 HY.out (by simp [ltI,hlt]))
      have HS2:=hid (midK_step (z:=(⟨zo,zc,zst,zlv,znet,ztax,zap,zwr,zdep⟩:Ca)) hk0 hk HY.out)
      have HLN:=hid hln
      have HI:=hid hI
      have HN1:=hid hn1
      clear hI hln hn1
      go_wp2_with fail
      go_quiet (fail)
      obtain ⟨wd,hwd,hIDs,d0,dR,dG,r0,r1,r2,r3,r4,r5,r6,r7,r8,s0,s1,s2,s3,s4,s5,s6,s7,s8⟩:∃ wd,wd=wr.drewN nq∧Hid (InsRow enC9 9 164 base g cap' w4 (midK L (⟨zo,zc,zst,zlv,znet,ztax,zap,zwr,zdep⟩:Ca) k) wd)∧wd.cell? ⟨R,0,none⟩=some (.slice (some ⟨g,0,none⟩) n1 cap')∧R < wd.heap.size∧g < wd.heap.size∧wd.cell? ⟨g,k * 9,none⟩=some (.int .i64 zo)∧wd.cell? ⟨g,k * 9 + 1,none⟩=some (.int .i64 zc)∧wd.cell? ⟨g,k * 9 + 2,none⟩=some (.int .i64 zst)∧wd.cell? ⟨g,k * 9 + 3,none⟩=some (.int .i64 zlv)∧wd.cell? ⟨g,k * 9 + 4,none⟩=some (.int .i64 znet)∧wd.cell? ⟨g,k * 9 + 5,none⟩=some (.int .i64 ztax)∧wd.cell? ⟨g,k * 9 + 6,none⟩=some (.int .i64 zap)∧wd.cell? ⟨g,k * 9 + 7,none⟩=some (.int .i64 zwr)∧wd.cell? ⟨g,k * 9 + 8,none⟩=some (.int .i64 zdep)∧wd.cell? ⟨g,(k - 1) * 9,none⟩=some (.int .i64 yo)∧wd.cell? ⟨g,(k - 1) * 9 + 1,none⟩=some (.int .i64 yc)∧wd.cell? ⟨g,(k - 1) * 9 + 2,none⟩=some (.int .i64 yst)∧wd.cell? ⟨g,(k - 1) * 9 + 3,none⟩=some (.int .i64 ylv)∧wd.cell? ⟨g,(k - 1) * 9 + 4,none⟩=some (.int .i64 ynet)∧wd.cell? ⟨g,(k - 1) * 9 + 5,none⟩=some (.int .i64 ytax)∧wd.cell? ⟨g,(k - 1) * 9 + 6,none⟩=some (.int .i64 yap)∧wd.cell? ⟨g,(k - 1) * 9 + 7,none⟩=some (.int .i64 ywr)∧wd.cell? ⟨g,(k - 1) * 9 + 8,none⟩=some (.int .i64 ydep):=⟨_,rfl,hid (HI.out.next (below_drewN (Below.refl _ _) nq)),c0,lR,lg,q0,q1,q2,q3,q4,q5,q6,q7,q8,p0,p1,p2,p3,p4,p5,p6,p7,p8⟩
      rw [← hwd]
      clear hwd HI c0 lR lg q0 q1 q2 q3 q4 q5 q6 q7 q8 p0 p1 p2 p3 p4 p5 p6 p7 p8 HEX
      have hbx:Below wd.heap.size wd (wd.alloc (.cells #[.int .i64 zo,.int .i64 zc,.int .i64 zst,.int .i64 zlv,.int .i64 znet,.int .i64 ztax,.int .i64 zap,.int .i64 zwr,.int .i64 zdep] 164)):=(Below.refl _ _).alloc (Nat.le_refl _) _
      have hGx:=Blk.new wd 164 #[.int .i64 zo,.int .i64 zc,.int .i64 zst,.int .i64 zlv,.int .i64 znet,.int .i64 ztax,.int .i64 zap,.int .i64 zwr,.int .i64 zdep]
      replace hbx:=hid hbx
      replace hGx:=hid hGx
      go_wp2_with fail
      obtain ⟨wx,hwx⟩:∃ wx,wx=wd.alloc (.cells #[.int .i64 zo,.int .i64 zc,.int .i64 zst,.int .i64 zlv,.int .i64 znet,.int .i64 ztax,.int .i64 zap,.int .i64 zwr,.int .i64 zdep] 164):=⟨_,rfl⟩
      rw [← hwx] at hbx hGx ⊢
      obtain ⟨G,hG⟩:∃ G,G=wd.heap.size:=⟨_,rfl⟩
      have hgG:g ≠ G:=by omega
      have hRG:R ≠ G:=by omega
      rw [← hG] at hGx ⊢
      have hIx:=hIDs.out.next hbx.out
      have c0:wx.cell? ⟨R,0,none⟩=some (.slice (some ⟨g,0,none⟩) n1 cap'):=(hbx.out.cell (p:=⟨R,0,none⟩) dR).trans d0
      have lR:R < wx.heap.size:=Nat.lt_of_lt_of_le dR hbx.out.size
      have lg:g < wx.heap.size:=Nat.lt_of_lt_of_le dG hbx.out.size
      have q0:wx.cell? ⟨g,k * 9,none⟩=some (.int .i64 zo):=(hbx.out.cell (p:=⟨g,k * 9,none⟩) dG).trans r0
      have q1:wx.cell? ⟨g,k * 9 + 1,none⟩=some (.int .i64 zc):=(hbx.out.cell (p:=⟨g,k * 9 + 1,none⟩) dG).trans r1
      have q2:wx.cell? ⟨g,k * 9 + 2,none⟩=some (.int .i64 zst):=(hbx.out.cell (p:=⟨g,k * 9 + 2,none⟩) dG).trans r2
      have q3:wx.cell? ⟨g,k * 9 + 3,none⟩=some (.int .i64 zlv):=(hbx.out.cell (p:=⟨g,k * 9 + 3,none⟩) dG).trans r3
      have q4:wx.cell? ⟨g,k * 9 + 4,none⟩=some (.int .i64 znet):=(hbx.out.cell (p:=⟨g,k * 9 + 4,none⟩) dG).trans r4
      have q5:wx.cell? ⟨g,k * 9 + 5,none⟩=some (.int .i64 ztax):=(hbx.out.cell (p:=⟨g,k * 9 + 5,none⟩) dG).trans r5
      have q6:wx.cell? ⟨g,k * 9 + 6,none⟩=some (.int .i64 zap):=(hbx.out.cell (p:=⟨g,k * 9 + 6,none⟩) dG).trans r6
      have q7:wx.cell? ⟨g,k * 9 + 7,none⟩=some (.int .i64 zwr):=(hbx.out.cell (p:=⟨g,k * 9 + 7,none⟩) dG).trans r7
      have q8:wx.cell? ⟨g,k * 9 + 8,none⟩=some (.int .i64 zdep):=(hbx.out.cell (p:=⟨g,k * 9 + 8,none⟩) dG).trans r8
      have p0:wx.cell? ⟨g,(k - 1) * 9,none⟩=some (.int .i64 yo):=(hbx.out.cell (p:=⟨g,(k - 1) * 9,none⟩) dG).trans s0
      have p1:wx.cell? ⟨g,(k - 1) * 9 + 1,none⟩=some (.int .i64 yc):=(hbx.out.cell (p:=⟨g,(k - 1) * 9 + 1,none⟩) dG).trans s1
      have p2:wx.cell? ⟨g,(k - 1) * 9 + 2,none⟩=some (.int .i64 yst):=(hbx.out.cell (p:=⟨g,(k - 1) * 9 + 2,none⟩) dG).trans s2
      have p3:wx.cell? ⟨g,(k - 1) * 9 + 3,none⟩=some (.int .i64 ylv):=(hbx.out.cell (p:=⟨g,(k - 1) * 9 + 3,none⟩) dG).trans s3
      have p4:wx.cell? ⟨g,(k - 1) * 9 + 4,none⟩=some (.int .i64 ynet):=(hbx.out.cell (p:=⟨g,(k - 1) * 9 + 4,none⟩) dG).trans s4
      have p5:wx.cell? ⟨g,(k - 1) * 9 + 5,none⟩=some (.int .i64 ytax):=(hbx.out.cell (p:=⟨g,(k - 1) * 9 + 5,none⟩) dG).trans s5
      have p6:wx.cell? ⟨g,(k - 1) * 9 + 6,none⟩=some (.int .i64 yap):=(hbx.out.cell (p:=⟨g,(k - 1) * 9 + 6,none⟩) dG).trans s6
      have p7:wx.cell? ⟨g,(k - 1) * 9 + 7,none⟩=some (.int .i64 ywr):=(hbx.out.cell (p:=⟨g,(k - 1) * 9 + 7,none⟩) dG).trans s7
      have p8:wx.cell? ⟨g,(k - 1) * 9 + 8,none⟩=some (.int .i64 ydep):=(hbx.out.cell (p:=⟨g,(k - 1) * 9 + 8,none⟩) dG).trans s8
      have f0:=hIx.free (k * 9)
      have f1:=hIx.free (k * 9 + 1)
      have f2:=hIx.free (k * 9 + 2)
      have f3:=hIx.free (k * 9 + 3)
      have f4:=hIx.free (k * 9 + 4)
      have f5:=hIx.free (k * 9 + 5)
      have f6:=hIx.free (k * 9 + 6)
      have f7:=hIx.free (k * 9 + 7)
      have f8:=hIx.free (k * 9 + 8)
      have hJ:=(hIx.put enC9_len (k:=k) (by have:=HLN.out; omega) (⟨yo,yc,yst,ylv,ynet,ytax,yap,ywr,ydep⟩:Ca)).drew
      have hGJ:=hid (((Touch.of_grown (own_storeMany hIx.own (k * 9) (enC9 (⟨yo,yc,yst,ylv,ynet,ytax,yap,ywr,ydep⟩:Ca))).2).blk hGx.out (fun e=>hgG e.symm)).next (below_drewN (Below.refl _ _) 1))
      have hJ2:=hid (show InsRow enC9 9 164 base g cap' w4 ((midK L (⟨zo,zc,zst,zlv,znet,ztax,zap,zwr,zdep⟩:Ca) k).set k (⟨yo,yc,yst,ylv,ynet,ytax,yap,ywr,ydep⟩:Ca)) _ from hJ)
      clear hwx hG hIDs hIx hJ d0 dR dG r0 r1 r2 r3 r4 r5 r6 r7 r8 s0 s1 s2 s3 s4 s5 s6 s7 s8
      refine wp_tail 14 (by kernel_rfl) (by kernel_rfl) ?_
      simp only [List.take_succ_cons,List.take_zero,List.drop_succ_cons,List.drop_zero]
      repeat still_step
      refine wpStill_nil ?_
      go_wp2_with fail
      obtain ⟨wy,hwy⟩:∃ wy,wy=(((((((((wx.setCell ⟨g,k * 9,none⟩ (.int .i64 yo)).setCell ⟨g,k * 9 + 1,none⟩ (.int .i64 yc)).setCell ⟨g,k * 9 + 2,none⟩ (.int .i64 yst)).setCell ⟨g,k * 9 + 3,none⟩ (.int .i64 ylv)).setCell ⟨g,k * 9 + 4,none⟩ (.int .i64 ynet)).setCell ⟨g,k * 9 + 5,none⟩ (.int .i64 ytax)).setCell ⟨g,k * 9 + 6,none⟩ (.int .i64 yap)).setCell ⟨g,k * 9 + 7,none⟩ (.int .i64 ywr)).setCell ⟨g,k * 9 + 8,none⟩ (.int .i64 ydep)).drew:=⟨_,rfl⟩
      have hJy:InsRow enC9 9 164 base g cap' w4 ((midK L (⟨zo,zc,zst,zlv,znet,ztax,zap,zwr,zdep⟩:Ca) k).set k (⟨yo,yc,yst,ylv,ynet,ytax,yap,ywr,ydep⟩:Ca)) wy:=by rw [hwy]; exact hJ2.out
      have hGy:Blk wy G 164 #[.int .i64 zo,.int .i64 zc,.int .i64 zst,.int .i64 zlv,.int .i64 znet,.int .i64 ztax,.int .i64 zap,.int .i64 zwr,.int .i64 zdep]:=by rw [hwy]; exact hGJ.out
      rw [← hwy]
      clear hwy hJ2 hGJ c0 lR lg q0 q1 q2 q3 q4 q5 q6 q7 q8 p0 p1 p2 p3 p4 p5 p6 p7 p8 f0 f1 f2 f3 f4 f5 f6 f7 f8 hbx hGx
      have c0:wy.cell? ⟨R,0,none⟩=some (.slice (some ⟨g,0,none⟩) n1 cap'):=by rw [HN1.out]; exact (hJy.touch.blk HBB.out (fun e=>hgR e.symm)).cell 0
      have lR:R < wy.heap.size:=(hJy.touch.blk HBB.out (fun e=>hgR e.symm)).lt
      have e1:=hJy.elem enC9_len (k:=k - 1) (y:=(⟨yo,yc,yst,ylv,ynet,ytax,yap,ywr,ydep⟩:Ca)) (by rw [List.getElem?_set_ne (by omega),midK_at hk0 hk]; exact HY.out)
      have lg:g < wy.heap.size:=e1.1
      have p0:wy.cell? ⟨g,(k - 1) * 9,none⟩=some (.int .i64 yo):=e1.2 0 _ rfl
      have p1:wy.cell? ⟨g,(k - 1) * 9 + 1,none⟩=some (.int .i64 yc):=e1.2 1 _ rfl
      have p2:wy.cell? ⟨g,(k - 1) * 9 + 2,none⟩=some (.int .i64 yst):=e1.2 2 _ rfl
      have p3:wy.cell? ⟨g,(k - 1) * 9 + 3,none⟩=some (.int .i64 ylv):=e1.2 3 _ rfl
      have p4:wy.cell? ⟨g,(k - 1) * 9 + 4,none⟩=some (.int .i64 ynet):=e1.2 4 _ rfl
      have p5:wy.cell? ⟨g,(k - 1) * 9 + 5,none⟩=some (.int .i64 ytax):=e1.2 5 _ rfl
      have p6:wy.cell? ⟨g,(k - 1) * 9 + 6,none⟩=some (.int .i64 yap):=e1.2 6 _ rfl
      have p7:wy.cell? ⟨g,(k - 1) * 9 + 7,none⟩=some (.int .i64 ywr):=e1.2 7 _ rfl
      have p8:wy.cell? ⟨g,(k - 1) * 9 + 8,none⟩=some (.int .i64 ydep):=e1.2 8 _ rfl
      have g0:wy.cell? ⟨G,0,none⟩=some (.int .i64 zo):=hGy.cell 0
      have g1:wy.cell? ⟨G,1,none⟩=some (.int .i64 zc):=hGy.cell 1
      have g2:wy.cell? ⟨G,2,none⟩=some (.int .i64 zst):=hGy.cell 2
      have g3:wy.cell? ⟨G,3,none⟩=some (.int .i64 zlv):=hGy.cell 3
      have g4:wy.cell? ⟨G,4,none⟩=some (.int .i64 znet):=hGy.cell 4
      have g5:wy.cell? ⟨G,5,none⟩=some (.int .i64 ztax):=hGy.cell 5
      have g6:wy.cell? ⟨G,6,none⟩=some (.int .i64 zap):=hGy.cell 6
      have g7:wy.cell? ⟨G,7,none⟩=some (.int .i64 zwr):=hGy.cell 7
      have g8:wy.cell? ⟨G,8,none⟩=some (.int .i64 zdep):=hGy.cell 8
      have f0:=hJy.free ((k - 1) * 9)
      have f1:=hJy.free ((k - 1) * 9 + 1)
      have f2:=hJy.free ((k - 1) * 9 + 2)
      have f3:=hJy.free ((k - 1) * 9 + 3)
      have f4:=hJy.free ((k - 1) * 9 + 4)
      have f5:=hJy.free ((k - 1) * 9 + 5)
      have f6:=hJy.free ((k - 1) * 9 + 6)
      have f7:=hJy.free ((k - 1) * 9 + 7)
      have f8:=hJy.free ((k - 1) * 9 + 8)
      have hJz:=(hJy.put enC9_len (k:=k - 1) (by rw [List.length_set]; have:=HLN.out; omega) (⟨zo,zc,zst,zlv,znet,ztax,zap,zwr,zdep⟩:Ca)).drew
      rw [HS2.out] at hJz
      replace hJz:=hid hJz
      clear e1 hJy hGy
      refine wp_tail 8 (by kernel_rfl) (by kernel_rfl) ?_
      simp only [List.take_succ_cons,List.take_zero,List.drop_succ_cons,List.drop_zero]
      repeat still_step
      refine wpStill_nil ?_
      clear hkw
      go_wp2_with fail
      go_roundw
      case rel=>exact ⟨k - 1,by omega,by congr 1; omega,HP2,hJz.out⟩
      case measure=>simp [nOf]; omega
     ·have hd:decide (zo < yo)=false:=decide_eq_false hlt
      have HX2:=hid (fun n=>HEX.out (wr.drewN n) (fun y hy0 hy1=>by rw [HY.out] at hy1; injection hy1 with hy1; subst hy1; simp [ltI,hlt]) (below_drewN (Below.refl _ _) n))
      clear hlt hI hln hn1 HEX
      go_wp2_with fail
      go_quiet (fail)
      go_wp2_with fail
      go_end0
      exact HX2.out _
    ·have hd:decide (0 < k)=false:=decide_eq_false hk0
     have HX2:=hid (fun n=>HEX.out (wr.drewN n) (fun y hy0 hy1=>absurd hy0 hk0) (below_drewN (Below.refl _ _) n))
     clear HEX hI hln hn1 e2
     go_wp2_with fail
     go_quiet (fail)
     go_wp2_with fail
     go_end0
     exact HX2.out _
end
end Go.Proofs.YtakaalldbnklcaaGreat.Mo
namespace Go.Proofs.YtakaalldbnklcaaGreat
open Go.RowKit Go.WideShapes Go.ChangeShapes Go.ChangeAt Go.Deep
set_option linter.unusedVariables false
section
variable {n0 m0:Nat} {w w':World} {T:List TypeId} {M:List Nat}
theorem Cr.own_kind {X BA BH:Nat} {ac:List (Int × Cr.Acc)} {hs:List (Int × Cr.Hd)} (h:Cr.IsBook n0 w X BA BH ac hs) {k:Nat} (hk:Cr.Own BA BH ac k):KindIn n0 w [180] [BA,BH] k:=by
 have hn:=h.own_low hk
 rcases hk with rfl | rfl | ⟨p,hp,rfl⟩
 ·exact KindIn.of_map h.acs (by simp) hn
 ·exact KindIn.of_map h.hds (by simp) hn
 ·exact KindIn.of_blk (h.cells p hp) (by simp) hn
theorem Cr.stay {X BA BH:Nat} {ac:List (Int × Cr.Acc)} {hs:List (Int × Cr.Hd)} (h:Cr.IsBook n0 w X BA BH ac hs) (hT:Touch (KindIn m0 w T M) w w') (h1:119 ∉ T) (h2:180 ∉ T) (h3:BA ∉ M) (h4:BH ∉ M):Cr.IsBook n0 w' X BA BH ac hs :=
 h.touch hT (KindIn.not_blk h.blk h1) (fun k hk=>by
  rcases hk with rfl | rfl | ⟨p,hp,rfl⟩
  ·exact KindIn.not_map h.acs h3
  ·exact KindIn.not_map h.hds h4
  ·exact KindIn.not_blk (h.cells p hp) h2)
theorem Sk.own_kind {X BL BG:Nat} {lv:List (Int × Sk.Lv)} {gs:List (Int × Sk.Gd)} (h:Sk.IsBook n0 w X BL BG lv gs) {k:Nat} (hk:Sk.Own BL BG lv gs k):KindIn n0 w [53,156] [BL,BG] k:=by
 have hn:=h.own_low hk
 rcases hk with rfl | rfl | ⟨p,hp,rfl⟩ | ⟨p,hp,rfl⟩
 ·exact KindIn.of_map h.lvs (by simp) hn
 ·exact KindIn.of_map h.gds (by simp) hn
 ·exact KindIn.of_blk (h.lc p hp) (by simp) hn
 ·exact KindIn.of_blk (h.gc p hp) (by simp) hn
theorem Sk.stay {X BL BG:Nat} {lv:List (Int × Sk.Lv)} {gs:List (Int × Sk.Gd)} (h:Sk.IsBook n0 w X BL BG lv gs) (hT:Touch (KindIn m0 w T M) w w') (h1:130 ∉ T) (h2:53 ∉ T) (h3:156 ∉ T) (h4:67 ∉ T) (h5:BL ∉ M) (h6:BG ∉ M):Sk.IsBook n0 w' X BL BG lv gs :=
 h.touch hT (KindIn.not_blk h.blk h1) (fun k hk=>by
  rcases hk with rfl | rfl | ⟨p,hp,rfl⟩ | ⟨p,hp,rfl⟩
  ·exact KindIn.not_map h.lvs h5
  ·exact KindIn.not_map h.gds h6
  ·exact KindIn.not_blk (h.lc p hp) h2
  ·exact KindIn.not_blk (h.gc p hp) h3) (fun p hp=>by
  obtain ⟨_,_,cs,hb⟩:=h.lns p hp
  exact KindIn.not_blk hb h4)
theorem Mo.own_kind {X XL BL BA:Nat} {ac:List (Int × Mo.CP)} {f:Mo.Fn} {d:Int} (h:Mo.IsCash n0 w X XL BL BA ac f d) {k:Nat} (hk:Mo.Ch.Own XL BL BA ac k):KindIn n0 w [255,162] [BL,BA] k:=by
 have hn:=h.own_low hk
 rcases hk with rfl | rfl | rfl | ⟨p,hp,rfl⟩
 ·exact KindIn.of_blk h.led.blk (by simp) hn
 ·obtain ⟨m,hm,_⟩:=h.led.map
  exact KindIn.of_map hm (by simp) hn
 ·exact KindIn.of_map h.acs (by simp) hn
 ·exact KindIn.of_blk (h.cells p hp) (by simp) hn
theorem Mo.stay {X XL BL BA:Nat} {ac:List (Int × Mo.CP)} {f:Mo.Fn} {d:Int} (h:Mo.IsCash n0 w X XL BL BA ac f d) (hT:Touch (KindIn m0 w T M) w w') (h1:195 ∉ T) (h2:255 ∉ T) (h3:162 ∉ T) (h5:BL ∉ M) (h6:BA ∉ M):Mo.IsCash n0 w' X XL BL BA ac f d :=
 h.touch hT (KindIn.not_blk h.blk h1) (fun k hk=>by
  rcases hk with rfl | rfl | rfl | ⟨p,hp,rfl⟩
  ·exact KindIn.not_blk h.led.blk h2
  ·obtain ⟨m,hm,_⟩:=h.led.map
   exact KindIn.not_map hm h5
  ·exact KindIn.not_map h.acs h6
  ·exact KindIn.not_blk (h.cells p hp) h3)
theorem Or.own_kind {X BP BO:Nat} {pr:List (Int × Int)} {os:List (Int × Or.Od)} (h:Or.IsBook n0 w X BP BO pr os) {k:Nat} (hk:Or.Own BP BO k):KindIn n0 w [] [BP,BO] k:=by
 have hn:=h.own_low hk
 rcases hk with rfl | rfl
 ·exact KindIn.of_map h.prs (by simp) hn
 ·exact KindIn.of_map h.ods (by simp) hn
theorem Or.stay {X BP BO:Nat} {pr:List (Int × Int)} {os:List (Int × Or.Od)} (h:Or.IsBook n0 w X BP BO pr os) (hT:Touch (KindIn m0 w T M) w w') (h1:184 ∉ T) (h4:67 ∉ T) (h5:BP ∉ M) (h6:BO ∉ M):Or.IsBook n0 w' X BP BO pr os :=
 h.touch hT (KindIn.not_blk h.blk h1) ⟨KindIn.not_map h.prs h5,KindIn.not_map h.ods h6⟩ (fun p hp=>by
  obtain ⟨_,_,cs,hb⟩:=h.lns p hp
  exact KindIn.not_blk hb h4)
theorem In.own_kind {X B:Nat} {m:List ((Int × Int) × In.Ent)} (h:In.IsBox w X B m) {k:Nat} (hk:k=B) (hn:n0≤B):KindIn n0 w [] [B] k:=by
 rw [hk]
 exact KindIn.of_map h.2 (by simp) hn
theorem In.stay {X B:Nat} {m:List ((Int × Int) × In.Ent)} (h:In.IsBox w X B m) (hT:Touch (KindIn m0 w T M) w w') (h1:198 ∉ T) (h2:B ∉ M):In.IsBox w' X B m :=
 ⟨hT.blk h.1 (KindIn.not_blk h.1 h1),hT.isMap h.2 (KindIn.not_map h.2 h2)⟩
theorem rt_kind {R n cap:Nat} {A:Option Addr} {tb e:TypeId} {base m s:Nat} {cs:Array Value} {xs:List Value} (hB:Blk w R tb cs) (hO:w.ownsRow base e s (.slice A n cap) m xs) {k:Nat} (hlt:k < w.heap.size) (hk:RT w.heap.size R A k) (h1:tb ∈ T) (h2:e ∈ T) (hl:n0≤base∧n0≤R):KindIn n0 w T [] k:=by
 rcases hk with rfl | hk | hk
 ·exact KindIn.of_blk hB h1 hl.2
 ·exact KindIn.of_row hO (by cases A with | none=>cases hk | some a=>exact hk) h2 hl.1
 ·omega
theorem In.rstay {base R:Nat} {A:Option Addr} {cap:Nat} {r:List In.Ent} (h:In.IsRef base w R A cap r) (hT:Touch (KindIn m0 w T M) w w') (h1:97 ∉ T) (h2:171 ∉ T):In.IsRef base w' R A cap r :=
 ⟨hT.blk h.blk (KindIn.not_blk h.blk h1),KindIn.row h.own hT h2,h.lt⟩
theorem Cr.rstay {base R:Nat} {A1 A2:Option Addr} {c1 c2:Nat} {ps:List Cr.Pa} {hr:List Cr.Hd} (h:Cr.IsRef base w R A1 c1 ps A2 c2 hr) (hT:Touch (KindIn m0 w T M) w w') (h1:79 ∉ T) (h2:150 ∉ T) (h3:151 ∉ T):Cr.IsRef base w' R A1 c1 ps A2 c2 hr :=
 ⟨hT.blk h.blk (KindIn.not_blk h.blk h1),KindIn.row h.own1 hT h2,KindIn.row h.own2 hT h3,h.lt⟩
theorem Sk.rstay {base R:Nat} {A1 A2:Option Addr} {c1 c2:Nat} {is:List (Int × Int)} {rs:List Sk.Gd} (h:Sk.IsRef base w R A1 c1 is A2 c2 rs) (hT:Touch (KindIn m0 w T M) w w') (h1:84 ∉ T) (h2:203 ∉ T) (h3:158 ∉ T) (h4:205 ∉ T):Sk.IsRef base w' R A1 c1 is A2 c2 rs :=
 ⟨hT.blk h.blk (KindIn.not_blk h.blk h1),KindIn.row h.own1 hT h2,KindIn.row h.own2 hT h3,fun o ho=>(h.lns o ho).touch hT (by
  obtain ⟨_,_,cs,hb⟩:=h.lns o ho
  exact KindIn.not_blk hb h4),h.lt⟩
theorem Mo.rstay {base R:Nat} {A:Option Addr} {cap:Nat} {L:List Mo.Ca} {d:Int} (h:Mo.IsRf base w R A cap L d) (hT:Touch (KindIn m0 w T M) w w') (h1:88 ∉ T) (h2:164 ∉ T):Mo.IsRf base w' R A cap L d :=
 ⟨hT.blk h.blk (KindIn.not_blk h.blk h1),KindIn.row h.own hT h2,h.lt⟩
theorem Or.rstay {base R:Nat} {A1 A2:Option Addr} {c1 c2:Nat} {is:List (Int × Int)} {rs:List Or.Od} (h:Or.IsRef base w R A1 c1 is A2 c2 rs) (hT:Touch (KindIn m0 w T M) w w') (h1:93 ∉ T) (h2:202 ∉ T) (h3:168 ∉ T) (h4:205 ∉ T):Or.IsRef base w' R A1 c1 is A2 c2 rs :=
 ⟨hT.blk h.blk (KindIn.not_blk h.blk h1),KindIn.row h.own1 hT h2,KindIn.row h.own2 hT h3,fun o ho=>(h.lns o ho).touch hT (by
  obtain ⟨_,_,cs,hb⟩:=h.lns o ho
  exact KindIn.not_blk hb h4),h.lt⟩
end
end Go.Proofs.YtakaalldbnklcaaGreat
