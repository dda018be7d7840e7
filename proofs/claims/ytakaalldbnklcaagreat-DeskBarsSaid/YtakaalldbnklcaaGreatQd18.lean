/-
  The document's stock book: Item (the loop is printed by gen_ri15.py).
  The document's stock book: Put (the loop is printed by gen_rp15.py).
  The document's stock book: LevelOf.
  The stock book beside the document's two lists. No program.
-/
import Derived.Test.YtakaalldbnklcaaGreatQd5
import Derived.Test.YtakaalldbnklcaaGreatQd14
import Derived.Deep.RegionHeldLaw
import Derived.Deep.RegionLaw
import Derived.Deep.AppendLies
import Derived.BigRegion
import Derived.BigQuiet
namespace Go.Proofs.YtakaalldbnklcaaGreat.Sk
open Go.RowKit Go.WideShapes Go.ChangeShapes Go.ChangeAt Go.Deep
set_option linter.unusedVariables false
theorem ins_start {α:Type} {enc:α→List Value} {s:Nat} {t tb:TypeId} {base R j:Nat} {A:Option Addr} {r:List α} {x:α} {w0 w3:World} {v':Value} {cs:Array Value} (n:Nat)
  (h3:Blk w3 R tb cs) (hO:w3.ownsRow base t s v' (r.length + 1) (r.flatMap enc++enc x)) (hT:Touch (RT n R A) w0 w3) (hlt:R < base) (hloc:∀ g,v'.ownBlock=some g→RT n R A g) :
  ∃ g cap',v' = .slice (some ⟨g,0,none⟩) (r.length + 1) cap'∧g ≠ R∧base≤g∧RT n R A g∧InsRow enc s t base g cap' (w3.setCell ⟨R,j,none⟩ (.slice (some ⟨g,0,none⟩) (r.length + 1) cap')) (midK r x r.length) (w3.setCell ⟨R,j,none⟩ (.slice (some ⟨g,0,none⟩) (r.length + 1) cap')) ∧
   Touch (RT n R A) w0 (w3.setCell ⟨R,j,none⟩ (.slice (some ⟨g,0,none⟩) (r.length + 1) cap'))∧Blk (w3.setCell ⟨R,j,none⟩ (.slice (some ⟨g,0,none⟩) (r.length + 1) cap')) R tb (cs.setIfInBounds j (.slice (some ⟨g,0,none⟩) (r.length + 1) cap')):=by
 have e:r.flatMap enc++enc x=(r++[x]).flatMap enc:=by simp
 rw [e] at hO
 have hO':w3.ownsRow base t s v' (r++[x]).length ((r++[x]).flatMap enc):=by simpa using hO
 obtain ⟨g,cap',rfl,hbg,hgl⟩:=own_form hO' (by simp)
 have hl:(r++[x]).length=r.length + 1:=by simp
 rw [hl] at hloc ⊢
 have hne:g ≠ R:=by omega
 have hg:w3.grownBy (w3.setCell ⟨R,j,none⟩ (.slice (some ⟨g,0,none⟩) (r.length + 1) cap')) (some R):=⟨rfl,rfl,rfl,by simp,fun k _ hk=>heap_setCell_other w3 ⟨R,j,none⟩ k _ (fun e=>hk (by simp [e]))⟩
 refine ⟨g,cap',rfl,hne,hbg,hloc g rfl,⟨?_,Touch.refl _ _⟩,hT.then ((Touch.setCell w3 R j _).mono (fun k hk => .inl hk)),h3.set_ j _⟩
 rw [midK_end]
 have:=hO'.kept hg (.inr (by simp [Value.ownBlock]; exact hne))
 exact this
section
variable {base R c1 c2:Nat} {A1 A2:Option Addr} {is:List (Int × Int)} {rs:List Gd} {w w4 wr:World}
theorem rt_not {A:Option Addr} {n cap m s k:Nat} {t tk:TypeId} {xs:List Value} {cs cs2:Array Value} {t2:TypeId} (hR:Blk w R t2 cs2) (hA:w.ownsRow base t s (.slice A n cap) m xs) (hk:Blk w k tk cs) (h1:tk ≠ t2) (h2:tk ≠ t):¬ RT w.heap.size R A k:=by
 rintro (rfl | e | e)
 ·exact hk.ne_ hR h1 rfl
 ·obtain ⟨cs',hb⟩:=rowBlk15 hA e
  exact hk.ne_ hb h2 rfl
 ·have:=hk.lt; omega
theorem IsRef.ins1 {g cap':Nat} {l:List (Int × Int)} (h:IsRef base w R A1 c1 is A2 c2 rs) (hI:InsRow en2 2 203 base g cap' w4 l wr) (hB:Blk w4 R 84 #[.slice (some ⟨g,0,none⟩) l.length cap',.slice A2 rs.length c2])
  (hT:Touch (RT w.heap.size R A1) w w4) (hg:RT w.heap.size R A1 g) (hgR:g ≠ R) (_hx:True):IsRef base wr R (some ⟨g,0,none⟩) cap' l A2 c2 rs∧Touch (RT w.heap.size R A1) w wr:=by
 have hT2:Touch (RT w.heap.size R A1) w wr:=hT.then (hI.touch.mono (fun k hk=>by subst hk; exact hg))
 refine ⟨⟨hI.touch.blk hB (fun e=>hgR e.symm),hI.own,own_touch h.own2 hT2 (fun k hk => ?_),fun o ho=>(h.lns o ho).touch hT2 ?_,h.lt⟩,hT2⟩
 ·obtain ⟨cs,hb⟩:=rowBlk15 h.own2 (b:=k) (by cases A2 with | none=>simp [Value.ownBlock] at hk | some a=>simpa [Value.ownBlock] using hk)
  exact rt_not h.blk h.own1 hb (by decide) (by decide)
 ·obtain ⟨_,_,cs,hb⟩:=h.lns o ho
  exact rt_not h.blk h.own1 hb (by decide) (by decide)
def ItPost (base R:Nat) (A1 A2:Option Addr) (c2:Nat) (is:List (Int × Int)) (rs:List Gd) (id:Int) (w:World) (e:Ending) (w':World):Prop :=
 ∃ A1' c1',e = .returned (.int .i64 0)∧IsRef base w' R A1' c1' (insK Prod.fst ltI is (id,0)) A2 c2 rs∧Touch (RT w.heap.size R A1) w w'
set_option maxRecDepth 100000 in
set_option maxHeartbeats 4000000 in
theorem ritem_no (id:Int) (hno:¬ (1≤id∧id≤64)) (v:Value) :
  Calls Tryz.prog 28 #[v,.int .i64 id] w fun e w'=>e = .returned (.int .i64 2)∧w=w':=by
 rcases (show id < 1∨(1≤id∧64 < id) from by omega) with h1 | ⟨h1,h2⟩
 all_goals
  clear hno
  go_enter Tryz.func28,Tryz.ntmps28
  go_wp2_with fail
  go_ret
  exact ⟨rfl,rfl⟩
set_option maxRecDepth 100000 in
set_option maxHeartbeats 4000000 in
theorem ritem_old (h:IsRef base w R A1 c1 is A2 c2 rs) (id:Int) (hok:1≤id∧id≤64) (hl:is.length≤140737488355328) {k:Nat} (he:plc (isI id) is=k) :
  Calls Tryz.prog 28 #[.pointer (some ⟨R,0,none⟩),.int .i64 id] w fun e w'=>e = .returned (.int .i64 0)∧w=w':=by
 obtain ⟨h1,h2⟩:=hok
 have F:=rfind_any h id hl
 rw [he] at F
 replace F:=hid F
 clear he h
 go_enter Tryz.func28,Tryz.ntmps28
 go_wp2_with fail
 refine F.out.mono ?_
 rintro e w1 ⟨rfl,rfl⟩
 go_wp2_with fail
 go_ret
 exact ⟨rfl,rfl⟩
set_option maxRecDepth 100000 in
set_option maxHeartbeats 8000000 in
theorem ritem_new (h:IsRef base w R A1 c1 is A2 c2 rs) (hs:SortedK Prod.fst ltI is) (id:Int) (hok:1≤id∧id≤64) (hn:∀ y ∈ is,isI id y=false) (hl:is.length * 16 + 16≤140737488355328) (hbw:base≤w.heap.size) :
    Calls Tryz.prog 28 #[.pointer (some ⟨R,0,none⟩),.int .i64 id] w (ItPost base R A1 A2 c2 is rs id w):=by
    obtain ⟨h1,h2⟩:=hok
    have F:=rfind_any h id (by omega)
    rw [plc_none hn] at F
    have HN:=hid (show ((id,0):Int × Int).1 ∉ is.map Prod.fst from fun hin=>by
      obtain ⟨y,hy,e⟩:=List.mem_map.1 hin
      have:=hn y hy
      simp [isI] at this
      exact this e)
    have HNL:=hid trivial
    have HS:=hid hs
    have HF:=hid F
    clear F hn hs
    obtain ⟨i0,hi,hz0,hz1,hz2⟩:=info_parts info_rg
    have c0:=h.cell0
    have HO:=hid h.own1
    have HB:=hid (h.blk.alloc (.cells #[.int .i64 id,.int .i64 0] 203))
    have HT:=hid ((Touch.refl (RT w.heap.size R A1) w).alloc (.cells #[.int .i64 id,.int .i64 0] 203))
    have hRw:R < w.heap.size:=h.blk.lt
    have hRb:=h.lt
    have H:=hid h
    clear h
    go_enter Tryz.func28,Tryz.ntmps28
    go_wp2_with fail
    refine HF.out.mono ?_
    rintro e w1 ⟨rfl,rfl⟩
    clear HF
    go_wp2_with (first
      | (at_builtin; refine wpList_push_at _ rfl _ _ 81 rfl base 203 i0 _ 2 16 Tryz.underlying81 hi hz0 hz1 hz2 rfl (by decide) _ _ _ (by rfl) HO.out #[.int .i64 id,.int .i64 0] w.heap.size (by simp) (by rfl) (by rfl) (by rfl) (by unfold maxLen; omega) (by omega) (by omega) ?_; intro v' w3 hO3 hg3 hat3
         have hB3:=HB.out.grown hg3 (fun e=>by have:=(HO.out.lt R e.symm).1; omega)
         have hT3:=HT.out.then (touch_row hg3 (fun k hk => .inr (.inl (by cases A1 with | none=>simp [Value.ownBlock] at hk | some a=>simpa [Value.ownBlock] using hk))))
         have c3:w3.cell? ⟨R,0,none⟩=some (.slice A1 is.length c1):=hB3.cell 0
         have f3:=hB3.free 0
         obtain ⟨g,cap',rfl,hgR,hbg,hrt,hI0,hT4,hB4⟩:=ins_start (j:=0) (x:=((id,0):Int × Int)) w.heap.size hB3 hO3 hT3 hRb (fun g hg=>hat3.elim (fun e => .inr (.inl (by rw [e] at hg; cases A1 with | none=>simp [Value.ownBlock] at hg | some a=>simpa [Value.ownBlock] using hg))) (fun e => .inr (.inr (by rw [e] at hg; injection hg with hg; omega))))
         replace hI0:=hid hI0
         replace hT4:=hid hT4
         replace hB4:=hid hB4
         clear hO3 hg3 hat3 hB3 hT3))
    clear HO HB HT c0 c3 f3 hi hz0 hz1 hz2
    obtain ⟨w4,hw4⟩:∃ w4,w4=w3.setCell ⟨R,0,none⟩ (.slice (some ⟨g,0,none⟩) (is.length + 1) cap'):=⟨_,rfl⟩
    have hI:=hI0.out
    replace hT4:=hT4.out
    replace hB4:=hB4.out
    rw [← hw4] at hI hT4 hB4 ⊢
    have hBB:Blk w4 R 84 #[.slice (some ⟨g,0,none⟩) (is.length + 1) cap',.slice A2 rs.length c2]:=by simpa using hB4
    have HT4:=hid hT4
    have HBB:=hid hBB
    clear hw4 hI0 hT4 hB4 hBB
    go_loopw [6] (fun i wr=>∃ k:Nat,k≤is.length∧i = .int .i64 k∧Hid (Behind Prod.fst ltI is ((id,0):Int × Int) k)∧InsRow en2 2 203 base g cap' w4 (midK is ((id,0):Int × Int) k) wr) (fun i _=>nOf i)
    case atStart=>exact ⟨is.length,Nat.le_refl _,by go_num,hid behind_end,hI⟩
    case round =>
      clear hI
      obtain ⟨k,hk,rfl,hP,hI⟩:=hrel
      have hln:=midK_len (z:=((id,0):Int × Int)) hk
      obtain ⟨n1,hn1⟩:∃ n1,n1=is.length + 1:=⟨_,rfl⟩
      have c0:wr.cell? ⟨R,0,none⟩=some (.slice (some ⟨g,0,none⟩) n1 cap'):=by rw [hn1]; exact (hI.touch.blk HBB.out (fun e=>hgR e.symm)).cell 0
      have lR:R < wr.heap.size:=(hI.touch.blk HBB.out (fun e=>hgR e.symm)).lt
      have hkn:k < n1:=by omega
      have hn2:n1≤140737488355328:=by omega
      have e2:=hI.elem en2_len (midK_here hk)
      have lg:g < wr.heap.size:=e2.1
      have q0:wr.cell? ⟨g,k * 2,none⟩=some (.int .i64 id):=e2.2 0 _ rfl
      have q1:wr.cell? ⟨g,k * 2 + 1,none⟩=some (.int .i64 0):=e2.2 1 _ rfl
      have HEX:Hid (∀ w',(∀ y,0 < k→is[k - 1]?=some y→ltI (Prod.fst ((id,0):Int × Int)) (Prod.fst y)=false)→Below wr.heap.size wr w'→ItPost base R A1 A2 c2 is rs id w (.returned (.int .i64 0)) w'):=hid (fun w' hf hb=>by
        have hI':=hI.next hb
        rw [midK_done linI HS.out HN.out hk hP.out hf] at hI'
        obtain ⟨a1,a2⟩:=H.out.ins1 hI' (by rw [insK_length]; exact HBB.out) HT4.out hrt hgR HNL.out
        exact ⟨_,_,rfl,a1,a2⟩)
      by_cases hk0:0 < k
      · obtain ⟨y,hy⟩:∃ y,is[k - 1]?=some y:=⟨is[k - 1],List.getElem?_eq_getElem (by omega)⟩
        have e1:=hI.elem en2_len (k:=k - 1) (y:=y) (by rw [midK_at hk0 hk]; exact hy)
        have hkw:IntKind.i64.wrap ((k:Int) - 1)=((k - 1:Nat):Int):=by rw [IntWalk.i64_in _ ⟨by omega,by omega⟩]; omega
        have hkl:k - 1 < n1:=by omega
        have HY:=hid hy
        obtain ⟨yi,yl⟩:=y
        have p0:wr.cell? ⟨g,(k - 1) * 2,none⟩=some (.int .i64 yi):=e1.2 0 _ rfl
        have p1:wr.cell? ⟨g,(k - 1) * 2 + 1,none⟩=some (.int .i64 yl):=e1.2 1 _ rfl
        clear e1 e2 hy
        by_cases hlt:id < yi
        · have HP2:=hid (behind_step hP.out hk0 HY.out (by simp [ltI,hlt]))
          have HS2:=hid (midK_step (z:=((id,0):Int × Int)) hk0 hk HY.out)
          have HLN:=hid hln
          have HI:=hid hI
          have HN1:=hid hn1
          clear hI hln hn1
          go_wp2_with fail
          go_quiet (fail)
          obtain ⟨wd,hwd,hIDs,d0,dR,dG,r0,r1,s0,s1⟩:∃ wd,wd=wr.drewN nq∧Hid (InsRow en2 2 203 base g cap' w4 (midK is ((id,0):Int × Int) k) wd)∧wd.cell? ⟨R,0,none⟩=some (.slice (some ⟨g,0,none⟩) n1 cap')∧R < wd.heap.size∧g < wd.heap.size∧wd.cell? ⟨g,k * 2,none⟩=some (.int .i64 id)∧wd.cell? ⟨g,k * 2 + 1,none⟩=some (.int .i64 0)∧wd.cell? ⟨g,(k - 1) * 2,none⟩=some (.int .i64 yi)∧wd.cell? ⟨g,(k - 1) * 2 + 1,none⟩=some (.int .i64 yl):=⟨_,rfl,hid (HI.out.next (below_drewN (Below.refl _ _) nq)),c0,lR,lg,q0,q1,p0,p1⟩
          rw [← hwd]
          clear hwd HI c0 lR lg q0 q1 p0 p1 HEX
          have hbx:Below wd.heap.size wd (wd.alloc (.cells #[.int .i64 id,.int .i64 0] 203)):=(Below.refl _ _).alloc (Nat.le_refl _) _
          have hGx:=Blk.new wd 203 #[.int .i64 id,.int .i64 0]
          replace hbx:=hid hbx
          replace hGx:=hid hGx
          go_wp2_with fail
          obtain ⟨wx,hwx⟩:∃ wx,wx=wd.alloc (.cells #[.int .i64 id,.int .i64 0] 203):=⟨_,rfl⟩
          rw [← hwx] at hbx hGx ⊢
          obtain ⟨G,hG⟩:∃ G,G=wd.heap.size:=⟨_,rfl⟩
          have hgG:g ≠ G:=by omega
          have hRG:R ≠ G:=by omega
          rw [← hG] at hGx ⊢
          have hIx:=hIDs.out.next hbx.out
          have c0:wx.cell? ⟨R,0,none⟩=some (.slice (some ⟨g,0,none⟩) n1 cap'):=(hbx.out.cell (p:=⟨R,0,none⟩) dR).trans d0
          have lR:R < wx.heap.size:=Nat.lt_of_lt_of_le dR hbx.out.size
          have lg:g < wx.heap.size:=Nat.lt_of_lt_of_le dG hbx.out.size
          have q0:wx.cell? ⟨g,k * 2,none⟩=some (.int .i64 id):=(hbx.out.cell (p:=⟨g,k * 2,none⟩) dG).trans r0
          have q1:wx.cell? ⟨g,k * 2 + 1,none⟩=some (.int .i64 0):=(hbx.out.cell (p:=⟨g,k * 2 + 1,none⟩) dG).trans r1
          have p0:wx.cell? ⟨g,(k - 1) * 2,none⟩=some (.int .i64 yi):=(hbx.out.cell (p:=⟨g,(k - 1) * 2,none⟩) dG).trans s0
          have p1:wx.cell? ⟨g,(k - 1) * 2 + 1,none⟩=some (.int .i64 yl):=(hbx.out.cell (p:=⟨g,(k - 1) * 2 + 1,none⟩) dG).trans s1
          have f0:=hIx.free (k * 2)
          have f1:=hIx.free (k * 2 + 1)
          have hJ:=(hIx.put en2_len (k:=k) (by have:=HLN.out; omega) ((yi,yl):Int × Int)).drew
          have hGJ:=hid (((Touch.of_grown (own_storeMany hIx.own (k * 2) (en2 ((yi,yl):Int × Int))).2).blk hGx.out (fun e=>hgG e.symm)).next (below_drewN (Below.refl _ _) 1))
          have hJ2:=hid (show InsRow en2 2 203 base g cap' w4 ((midK is ((id,0):Int × Int) k).set k ((yi,yl):Int × Int)) _ from hJ)
          clear hwx hG hIDs hIx hJ d0 dR dG r0 r1 s0 s1
          refine wp_tail 14 (by kernel_rfl) (by kernel_rfl) ?_
          simp only [List.take_succ_cons,List.take_zero,List.drop_succ_cons,List.drop_zero]
          repeat still_step
          refine wpStill_nil ?_
          go_wp2_with fail
          obtain ⟨wy,hwy⟩:∃ wy,wy=((wx.setCell ⟨g,k * 2,none⟩ (.int .i64 yi)).setCell ⟨g,k * 2 + 1,none⟩ (.int .i64 yl)).drew:=⟨_,rfl⟩
          have hJy:InsRow en2 2 203 base g cap' w4 ((midK is ((id,0):Int × Int) k).set k ((yi,yl):Int × Int)) wy:=by rw [hwy]; exact hJ2.out
          have hGy:Blk wy G 203 #[.int .i64 id,.int .i64 0]:=by rw [hwy]; exact hGJ.out
          rw [← hwy]
          clear hwy hJ2 hGJ c0 lR lg q0 q1 p0 p1 f0 f1 hbx hGx
          have c0:wy.cell? ⟨R,0,none⟩=some (.slice (some ⟨g,0,none⟩) n1 cap'):=by rw [HN1.out]; exact (hJy.touch.blk HBB.out (fun e=>hgR e.symm)).cell 0
          have lR:R < wy.heap.size:=(hJy.touch.blk HBB.out (fun e=>hgR e.symm)).lt
          have e1:=hJy.elem en2_len (k:=k - 1) (y:=((yi,yl):Int × Int)) (by rw [List.getElem?_set_ne (by omega),midK_at hk0 hk]; exact HY.out)
          have lg:g < wy.heap.size:=e1.1
          have p0:wy.cell? ⟨g,(k - 1) * 2,none⟩=some (.int .i64 yi):=e1.2 0 _ rfl
          have p1:wy.cell? ⟨g,(k - 1) * 2 + 1,none⟩=some (.int .i64 yl):=e1.2 1 _ rfl
          have g0:wy.cell? ⟨G,0,none⟩=some (.int .i64 id):=hGy.cell 0
          have g1:wy.cell? ⟨G,1,none⟩=some (.int .i64 0):=hGy.cell 1
          have f0:=hJy.free ((k - 1) * 2)
          have f1:=hJy.free ((k - 1) * 2 + 1)
          have hJz:=(hJy.put en2_len (k:=k - 1) (by rw [List.length_set]; have:=HLN.out; omega) ((id,0):Int × Int)).drew
          rw [HS2.out] at hJz
          replace hJz:=hid hJz
          clear e1 hJy hGy
          refine wp_tail 8 (by kernel_rfl) (by kernel_rfl) ?_
          simp only [List.take_succ_cons,List.take_zero,List.drop_succ_cons,List.drop_zero]
          repeat still_step
          refine wpStill_nil ?_
          clear hkw
          go_wp2_with fail
          go_roundw
          case rel=>exact ⟨k - 1,by omega,by congr 1; omega,HP2,hJz.out⟩
          case measure=>simp [nOf]; omega
        · have hd:decide (id < yi)=false:=decide_eq_false hlt
          have HX2:=hid (fun n=>HEX.out (wr.drewN n) (fun y hy0 hy1=>by rw [HY.out] at hy1; injection hy1 with hy1; subst hy1; simp [ltI,hlt]) (below_drewN (Below.refl _ _) n))
          clear hlt hI hln hn1 HEX
          go_wp2_with fail
          go_quiet (fail)
          go_wp2_with fail
          go_ret
          exact HX2.out _
      · have hd:decide (0 < k)=false:=decide_eq_false hk0
        have HX2:=hid (fun n=>HEX.out (wr.drewN n) (fun y hy0 hy1=>absurd hy0 hk0) (below_drewN (Below.refl _ _) n))
        clear HEX hI hln hn1 e2
        go_wp2_with fail
        go_quiet (fail)
        go_wp2_with fail
        go_ret
        exact HX2.out _
end
end Go.Proofs.YtakaalldbnklcaaGreat.Sk
namespace Go.Proofs.YtakaalldbnklcaaGreat.Sk
open Go.RowKit Go.WideShapes Go.ChangeShapes Go.ChangeAt Go.Deep
set_option linter.unusedVariables false
section
variable {base R c1 c2:Nat} {A1 A2:Option Addr} {is:List (Int × Int)} {rs:List Gd} {w w4 wr:World}
theorem IsRef.ins2 {g cap':Nat} {l:List Gd} (h:IsRef base w R A1 c1 is A2 c2 rs) (hI:InsRow enG3 3 158 base g cap' w4 l wr) (hB:Blk w4 R 84 #[.slice A1 is.length c1,.slice (some ⟨g,0,none⟩) l.length cap'])
  (hT:Touch (RT w.heap.size R A2) w w4) (hg:RT w.heap.size R A2 g) (hgR:g ≠ R) (hl:∀ o ∈ l,LnsAt base w o):IsRef base wr R A1 c1 is (some ⟨g,0,none⟩) cap' l∧Touch (RT w.heap.size R A2) w wr:=by
 have hT2:Touch (RT w.heap.size R A2) w wr:=hT.then (hI.touch.mono (fun k hk=>by subst hk; exact hg))
 refine ⟨⟨hI.touch.blk hB (fun e=>hgR e.symm),own_touch h.own1 hT2 (fun k hk => ?_),hI.own,fun o ho=>(hl o ho).touch hT2 ?_,h.lt⟩,hT2⟩
 ·obtain ⟨cs,hb⟩:=rowBlk15 h.own1 (b:=k) (by cases A1 with | none=>simp [Value.ownBlock] at hk | some a=>simpa [Value.ownBlock] using hk)
  exact rt_not h.blk h.own2 hb (by decide) (by decide)
 ·obtain ⟨_,_,cs,hb⟩:=hl o ho
  exact rt_not h.blk h.own2 hb (by decide) (by decide)
def PutPost (base R:Nat) (A1 A2:Option Addr) (c1:Nat) (is:List (Int × Int)) (rs:List Gd) (d:Gd) (w:World) (e:Ending) (w':World):Prop :=
 ∃ A2' c2',e = .returned (.tuple #[])∧IsRef base w' R A1 c1 is A2' c2' (insK Gd.o ltI rs d)∧Touch (RT w.heap.size R A2) w w'
set_option maxRecDepth 100000 in
set_option maxHeartbeats 8000000 in
theorem rput_any (h:IsRef base w R A1 c1 is A2 c2 rs) (hs:SortedK Gd.o ltI rs) (d:Gd) (hn:d.o ∉ rs.map Gd.o) (hd:LnsAt base w d) (hl:rs.length * 40 + 40≤140737488355328) (hbw:base≤w.heap.size) :
  Calls Tryz.prog 207 #[.pointer (some ⟨R,0,none⟩),.agg #[.int .i64 d.o,.int .i64 d.st,.slice (some ⟨d.b,0,none⟩) d.ls.length d.cap]] w (PutPost base R A1 A2 c1 is rs d w):=by
  obtain ⟨dg,do',dst,db,dcap,dls⟩:=d
  simp only at hn ⊢
  have HN:=hid (show (⟨dg,do',dst,db,dcap,dls⟩:Gd).o ∉ rs.map Gd.o from hn)
  have HS:=hid hs
  have HLN2:=hid (show ∀ x ∈ (⟨dg,do',dst,db,dcap,dls⟩:Gd) :: rs,LnsAt base w x from fun x hx=>by
   rcases List.mem_cons.1 hx with rfl | hx
   ·exact hd
   ·exact h.lns x hx)
  clear hn hs hd
  obtain ⟨i0,hi,hz0,hz1,hz2⟩:=info_parts info_rd
  obtain ⟨wz,hwz⟩:∃ wz,wz=w.alloc (.cells #[.int .i64 do',.int .i64 dst,.slice (some ⟨db,0,none⟩) dls.length dcap] 158):=⟨_,rfl⟩
  obtain ⟨G0,hG0⟩:∃ G0,G0=w.heap.size:=⟨_,rfl⟩
  have hz:IsRef base wz R A1 c1 is A2 c2 rs:=by rw [hwz]; exact h.alloc _
  have hGz:Blk wz G0 158 #[.int .i64 do',.int .i64 dst,.slice (some ⟨db,0,none⟩) dls.length dcap]:=by rw [hwz,hG0]; exact Blk.new _ _ _
  have hTz:Touch (RT w.heap.size R A2) w wz:=by rw [hwz]; exact (Touch.refl _ _).alloc _
  have HW:=hid hwz
  have HG:=hid hG0
  have hRw:R < w.heap.size:=h.blk.lt
  have hRG:R ≠ G0:=by omega
  have hRb:=h.lt
  have hbz:base≤wz.heap.size:=Nat.le_trans hbw hTz.size
  have H:=hid h
  clear h hwz hG0
  go_enter Tryz.func207,Tryz.ntmps207
  go_wp2_with fail
  rw [← HW.out, ← HG.out]
  have c0:wz.cell? ⟨R,1,none⟩=some (.slice A2 rs.length c2):=hz.cell1
  have g0:wz.cell? ⟨G0,0,none⟩=some (.int .i64 do'):=hGz.cell 0
  have g1:wz.cell? ⟨G0,1,none⟩=some (.int .i64 dst):=hGz.cell 1
  have g2:wz.cell? ⟨G0,2,none⟩=some (.slice (some ⟨db,0,none⟩) dls.length dcap):=hGz.cell 2
  have lR:R < wz.heap.size:=hz.blk.lt
  have lG:G0 < wz.heap.size:=hGz.lt
  have hO:=hid (((hz.next (below_drewN (Below.refl _ _) 1)).own2).alloc (.cells #[.int .i64 do',.int .i64 dst,.slice (some ⟨db,0,none⟩) dls.length dcap] 158))
  have hRk:=(hz.next (below_drewN (Below.refl _ _) 1)).blk.alloc (.cells #[.int .i64 do',.int .i64 dst,.slice (some ⟨db,0,none⟩) dls.length dcap] 158)
  have hT:=hid (hTz.drew.alloc (.cells #[.int .i64 do',.int .i64 dst,.slice (some ⟨db,0,none⟩) dls.length dcap] 158))
  have HL2:=hid (show some R ≠ (Value.slice A2 rs.length c2).ownBlock from fun e=>by have:=(H.out.own2.lt R e.symm).1; omega)
  have hwsz:=hTz.size
  clear hz hGz hTz
  go_region_law ((refine step_append_lies _ (by rfl) _ _ _ (by rfl) base 158 i0 _ 3 40 Tryz.underlying82 hi hz0 hz1 hz2 rfl (by decide) _ _ _ (by rfl) hO.out ⟨wz.heap.size,0,none⟩ 1 1 [.int .i64 do',.int .i64 dst,.slice (some ⟨db,0,none⟩) dls.length dcap] (by rfl) (by rfl) (World.news_of_block (heap_alloc_new _ _)) (enG3_one ⟨dg,do',dst,db,dcap,dls⟩) (by omega) (by unfold maxLen; omega) (by omega) (by simp; omega) _ rfl ?_; intro g7 cap7 w7 hO7 hg7 hat7 hlt7; have hB7:=hRk.grown hg7 HL2.out; have c7:w7.cell? ⟨R,1,none⟩=some (.slice A2 rs.length c2):=hB7.cell 1; have f7:=hB7.free 1))
  all_goals
   have hT7:=hT.out.then (touch_row hg7 (fun k hk => .inr (.inl (by cases A2 with | none=>simp [Value.ownBlock] at hk | some a=>simpa [Value.ownBlock] using hk))))
   have hrt7:RT w.heap.size R A2 g7:=by
    rcases hat7 with e | e
    ·refine .inr (.inl ?_)
     cases A2 with
     | none=>simp [Value.ownBlock] at e
     | some a=>simpa [Value.ownBlock] using e
    ·refine .inr (.inr ?_)
     simp at e
     omega
   obtain ⟨g,cap',e7,hgR,hbg,hrt,hI0,hT4,hB4⟩:=ins_start (j:=1) (x:=(⟨dg,do',dst,db,dcap,dls⟩:Gd)) (enc:=enG3) w.heap.size hB7 hO7 hT7 hRb (fun g hg=>by
    have hg':g7=g:=by simpa [Value.ownBlock] using hg
    subst hg'
    exact hrt7)
   injection e7 with e8 e9 e10
   injection e8 with e8
   injection e8 with e8
   subst e8 e10
   obtain ⟨w4,hw4⟩:∃ w4,w4=w7.setCell ⟨R,1,none⟩ (.slice (some ⟨g7,0,none⟩) (rs.length + 1) cap7):=⟨_,rfl⟩
   rw [← hw4] at hI0 hT4 hB4 ⊢
   have hBB:Blk w4 R 84 #[.slice A1 is.length c1,.slice (some ⟨g7,0,none⟩) (rs.length + 1) cap7]:=by simpa using hB4
   obtain ⟨g,hgg⟩:∃ g,g=g7:=⟨_,rfl⟩
   obtain ⟨cap',hcc⟩:∃ cap',cap'=cap7:=⟨_,rfl⟩
   rw [← hgg] at hI0 hrt hgR hbg hBB ⊢
   rw [← hcc] at hI0 hBB ⊢
   have c4:w4.cell? ⟨R,1,none⟩=some (.slice (some ⟨g,0,none⟩) (rs.length + 1) cap'):=hBB.cell 1
   have lR4:R < w4.heap.size:=hBB.lt
   have HT4:=hid hT4
   have HBB:=hid hBB
   have hI:=hid hI0
   clear hw4 hI0 hT4 hB4 hBB hT7 hO7 hg7 hat7 hlt7 hB7 c7 f7 hgg hcc c0 g0 g1 g2 lR lG hO hRk hT HL2
   go_wp2_with fail
   replace hI:=hI.out
   clear c4 lR4
   go_loopw [4] (fun i wr=>∃ k:Nat,k≤rs.length∧i = .int .i64 k∧Hid (Behind Gd.o ltI rs (⟨dg,do',dst,db,dcap,dls⟩:Gd) k)∧InsRow enG3 3 158 base g cap' w4 (midK rs (⟨dg,do',dst,db,dcap,dls⟩:Gd) k) wr) (fun i _=>nOf i)
   case atStart=>exact ⟨rs.length,Nat.le_refl _,by go_num,hid behind_end,hI⟩
   case round =>
    clear hI
    obtain ⟨k,hk,rfl,hP,hI⟩:=hrel
    have hln:=midK_len (z:=(⟨dg,do',dst,db,dcap,dls⟩:Gd)) hk
    obtain ⟨n1,hn1⟩:∃ n1,n1=rs.length + 1:=⟨_,rfl⟩
    have c0:wr.cell? ⟨R,1,none⟩=some (.slice (some ⟨g,0,none⟩) n1 cap'):=by rw [hn1]; exact (hI.touch.blk HBB.out (fun e=>hgR e.symm)).cell 1
    have lR:R < wr.heap.size:=(hI.touch.blk HBB.out (fun e=>hgR e.symm)).lt
    have hkn:k < n1:=by omega
    have hn2:n1≤140737488355328:=by omega
    have e2:=hI.elem enG3_len (midK_here hk)
    have lg:g < wr.heap.size:=e2.1
    have q0:wr.cell? ⟨g,k * 3,none⟩=some (.int .i64 do'):=e2.2 0 _ rfl
    have q1:wr.cell? ⟨g,k * 3 + 1,none⟩=some (.int .i64 dst):=e2.2 1 _ rfl
    have q2:wr.cell? ⟨g,k * 3 + 2,none⟩=some (.slice (some ⟨db,0,none⟩) dls.length dcap):=e2.2 2 _ rfl
    have HEX:Hid (∀ w',(∀ y,0 < k→rs[k - 1]?=some y→ltI (Gd.o (⟨dg,do',dst,db,dcap,dls⟩:Gd)) (Gd.o y)=false)→Below wr.heap.size wr w'→PutPost base R A1 A2 c1 is rs (⟨dg,do',dst,db,dcap,dls⟩:Gd) w (.returned (.tuple #[])) w'):=hid (fun w' hf hb=>by
     have hI':=hI.next hb
     rw [midK_done linI HS.out HN.out hk hP.out hf] at hI'
     obtain ⟨a1,a2⟩:=H.out.ins2 hI' (by rw [insK_length]; exact HBB.out) HT4.out hrt hgR (fun x hx=>HLN2.out x ((insK_perm _ _).mem_iff.1 hx))
     exact ⟨_,_,rfl,a1,a2⟩)
    by_cases hk0:0 < k
    ·obtain ⟨y,hy⟩:∃ y,rs[k - 1]?=some y:=⟨rs[k - 1],List.getElem?_eq_getElem (by omega)⟩
     have e1:=hI.elem enG3_len (k:=k - 1) (y:=y) (by rw [midK_at hk0 hk]; exact hy)
     have hkw:IntKind.i64.wrap ((k:Int) - 1)=((k - 1:Nat):Int):=by rw [IntWalk.i64_in _ ⟨by omega,by omega⟩]; omega
     have hkl:k - 1 < n1:=by omega
     have HY:=hid hy
     obtain ⟨yg,yo,yst,yb,ycap,yls⟩:=y
     have p0:wr.cell? ⟨g,(k - 1) * 3,none⟩=some (.int .i64 yo):=e1.2 0 _ rfl
     have p1:wr.cell? ⟨g,(k - 1) * 3 + 1,none⟩=some (.int .i64 yst):=e1.2 1 _ rfl
     have p2:wr.cell? ⟨g,(k - 1) * 3 + 2,none⟩=some (.slice (some ⟨yb,0,none⟩) yls.length ycap):=e1.2 2 _ rfl
     clear e1 e2 hy
     by_cases hlt:do' < yo
     ·have HP2:=hid (behind_step hP.out hk0 HY.out (by simp [ltI,hlt]))
      have HS2:=hid (midK_step (z:=(⟨dg,do',dst,db,dcap,dls⟩:Gd)) hk0 hk HY.out)
      have HLN:=hid hln
      have HI:=hid hI
      have HN1:=hid hn1
      clear hI hln hn1
      go_wp2_with fail
      go_quiet (fail)
      obtain ⟨wd,hwd,hIDs,d0,dR,dG,r0,r1,r2,s0,s1,s2⟩:∃ wd,wd=wr.drewN nq∧Hid (InsRow enG3 3 158 base g cap' w4 (midK rs (⟨dg,do',dst,db,dcap,dls⟩:Gd) k) wd)∧wd.cell? ⟨R,1,none⟩=some (.slice (some ⟨g,0,none⟩) n1 cap')∧R < wd.heap.size∧g < wd.heap.size∧wd.cell? ⟨g,k * 3,none⟩=some (.int .i64 do')∧wd.cell? ⟨g,k * 3 + 1,none⟩=some (.int .i64 dst)∧wd.cell? ⟨g,k * 3 + 2,none⟩=some (.slice (some ⟨db,0,none⟩) dls.length dcap)∧wd.cell? ⟨g,(k - 1) * 3,none⟩=some (.int .i64 yo)∧wd.cell? ⟨g,(k - 1) * 3 + 1,none⟩=some (.int .i64 yst)∧wd.cell? ⟨g,(k - 1) * 3 + 2,none⟩=some (.slice (some ⟨yb,0,none⟩) yls.length ycap):=⟨_,rfl,hid (HI.out.next (below_drewN (Below.refl _ _) nq)),c0,lR,lg,q0,q1,q2,p0,p1,p2⟩
      rw [← hwd]
      clear hwd HI c0 lR lg q0 q1 q2 p0 p1 p2 HEX
      have hbx:Below wd.heap.size wd (wd.alloc (.cells #[.int .i64 do',.int .i64 dst,.slice (some ⟨db,0,none⟩) dls.length dcap] 158)):=(Below.refl _ _).alloc (Nat.le_refl _) _
      have hGx:=Blk.new wd 158 #[.int .i64 do',.int .i64 dst,.slice (some ⟨db,0,none⟩) dls.length dcap]
      replace hbx:=hid hbx
      replace hGx:=hid hGx
      go_wp2_with fail
      obtain ⟨wx,hwx⟩:∃ wx,wx=wd.alloc (.cells #[.int .i64 do',.int .i64 dst,.slice (some ⟨db,0,none⟩) dls.length dcap] 158):=⟨_,rfl⟩
      rw [← hwx] at hbx hGx ⊢
      obtain ⟨G,hG⟩:∃ G,G=wd.heap.size:=⟨_,rfl⟩
      have hgG:g ≠ G:=by omega
      have hRG:R ≠ G:=by omega
      rw [← hG] at hGx ⊢
      have hIx:=hIDs.out.next hbx.out
      have c0:wx.cell? ⟨R,1,none⟩=some (.slice (some ⟨g,0,none⟩) n1 cap'):=(hbx.out.cell (p:=⟨R,1,none⟩) dR).trans d0
      have lR:R < wx.heap.size:=Nat.lt_of_lt_of_le dR hbx.out.size
      have lg:g < wx.heap.size:=Nat.lt_of_lt_of_le dG hbx.out.size
      have q0:wx.cell? ⟨g,k * 3,none⟩=some (.int .i64 do'):=(hbx.out.cell (p:=⟨g,k * 3,none⟩) dG).trans r0
      have q1:wx.cell? ⟨g,k * 3 + 1,none⟩=some (.int .i64 dst):=(hbx.out.cell (p:=⟨g,k * 3 + 1,none⟩) dG).trans r1
      have q2:wx.cell? ⟨g,k * 3 + 2,none⟩=some (.slice (some ⟨db,0,none⟩) dls.length dcap):=(hbx.out.cell (p:=⟨g,k * 3 + 2,none⟩) dG).trans r2
      have p0:wx.cell? ⟨g,(k - 1) * 3,none⟩=some (.int .i64 yo):=(hbx.out.cell (p:=⟨g,(k - 1) * 3,none⟩) dG).trans s0
      have p1:wx.cell? ⟨g,(k - 1) * 3 + 1,none⟩=some (.int .i64 yst):=(hbx.out.cell (p:=⟨g,(k - 1) * 3 + 1,none⟩) dG).trans s1
      have p2:wx.cell? ⟨g,(k - 1) * 3 + 2,none⟩=some (.slice (some ⟨yb,0,none⟩) yls.length ycap):=(hbx.out.cell (p:=⟨g,(k - 1) * 3 + 2,none⟩) dG).trans s2
      have f0:=hIx.free (k * 3)
      have f1:=hIx.free (k * 3 + 1)
      have f2:=hIx.free (k * 3 + 2)
      have hJ:=(hIx.put enG3_len (k:=k) (by have:=HLN.out; omega) (⟨yg,yo,yst,yb,ycap,yls⟩:Gd)).drew
      have hGJ:=hid (((Touch.of_grown (own_storeMany hIx.own (k * 3) (enG3 (⟨yg,yo,yst,yb,ycap,yls⟩:Gd))).2).blk hGx.out (fun e=>hgG e.symm)).next (below_drewN (Below.refl _ _) 1))
      have hJ2:=hid (show InsRow enG3 3 158 base g cap' w4 ((midK rs (⟨dg,do',dst,db,dcap,dls⟩:Gd) k).set k (⟨yg,yo,yst,yb,ycap,yls⟩:Gd)) _ from hJ)
      clear hwx hG hIDs hIx hJ d0 dR dG r0 r1 r2 s0 s1 s2
      refine wp_tail 14 (by kernel_rfl) (by kernel_rfl) ?_
      simp only [List.take_succ_cons,List.take_zero,List.drop_succ_cons,List.drop_zero]
      repeat still_step
      refine wpStill_nil ?_
      go_wp2_with fail
      obtain ⟨wy,hwy⟩:∃ wy,wy=(((wx.setCell ⟨g,k * 3,none⟩ (.int .i64 yo)).setCell ⟨g,k * 3 + 1,none⟩ (.int .i64 yst)).setCell ⟨g,k * 3 + 2,none⟩ (.slice (some ⟨yb,0,none⟩) yls.length ycap)).drew:=⟨_,rfl⟩
      have hJy:InsRow enG3 3 158 base g cap' w4 ((midK rs (⟨dg,do',dst,db,dcap,dls⟩:Gd) k).set k (⟨yg,yo,yst,yb,ycap,yls⟩:Gd)) wy:=by rw [hwy]; exact hJ2.out
      have hGy:Blk wy G 158 #[.int .i64 do',.int .i64 dst,.slice (some ⟨db,0,none⟩) dls.length dcap]:=by rw [hwy]; exact hGJ.out
      rw [← hwy]
      clear hwy hJ2 hGJ c0 lR lg q0 q1 q2 p0 p1 p2 f0 f1 f2 hbx hGx
      have c0:wy.cell? ⟨R,1,none⟩=some (.slice (some ⟨g,0,none⟩) n1 cap'):=by rw [HN1.out]; exact (hJy.touch.blk HBB.out (fun e=>hgR e.symm)).cell 1
      have lR:R < wy.heap.size:=(hJy.touch.blk HBB.out (fun e=>hgR e.symm)).lt
      have e1:=hJy.elem enG3_len (k:=k - 1) (y:=(⟨yg,yo,yst,yb,ycap,yls⟩:Gd)) (by rw [List.getElem?_set_ne (by omega),midK_at hk0 hk]; exact HY.out)
      have lg:g < wy.heap.size:=e1.1
      have p0:wy.cell? ⟨g,(k - 1) * 3,none⟩=some (.int .i64 yo):=e1.2 0 _ rfl
      have p1:wy.cell? ⟨g,(k - 1) * 3 + 1,none⟩=some (.int .i64 yst):=e1.2 1 _ rfl
      have p2:wy.cell? ⟨g,(k - 1) * 3 + 2,none⟩=some (.slice (some ⟨yb,0,none⟩) yls.length ycap):=e1.2 2 _ rfl
      have g0:wy.cell? ⟨G,0,none⟩=some (.int .i64 do'):=hGy.cell 0
      have g1:wy.cell? ⟨G,1,none⟩=some (.int .i64 dst):=hGy.cell 1
      have g2:wy.cell? ⟨G,2,none⟩=some (.slice (some ⟨db,0,none⟩) dls.length dcap):=hGy.cell 2
      have f0:=hJy.free ((k - 1) * 3)
      have f1:=hJy.free ((k - 1) * 3 + 1)
      have f2:=hJy.free ((k - 1) * 3 + 2)
      have hJz:=(hJy.put enG3_len (k:=k - 1) (by rw [List.length_set]; have:=HLN.out; omega) (⟨dg,do',dst,db,dcap,dls⟩:Gd)).drew
      rw [HS2.out] at hJz
      replace hJz:=hid hJz
      clear e1 hJy hGy
      refine wp_tail 8 (by kernel_rfl) (by kernel_rfl) ?_
      simp only [List.take_succ_cons,List.take_zero,List.drop_succ_cons,List.drop_zero]
      repeat still_step
      refine wpStill_nil ?_
      clear hkw
      go_wp2_with fail
      go_roundw
      case rel=>exact ⟨k - 1,by omega,by congr 1; omega,HP2,hJz.out⟩
      case measure=>simp [nOf]; omega
     ·have hd:decide (do' < yo)=false:=decide_eq_false hlt
      have HX2:=hid (fun n=>HEX.out (wr.drewN n) (fun y hy0 hy1=>by rw [HY.out] at hy1; injection hy1 with hy1; subst hy1; simp [ltI,hlt]) (below_drewN (Below.refl _ _) n))
      clear hlt hI hln hn1 HEX
      go_wp2_with fail
      go_quiet (fail)
      go_wp2_with fail
      go_end0
      exact HX2.out _
    ·have hd:decide (0 < k)=false:=decide_eq_false hk0
     have HX2:=hid (fun n=>HEX.out (wr.drewN n) (fun y hy0 hy1=>absurd hy0 hk0) (below_drewN (Below.refl _ _) n))
     clear HEX hI hln hn1 e2
     go_wp2_with fail
     go_quiet (fail)
     go_wp2_with fail
     go_end0
     exact HX2.out _
end
end Go.Proofs.YtakaalldbnklcaaGreat.Sk
namespace Go.Proofs.YtakaalldbnklcaaGreat.Sk
open Go.RowKit Go.WideShapes Go.ChangeShapes Go.ChangeAt Go.Deep
set_option linter.unusedVariables false
theorem qOf_snocR (l:List Ln) (x:Ln) (id:Int):qOf (l++[x]) id=qOf l id + (if x.i=id then x.q else 0):=by
 induction l with
 | nil=>simp [qOf]
 | cons y l ih=>simp only [List.cons_append,qOf,ih]; omega
def lvC (id q s1 s2 s3:Int):Array Value:=#[.int .i64 id,.int .i64 q,.int .i64 (q - s1 - s2),.int .i64 s1,.int .i64 (s2 + s3),.int .i64 s3]
section
variable {base R c1 c2:Nat} {A1 A2:Option Addr} {is:List (Int × Int)} {rs:List Gd} {w w':World}
set_option maxRecDepth 100000 in
set_option maxHeartbeats 16000000 in
theorem rlevelOf_any (h:IsRef base w R A1 c1 is A2 c2 rs) (at_:Nat) (id q:Int) (hat:is[at_]?=some (id,q)) (hq:0≤q∧q≤1125899906842624) (hok:∀ d ∈ rs,d.ls.length≤4∧(∀ k,LnOk d.ls k)∧1≤d.st∧d.st≤3) (hl1:is.length≤140737488355328) (hl:rs.length≤3000000000000) :
  Calls Tryz.prog 51 #[.pointer (some ⟨R,0,none⟩),.int .i64 at_] w fun e w'=>e = .returned (.agg (lvC id q (sqL 1 rs id) (sqL 2 rs id) (sqL 3 rs id)))∧Below w.heap.size w w':=by
 have hwb:Below w.heap.size w (w.alloc (.cells #[.int .i64 0,.int .i64 0,.int .i64 0,.int .i64 0,.int .i64 0,.int .i64 0] 152)):=(Below.refl _ _).alloc (Nat.le_refl _) _
 have hB4:=Blk.new w 152 #[.int .i64 0,.int .i64 0,.int .i64 0,.int .i64 0,.int .i64 0,.int .i64 0]
 have h0:=h.next hwb
 obtain ⟨w0,hw0⟩:∃ w0,w0=w.alloc (.cells #[.int .i64 0,.int .i64 0,.int .i64 0,.int .i64 0,.int .i64 0,.int .i64 0] 152):=⟨_,rfl⟩
 obtain ⟨R4,hR4⟩:∃ R4,R4=w.heap.size:=⟨_,rfl⟩
 rw [← hw0] at hB4 h0 hwb
 rw [← hR4] at hB4
 have HW:=hid hw0
 have HR4:=hid hR4
 have H0:=hid (And.intro h0 (And.intro hB4 hwb))
 have HOK:=hid hok
 have HAT:=hid hat
 have hlt:at_ < is.length:=(List.getElem?_eq_some_iff.1 hat).1
 clear h hw0 hR4 hB4 h0 hwb hok hat
 go_enter Tryz.func51,Tryz.ntmps51
 go_upto_region 1 with fail
 rw [← HW.out, ← HR4.out]
 go_cut [5] (fun v wx=>v = .pointer (some ⟨w0.heap.size,0,none⟩)∧Below w0.heap.size w0 wx∧Blk wx w0.heap.size 152 #[.int .i64 id,.int .i64 q,.int .i64 q,.int .i64 0,.int .i64 0,.int .i64 0])
 case first =>
  obtain ⟨hI,hB4,hwb⟩:=H0.out
  obtain ⟨CB,hC0,hC1⟩:∃ CB:Bool→World→Prop,(∀ w',CB false w' ↔ ∃ n,w'=w0.drewN n)∧(∀ w',CB true w' ↔ ∃ n,w'=(w0.alloc (.cells #[.int .i64 0,.int .i64 0,.int .i64 0,.int .i64 0,.int .i64 0,.int .i64 0] 152)).drewN n) :=
   ⟨fun b w'=>match b with | false=>(∃ n,w'=w0.drewN n) | true=>(∃ n,w'=(w0.alloc (.cells #[.int .i64 0,.int .i64 0,.int .i64 0,.int .i64 0,.int .i64 0,.int .i64 0] 152)).drewN n),fun _=>Iff.rfl,fun _=>Iff.rfl⟩
  obtain ⟨C,hCd⟩:∃ C:World→Prop,∀ w',C w' ↔ Below w0.heap.size w0 w':=⟨_,fun _=>Iff.rfl⟩
  have HCC:=hid (fun b w' (hc:CB b w')=>(hCd w').2 (by
   cases b with
   | false=>obtain ⟨n,rfl⟩:=(hC0 _).1 hc; exact below_drewN (Below.refl _ _) n
   | true=>obtain ⟨n,rfl⟩:=(hC1 _).1 hc; exact below_drewN ((Below.refl _ _).alloc (Nat.le_refl _) _) n))
  have hC:CB false w0.drew:=(hC0 _).2 ⟨1,rfl⟩
  have hne:Nonempty (In C):=⟨⟨w0.drew,HCC.out _ _ hC⟩⟩
  have hI':=fun (p:In C)=>hI.next ((hCd _).1 p.h)
  obtain ⟨g,rfl,_,hg⟩:=hI.elem1 HAT.out
  have c0:∀ p:In C,p.w.cell? ⟨R,0,none⟩=some (.slice (some ⟨g,0,none⟩) is.length c1):=fun p=>(hI' p).cell0
  have p0:∀ p:In C,p.w.cell? ⟨g,at_ * 2,none⟩=some (.int .i64 id):=fun p=>by
   obtain ⟨g',e,_,hg'⟩:=(hI' p).elem1 HAT.out
   injection e with e; injection e with e; subst e
   exact hg'.2 0 _ rfl
  have p1:∀ p:In C,p.w.cell? ⟨g,at_ * 2 + 1,none⟩=some (.int .i64 q):=fun p=>by
   obtain ⟨g',e,_,hg'⟩:=(hI' p).elem1 HAT.out
   injection e with e; injection e with e; subst e
   exact hg'.2 1 _ rfl
  have HC0:=hid hC0
  have HC1:=hid hC1
  clear hI hI' hg hC0 hC1 hCd hB4 hwb
  refine wp_region_turn CB 25 26 (by decide) (by kernel_rfl) (by kernel_rfl) hC ?_
  clear hC
  refine wpT_part C HCC.out 1 1 (by kernel_rfl) (by kernel_rfl) (by decide) ?_
  simp only [List.take_succ_cons,List.take_zero,List.drop_succ_cons,List.drop_zero]
  repeat (first | go_big_quiet_step (fail) | quiet_step (fail))
  refine wpQuiet_nil ?_
  refine wpT_call (by rfl) (.pointer (some ⟨R,0,none⟩)) (by kernel_rfl) (fun bb wp hwp => ?_) ?_
  ·first | exact ⟨hwp,rfl⟩ | (go_simp; first | exact hwp | exact ⟨hwp,rfl⟩)
  refine wpT_part C HCC.out 7 9 (by kernel_rfl) (by kernel_rfl) (by decide) ?_
  simp only [List.take_succ_cons,List.take_zero,List.drop_succ_cons,List.drop_zero]
  repeat (first | go_big_quiet_step (fail) | quiet_step (fail))
  refine wpQuiet_nil ?_
  refine wpT_call (by rfl) (.pointer (some ⟨R,0,none⟩)) (by kernel_rfl) (fun bb wp hwp => ?_) ?_
  ·first | exact ⟨hwp,rfl⟩ | (go_simp; first | exact hwp | exact ⟨hwp,rfl⟩)
  refine wpT_part C HCC.out 7 17 (by kernel_rfl) (by kernel_rfl) (by decide) ?_
  simp only [List.take_succ_cons,List.take_zero,List.drop_succ_cons,List.drop_zero]
  repeat (first | go_big_quiet_step (fail) | quiet_step (fail))
  refine wpQuiet_nil ?_
  refine wpT_call (by rfl) (.pointer (some ⟨R,0,none⟩)) (by kernel_rfl) (fun bb wp hwp => ?_) ?_
  ·first | exact ⟨hwp,rfl⟩ | (go_simp; first | exact hwp | exact ⟨hwp,rfl⟩)
  refine wpT_part C HCC.out 7 25 (by kernel_rfl) (by kernel_rfl) (by decide) ?_
  simp only [List.take_succ_cons,List.take_zero,List.drop_succ_cons,List.drop_zero]
  repeat (first | go_big_quiet_step (fail) | quiet_step (fail))
  refine wpQuiet_nil ?_
  refine wpT_turn (.pointer (some ⟨w0.heap.size,0,none⟩)) (by kernel_rfl) (fun wp hwp => ?_) ?_
  ·obtain ⟨n,rfl⟩:=(HC0.out _).1 hwp
   go_simp
   exact ⟨(HC1.out _).2 ⟨n,rfl⟩,rfl⟩
  refine wpT_nil ?_
  intro w9 hw9
  obtain ⟨n,rfl⟩:=(HC1.out _).1 hw9
  have hB:=(Blk.new w0 152 #[.int .i64 0,.int .i64 0,.int .i64 0,.int .i64 0,.int .i64 0,.int .i64 0]).next (below_drewN (Below.refl _ _) n)
  have hbw:=below_drewN ((Below.refl w0.heap.size w0).alloc (Nat.le_refl _) (.cells #[.int .i64 0,.int .i64 0,.int .i64 0,.int .i64 0,.int .i64 0,.int .i64 0] 152)) n
  obtain ⟨wv,hwv⟩:∃ wv,wv=(w0.alloc (.cells #[.int .i64 0,.int .i64 0,.int .i64 0,.int .i64 0,.int .i64 0,.int .i64 0] 152)).drewN n:=⟨_,rfl⟩
  obtain ⟨L,hL⟩:∃ L,L=w0.heap.size:=⟨_,rfl⟩
  rw [← hwv] at hB hbw ⊢
  rw [← hL] at hB ⊢
  have k0:=hB.free 0
  have k1:=hB.free 1
  have k2:=hB.free 2
  have k3:=hB.free 3
  have k4:=hB.free 4
  have k5:=hB.free 5
  have d0:wv.cell? ⟨L,0,none⟩=some (.int .i64 0):=hB.cell 0
  have d1:wv.cell? ⟨L,1,none⟩=some (.int .i64 0):=hB.cell 1
  have d2:wv.cell? ⟨L,2,none⟩=some (.int .i64 0):=hB.cell 2
  have d3:wv.cell? ⟨L,3,none⟩=some (.int .i64 0):=hB.cell 3
  have d4:wv.cell? ⟨L,4,none⟩=some (.int .i64 0):=hB.cell 4
  have d5:wv.cell? ⟨L,5,none⟩=some (.int .i64 0):=hB.cell 5
  have hB6:=(((((hB.set_ 0 (.int .i64 id)).set_ 1 (.int .i64 q)).set_ 2 (.int .i64 q)).set_ 3 (.int .i64 0)).set_ 4 (.int .i64 0)).set_ 5 (.int .i64 0)
  have hT6:=((((((Touch.refl (· = L) wv).set (g:=L) rfl 0 (.int .i64 id)).set (g:=L) rfl 1 (.int .i64 q)).set (g:=L) rfl 2 (.int .i64 q)).set (g:=L) rfl 3 (.int .i64 0)).set (g:=L) rfl 4 (.int .i64 0)).set (g:=L) rfl 5 (.int .i64 0)
  have HF:=hid (And.intro (hbw.trans (hT6.below hbw.size (fun k hk=>by omega))) hB6)
  have HL:=hid hL
  clear hB hbw hB6 hT6 hwv hL HC0 HC1 hw9 c0 p0 p1 hne HCC
  go_wp2_with fail
  go_meet
  have h1:=HF.out.1
  have h2:=HF.out.2
  rw [HL.out] at h1 h2
  exact ⟨by rw [HL.out],by rw [HL.out]; exact h1,by rw [HL.out]; exact h2⟩
 case rest =>
  obtain ⟨rfl,hbw,hBL⟩:=hcut
  obtain ⟨hI,hB4,hwb⟩:=H0.out
  obtain ⟨L,hL⟩:∃ L,L=w0.heap.size:=⟨_,rfl⟩
  have HLO:=hid (show w0.heap.size≤L from by omega)
  have hL4:R4 ≠ L:=fun e=>by have:=hB4.lt; omega
  have hRL:R ≠ L:=fun e=>by have:=hI.blk.lt; omega
  rw [← hL] at hBL ⊢
  have H1:=hid (And.intro hI (And.intro hB4 (And.intro hwb hL)))
  have hLw:wc.heap.size ≠ L:=fun e=>by have:=hBL.lt; omega
  clear H0 hI hB4 hwb hL
  go_wp2_with fail
  go_loopw [6] (fun i wr=>∃ k:Nat,k≤rs.length∧i = .int .i64 k∧Below w0.heap.size w0 wr∧Blk wr L 152 (lvC id q (sqL 1 (rs.take k) id) (sqL 2 (rs.take k) id) (sqL 3 (rs.take k) id))) (fun i _=>rs.length - nOf i)
  case atStart=>exact ⟨0,Nat.zero_le _,rfl,hbw,by simpa [lvC,sqL] using hBL⟩
  case round =>
   clear hbw hBL hLw
   obtain ⟨k,hk,rfl,hbw,hBL⟩:=hrel
   have hIr:=H1.out.1.next hbw
   have cc1:=hIr.cell1
   by_cases hkl:k < rs.length
   ·obtain ⟨d,hd⟩:∃ d,rs[k]?=some d:=⟨rs[k],List.getElem?_eq_getElem hkl⟩
    obtain ⟨g,rfl,_,hg⟩:=hIr.elem2 hd
    have hdm:=List.mem_of_getElem? hd
    obtain ⟨h4,hln,hst⟩:=HOK.out d hdm
    have HLN:=hid hln
    have hbd:∀ st,0≤sqL st (rs.take k) id∧sqL st (rs.take k) id≤3000000000000000000:=fun st=>by
     have:=sqL_bd (l:=rs.take k) (fun d hd=>(HOK.out d (List.mem_of_mem_take hd)).2.1) st id
     have:=List.length_take_le k rs
     omega
    have HS:=hid (fun st=>(show sqL st (rs.take (k + 1)) id=sqL st (rs.take k) id + (if d.st=st then qOf d.ls id else 0) from by
     rw [List.take_add_one,hd]
     show sqL st (rs.take k++[d]) id=_
     rw [sqL_append]
     simp [sqL]))
    have HL0:=hid (fun w' (hb:Below w0.heap.size w0 w')=>(H1.out.1.next hb).lns d hdm)
    obtain ⟨dg,do',dst,db,dcap,dls⟩:=d
    simp only at h4 hst HS HLN HL0
    have p0:wr.cell? ⟨g,k * 3,none⟩=some (.int .i64 do'):=hg.2 0 _ rfl
    have p1:wr.cell? ⟨g,k * 3 + 1,none⟩=some (.int .i64 dst):=hg.2 1 _ rfl
    have p2:wr.cell? ⟨g,k * 3 + 2,none⟩=some (.slice (some ⟨db,0,none⟩) dls.length dcap):=hg.2 2 _ rfl
    have hwb:Below wr.heap.size wr (wr.alloc (.cells #[.int .i64 do',.int .i64 dst,.slice (some ⟨db,0,none⟩) dls.length dcap] 158)):=(Below.refl _ _).alloc (Nat.le_refl _) _
    have hBG:=Blk.new wr 158 #[.int .i64 do',.int .i64 dst,.slice (some ⟨db,0,none⟩) dls.length dcap]
    have hGL:wr.heap.size ≠ L:=fun e=>by have:=hBL.lt; omega
    have hbz:=hbw.trans (hwb.mono hbw.size)
    have hBLz:=hBL.next hwb
    obtain ⟨G,hG⟩:∃ G,G=wr.heap.size:=⟨_,rfl⟩
    obtain ⟨wz,hwz⟩:∃ wz,wz=wr.alloc (.cells #[.int .i64 do',.int .i64 dst,.slice (some ⟨db,0,none⟩) dls.length dcap] 158):=⟨_,rfl⟩
    rw [← hwz] at hBG hbz hBLz
    rw [← hG] at hBG hGL
    have HW:=hid hwz
    have HG:=hid hG
    have HZ:=hid (And.intro hBG (And.intro hbz hBLz))
    have g2':wz.cell? ⟨G,2,none⟩=some (.slice (some ⟨db,0,none⟩) dls.length dcap):=hBG.cell 2
    clear hIr hg hd hdm hln hBL hbw hwb hBG hbz hBLz hwz hG
    go_wp2_with fail
    rw [← HW.out, ← HG.out]
    clear cc1 p0 p1 p2 g2' HW HG
    go_loopw [8] (fun j wr=>∃ m:Nat,m≤dls.length∧j = .int .i64 m∧Below w0.heap.size w0 wr∧Blk wr G 158 #[.int .i64 do',.int .i64 dst,.slice (some ⟨db,0,none⟩) dls.length dcap]∧Blk wr L 152 (lvC id q (sqL 1 (rs.take k) id + (if dst=1 then qOf (dls.take m) id else 0)) (sqL 2 (rs.take k) id + (if dst=2 then qOf (dls.take m) id else 0)) (sqL 3 (rs.take k) id + (if dst=3 then qOf (dls.take m) id else 0)))) (fun j _=>dls.length - nOf j)
    case atStart=>exact ⟨0,Nat.zero_le _,rfl,HZ.out.2.1,HZ.out.1,by simpa [qOf] using HZ.out.2.2⟩
    case round =>
     clear HZ
     obtain ⟨m,hm,rfl,hbw,hBG,hBL⟩:=hrel
     have e2:wr.cell? ⟨G,2,none⟩=some (.slice (some ⟨db,0,none⟩) dls.length dcap):=hBG.cell 2
     by_cases hml:m < dls.length
     ·obtain ⟨y,hy⟩:∃ y,dls[m]?=some y:=⟨dls[m],List.getElem?_eq_getElem hml⟩
      obtain ⟨b',off',e,hbs,hcc⟩:=(HL0.out _ hbw).1.at_ 2 enL_len (by omega) hy
      simp only [Option.some.injEq,Addr.mk.injEq,and_true] at e
      obtain ⟨rfl,rfl⟩:=e
      have hyq:=HLN.out m y hy
      have hpw:=lines_pw HLN.out
      have hqb:=qOf_bd (ls:=dls.take m) (fun x hx=>hpw.1 x (List.mem_of_mem_take hx)) (hpw.2.sublist (List.take_sublist _ _)) id
      have HQ:=hid (show qOf (dls.take (m + 1)) id=qOf (dls.take m) id + (if y.i=id then y.q else 0) from by rw [List.take_add_one,hy]; exact qOf_snocR _ _ _)
      have hb1:=hbd 1
      have hb2:=hbd 2
      have hb3:=hbd 3
      obtain ⟨yi,yq⟩:=y
      simp only at hyq HQ
      have q0:wr.cell? ⟨db,m * 2,none⟩=some (.int .i64 yi):=by have:=hcc 0 _ rfl; simpa using this
      have q1:wr.cell? ⟨db,m * 2 + 1,none⟩=some (.int .i64 yq):=by have:=hcc 1 _ rfl; simpa using this
      have e1:wr.cell? ⟨G,1,none⟩=some (.int .i64 dst):=hBG.cell 1
      have l0:wr.cell? ⟨L,0,none⟩=some (.int .i64 id):=hBL.cell 0
      clear hcc hy hbs hpw
      by_cases hyi:yi=id
      ·have t1:(yi != id)=false:=by simpa using hyi
       rw [if_pos hyi] at HQ
       rw [hyi] at q0
       have HH:=hid (And.intro hbw (And.intro hBG hBL))
       clear hbw hBG hBL hyi
       go_wp2_with fail
       go_quiet (fail)
       obtain ⟨hbw,hBG,hBL⟩:=HH.out
       replace hbw:=below_drewN hbw nq
       replace hBG:=hBG.next (below_drewN (Below.refl _ _) nq)
       replace hBL:=hBL.next (below_drewN (Below.refl _ _) nq)
       obtain ⟨wd,hwd⟩:∃ wd,wd=wr.drewN nq:=⟨_,rfl⟩
       have r1:wd.cell? ⟨db,m * 2 + 1,none⟩=some (.int .i64 yq):=by rw [hwd]; exact q1
       rw [← hwd] at hbw hBG hBL ⊢
       clear HH hwd e2 q0 q1 e1 l0
       have e2:wd.cell? ⟨G,2,none⟩=some (.slice (some ⟨db,0,none⟩) dls.length dcap):=hBG.cell 2
       have e1:wd.cell? ⟨G,1,none⟩=some (.int .i64 dst):=hBG.cell 1
       rcases (show dst=1∨dst=2∨dst=3 from by omega) with rfl | rfl | rfl
       ·simp only [Int.reduceEq,if_true,if_false] at hBL ⊢
        generalize hs1:sqL 1 (rs.take k) id + qOf (dls.take m) id=s1 at hBL
        generalize hs2:sqL 2 (rs.take k) id + 0=s2 at hBL
        generalize hs3:sqL 3 (rs.take k) id + 0=s3 at hBL
        have l2:wd.cell? ⟨L,2,none⟩=some (.int .i64 (q - s1 - s2)):=hBL.cell 2
        have f2:=hBL.free 2
        have l3:wd.cell? ⟨L,3,none⟩=some (.int .i64 s1):=hBL.cell 3
        have f3:=hBL.free 3
        have hB9:=(hBL.set_ 3 (.int .i64 (s1 + yq))).set_ 2 (.int .i64 (q - s1 - s2 - yq))
        have hT9:=((Touch.refl (· = L) wd).set (g:=L) rfl 3 (.int .i64 (s1 + yq))).set (g:=L) rfl 2 (.int .i64 (q - s1 - s2 - yq))
        have hBL9:Blk ((wd.setCell ⟨L,3,none⟩ (.int .i64 (s1 + yq))).setCell ⟨L,2,none⟩ (.int .i64 (q - s1 - s2 - yq))) L 152 (lvC id q (s1 + yq) (s2) (s3)):=by
         unfold lvC
         rw [show q - (s1 + yq) - s2=q - s1 - s2 - yq from by omega]
         exact hB9
        have HF:=hid (And.intro (hbw.trans (hT9.below hbw.size (fun k hk=>by have:=HLO.out; omega))) (And.intro (hT9.blk hBG hGL) hBL9))
        have HV:=hid (show sqL 1 (rs.take k) id + qOf (dls.take (m + 1)) id=s1 + yq from by rw [HQ.out]; omega)
        have HVs:=hid (And.intro hs1 (And.intro hs2 hs3))
        have w1:IntKind.i64.wrap (s1 + yq)=(s1 + yq):=IntWalk.i64_in _ ⟨by omega,by omega⟩
        have w2:IntKind.i64.wrap (q - s1 - s2 - yq)=(q - s1 - s2 - yq):=IntWalk.i64_in _ ⟨by omega,by omega⟩
        clear hB9 hT9 hBL9 hbw hBG hBL hb1 hb2 hb3 hyq hq hqb hs1 hs2 hs3
        go_wp2_with fail
        go_roundw
        case rel =>
         refine ⟨m + 1,by omega,by go_num,HF.out.1,HF.out.2.1, ?_⟩
         simp only [Int.reduceEq,if_false]
         rw [HV.out,HVs.out.2.1,HVs.out.2.2]
         exact HF.out.2.2
        case measure=>simp [nOf]; omega
       ·simp only [Int.reduceEq,if_true,if_false] at hBL ⊢
        generalize hs1:sqL 1 (rs.take k) id + 0=s1 at hBL
        generalize hs2:sqL 2 (rs.take k) id + qOf (dls.take m) id=s2 at hBL
        generalize hs3:sqL 3 (rs.take k) id + 0=s3 at hBL
        have l2:wd.cell? ⟨L,2,none⟩=some (.int .i64 (q - s1 - s2)):=hBL.cell 2
        have f2:=hBL.free 2
        have l4:wd.cell? ⟨L,4,none⟩=some (.int .i64 (s2 + s3)):=hBL.cell 4
        have f4:=hBL.free 4
        have hB9:=(hBL.set_ 4 (.int .i64 (s2 + s3 + yq))).set_ 2 (.int .i64 (q - s1 - s2 - yq))
        have hT9:=((Touch.refl (· = L) wd).set (g:=L) rfl 4 (.int .i64 (s2 + s3 + yq))).set (g:=L) rfl 2 (.int .i64 (q - s1 - s2 - yq))
        have hBL9:Blk ((wd.setCell ⟨L,4,none⟩ (.int .i64 (s2 + s3 + yq))).setCell ⟨L,2,none⟩ (.int .i64 (q - s1 - s2 - yq))) L 152 (lvC id q (s1) (s2 + yq) (s3)):=by
         unfold lvC
         rw [show q - s1 - (s2 + yq)=q - s1 - s2 - yq from by omega,show s2 + yq + s3=s2 + s3 + yq from by omega]
         exact hB9
        have HF:=hid (And.intro (hbw.trans (hT9.below hbw.size (fun k hk=>by have:=HLO.out; omega))) (And.intro (hT9.blk hBG hGL) hBL9))
        have HV:=hid (show sqL 2 (rs.take k) id + qOf (dls.take (m + 1)) id=s2 + yq from by rw [HQ.out]; omega)
        have HVs:=hid (And.intro hs1 (And.intro hs2 hs3))
        have w1:IntKind.i64.wrap (s2 + s3 + yq)=(s2 + s3 + yq):=IntWalk.i64_in _ ⟨by omega,by omega⟩
        have w2:IntKind.i64.wrap (q - s1 - s2 - yq)=(q - s1 - s2 - yq):=IntWalk.i64_in _ ⟨by omega,by omega⟩
        clear hB9 hT9 hBL9 hbw hBG hBL hb1 hb2 hb3 hyq hq hqb hs1 hs2 hs3
        go_wp2_with fail
        go_roundw
        case rel =>
         refine ⟨m + 1,by omega,by go_num,HF.out.1,HF.out.2.1, ?_⟩
         simp only [Int.reduceEq,if_false]
         rw [HV.out,HVs.out.1,HVs.out.2.2]
         exact HF.out.2.2
        case measure=>simp [nOf]; omega
       ·simp only [Int.reduceEq,if_true,if_false] at hBL ⊢
        generalize hs1:sqL 1 (rs.take k) id + 0=s1 at hBL
        generalize hs2:sqL 2 (rs.take k) id + 0=s2 at hBL
        generalize hs3:sqL 3 (rs.take k) id + qOf (dls.take m) id=s3 at hBL
        have l4:wd.cell? ⟨L,4,none⟩=some (.int .i64 (s2 + s3)):=hBL.cell 4
        have f4:=hBL.free 4
        have l5:wd.cell? ⟨L,5,none⟩=some (.int .i64 s3):=hBL.cell 5
        have f5:=hBL.free 5
        have hB9:=(hBL.set_ 4 (.int .i64 (s2 + s3 + yq))).set_ 5 (.int .i64 (s3 + yq))
        have hT9:=((Touch.refl (· = L) wd).set (g:=L) rfl 4 (.int .i64 (s2 + s3 + yq))).set (g:=L) rfl 5 (.int .i64 (s3 + yq))
        have hBL9:Blk ((wd.setCell ⟨L,4,none⟩ (.int .i64 (s2 + s3 + yq))).setCell ⟨L,5,none⟩ (.int .i64 (s3 + yq))) L 152 (lvC id q (s1) (s2) (s3 + yq)):=by
         unfold lvC
         rw [show s2 + (s3 + yq)=s2 + s3 + yq from by omega]
         exact hB9
        have HF:=hid (And.intro (hbw.trans (hT9.below hbw.size (fun k hk=>by have:=HLO.out; omega))) (And.intro (hT9.blk hBG hGL) hBL9))
        have HV:=hid (show sqL 3 (rs.take k) id + qOf (dls.take (m + 1)) id=s3 + yq from by rw [HQ.out]; omega)
        have HVs:=hid (And.intro hs1 (And.intro hs2 hs3))
        have w1:IntKind.i64.wrap (s2 + s3 + yq)=(s2 + s3 + yq):=IntWalk.i64_in _ ⟨by omega,by omega⟩
        have w2:IntKind.i64.wrap (s3 + yq)=(s3 + yq):=IntWalk.i64_in _ ⟨by omega,by omega⟩
        clear hB9 hT9 hBL9 hbw hBG hBL hb1 hb2 hb3 hyq hq hqb hs1 hs2 hs3
        go_wp2_with fail
        go_roundw
        case rel =>
         refine ⟨m + 1,by omega,by go_num,HF.out.1,HF.out.2.1, ?_⟩
         simp only [Int.reduceEq,if_false]
         rw [HV.out,HVs.out.1,HVs.out.2.1]
         exact HF.out.2.2
        case measure=>simp [nOf]; omega
      ·have t1:(yi != id)=true:=by simpa using hyi
       rw [if_neg hyi,Int.add_zero] at HQ
       clear hyi
       go_wp2_with fail
       go_quiet (fail)
       have HF:=hid (And.intro (below_drewN hbw nq) (And.intro (hBG.next (below_drewN (Below.refl _ _) nq)) (hBL.next (below_drewN (Below.refl _ _) nq))))
       clear hbw hBG hBL e2 q0 q1 e1 l0 hb1 hb2 hb3 hqb
       go_wp2_with fail
       go_roundw
       case rel=>exact ⟨m + 1,by omega,by go_num,HF.out.1,HF.out.2.1,by rw [HQ.out]; exact HF.out.2.2⟩
       case measure=>simp [nOf]; omega
     ·have hmm:m=dls.length:=by omega
      subst hmm
      rw [List.take_length] at hBL
      have HF:=hid (And.intro hbw hBL)
      clear hm hml hbw hBL hBG
      go_wp2_with fail
      go_roundw
      case rel=>exact ⟨k + 1,by omega,by go_num,HF.out.1,by rw [HS.out,HS.out,HS.out]; exact HF.out.2⟩
      case measure=>simp [nOf]; omega
   ·have hkk:k=rs.length:=by omega
    subst hkk
    rw [List.take_length] at hBL
    have hB4:=H1.out.2.1.next hbw
    have hbw4:=bthen H1.out.2.2.1 hbw
    generalize hs1:sqL 1 rs id=s1 at hBL
    generalize hs2:sqL 2 rs id=s2 at hBL
    generalize hs3:sqL 3 rs id=s3 at hBL
    have HV:=hid (And.intro hs1 (And.intro hs2 hs3))
    have l0:wr.cell? ⟨L,0,none⟩=some (.int .i64 id):=hBL.cell 0
    have l1:wr.cell? ⟨L,1,none⟩=some (.int .i64 q):=hBL.cell 1
    have l2:wr.cell? ⟨L,2,none⟩=some (.int .i64 (q - s1 - s2)):=hBL.cell 2
    have l3:wr.cell? ⟨L,3,none⟩=some (.int .i64 s1):=hBL.cell 3
    have l4:wr.cell? ⟨L,4,none⟩=some (.int .i64 (s2 + s3)):=hBL.cell 4
    have l5:wr.cell? ⟨L,5,none⟩=some (.int .i64 s3):=hBL.cell 5
    have k0:=hB4.free 0
    have d0:wr.cell? ⟨R4,0,none⟩=some (.int .i64 0):=hB4.cell 0
    have k1:=hB4.free 1
    have d1:wr.cell? ⟨R4,1,none⟩=some (.int .i64 0):=hB4.cell 1
    have k2:=hB4.free 2
    have d2:wr.cell? ⟨R4,2,none⟩=some (.int .i64 0):=hB4.cell 2
    have k3:=hB4.free 3
    have d3:wr.cell? ⟨R4,3,none⟩=some (.int .i64 0):=hB4.cell 3
    have k4:=hB4.free 4
    have d4:wr.cell? ⟨R4,4,none⟩=some (.int .i64 0):=hB4.cell 4
    have k5:=hB4.free 5
    have d5:wr.cell? ⟨R4,5,none⟩=some (.int .i64 0):=hB4.cell 5
    have hB9:=((((((hB4.set_ 0 (.int .i64 id)).set_ 1 (.int .i64 q)).set_ 2 (.int .i64 (q - s1 - s2))).set_ 3 (.int .i64 s1)).set_ 4 (.int .i64 (s2 + s3))).set_ 5 (.int .i64 s3))
    have hT9:=(((((((Touch.refl (· = R4) wr).set (g:=R4) rfl 0 (.int .i64 id)).set (g:=R4) rfl 1 (.int .i64 q)).set (g:=R4) rfl 2 (.int .i64 (q - s1 - s2))).set (g:=R4) rfl 3 (.int .i64 s1)).set (g:=R4) rfl 4 (.int .i64 (s2 + s3))).set (g:=R4) rfl 5 (.int .i64 s3))
    have hbw9:Below w.heap.size w ((((((wr.setCell ⟨R4,0,none⟩ (.int .i64 id)).setCell ⟨R4,1,none⟩ (.int .i64 q)).setCell ⟨R4,2,none⟩ (.int .i64 (q - s1 - s2))).setCell ⟨R4,3,none⟩ (.int .i64 s1)).setCell ⟨R4,4,none⟩ (.int .i64 (s2 + s3))).setCell ⟨R4,5,none⟩ (.int .i64 s3)):=hbw4.trans (hT9.below hbw4.size (fun k hk=>by have:=HR4.out; omega))
    have HF:=hid (And.intro hB9 hbw9)
    clear hB9 hT9 hbw9 hbw4 hbw hB4 hk hkl hIr hBL hs1 hs2 hs3 hq
    go_wp2_with fail
    obtain ⟨hB9,hbw9⟩:=HF.out
    obtain ⟨W9,hW9⟩:∃ W9,W9=((((((wr.setCell ⟨R4,0,none⟩ (.int .i64 id)).setCell ⟨R4,1,none⟩ (.int .i64 q)).setCell ⟨R4,2,none⟩ (.int .i64 (q - s1 - s2))).setCell ⟨R4,3,none⟩ (.int .i64 s1)).setCell ⟨R4,4,none⟩ (.int .i64 (s2 + s3))).setCell ⟨R4,5,none⟩ (.int .i64 s3)):=⟨_,rfl⟩
    rw [← hW9] at hB9 hbw9 ⊢
    clear hW9 HF l0 l1 l2 l3 l4 l5 k0 k1 k2 k3 k4 k5 d0 d1 d2 d3 d4 d5
    have c0:W9.cell? ⟨R4,0,none⟩=some (.int .i64 id):=hB9.cell 0
    have c1:W9.cell? ⟨R4,1,none⟩=some (.int .i64 q):=hB9.cell 1
    have c2:W9.cell? ⟨R4,2,none⟩=some (.int .i64 (q - s1 - s2)):=hB9.cell 2
    have c3:W9.cell? ⟨R4,3,none⟩=some (.int .i64 s1):=hB9.cell 3
    have c4:W9.cell? ⟨R4,4,none⟩=some (.int .i64 (s2 + s3)):=hB9.cell 4
    have c5:W9.cell? ⟨R4,5,none⟩=some (.int .i64 s3):=hB9.cell 5
    refine bodyPost_ret (v:=.agg #[.int .i64 id,.int .i64 q,.int .i64 (q - s1 - s2),.int .i64 s1,.int .i64 (s2 + s3),.int .i64 s3]) (by simp [results,Tryz.results51,go_sem,c0,c1,c2,c3,c4,c5]) rfl ⟨?_,hbw9⟩
    rw [HV.out.1,HV.out.2.1,HV.out.2.2]
    rfl
end
end Go.Proofs.YtakaalldbnklcaaGreat.Sk
namespace Go.Proofs.YtakaalldbnklcaaGreat.Sk
open Go.RowKit
set_option linter.unusedVariables false
def toGot (q:Int × Lv):Int × Int:=(q.1,q.2.r)
def toBareG (q:Int × Gd):Gd:={ bareG q.2 with o:=q.1 }
structure RelS (lv:List (Int × Lv)) (gs:List (Int × Gd)) (is:List (Int × Int)) (rs:List Gd):Prop where
 its:RelK Prod.fst ltI toGot lv is
 gds:RelK Gd.o ltI toBareG gs (rs.map bareG)
section
variable {lv:List (Int × Lv)} {gs:List (Int × Gd)} {is:List (Int × Int)} {rs:List Gd}
theorem RelS.nil:RelS [] [] [] []:=⟨RelK.nil (fun _=>rfl),RelK.nil (fun _=>rfl)⟩
theorem RelS.sortI (h:RelS lv gs is rs):SortedK Prod.fst ltI is:=h.its.sorted
theorem RelS.sortG (h:RelS lv gs is rs):SortedK Gd.o ltI rs:=by
 have:=h.gds.sorted
 unfold SortedK at this ⊢
 rw [List.pairwise_map] at this
 exact this
theorem RelS.lenI (h:RelS lv gs is rs):is.length=lv.length:=h.its.len
theorem RelS.lenG (h:RelS lv gs is rs):rs.length=gs.length:=by have:=h.gds.len; simpa using this
theorem RelS.item (h:RelS lv gs is rs) (id:Int) :
  (∃ (k:Nat) (a:Lv),k < is.length∧is[k]?=some (id,a.r)∧mget lv id=some a∧plc (isI id) is=k)∨(mget lv id=none∧(∀ y ∈ is,isI id y=false)∧plc (isI id) is = -1):=by
 rcases plc_cases (isI id) is with ⟨k,y,hk,hy,hp,he⟩ | ⟨hn,he⟩
 ·have e:y.1=id:=by simpa [isI] using hp
  obtain ⟨v,h1,h2⟩:=h.its.mem (List.mem_of_getElem? hy)
  rw [e] at h1 h2
  exact .inl ⟨k,v,hk,by rw [hy,h2]; rfl,h1,he⟩
 ·refine .inr ⟨h.its.none.1 (fun hin => ?_),hn,he⟩
  obtain ⟨y,hy,e⟩:=List.mem_map.1 hin
  have:=hn y hy
  simp [isI] at this
  exact this e
theorem RelS.goodsW (h:RelS lv gs is rs) (o:Int) :
  (∃ (k:Nat) (d' d:Gd),k < rs.length∧rs[k]?=some d'∧mget gs o=some d∧d'.o=o∧d'.st=d.st∧d'.ls=d.ls∧plc (isD o) rs=k)∨(mget gs o=none∧(∀ y ∈ rs,y.o ≠ o)∧plc (isD o) rs = -1):=by
 rcases plc_cases (isD o) rs with ⟨k,y,hk,hy,hp,he⟩ | ⟨hn,he⟩
 ·have e:y.o=o:=by simpa [isD] using hp
  obtain ⟨v,h1,h2⟩:=h.gds.mem (List.mem_map_of_mem (f:=bareG) (List.mem_of_getElem? hy))
  rw [show (bareG y).o=o from e] at h1 h2
  refine .inl ⟨k,y,v,hk,hy,h1,e, ?_, ?_,he⟩
  ·have:=congrArg Gd.st h2; exact this
  ·have:=congrArg Gd.ls h2; exact this
 ·have hn':∀ y ∈ rs,y.o ≠ o:=fun y hy e=>by
   have:=hn y hy
   simp [isD] at this
   exact this e
  refine .inr ⟨h.gds.none.1 (fun hin => ?_),hn',he⟩
  rw [List.map_map] at hin
  obtain ⟨y,hy,e⟩:=List.mem_map.1 hin
  exact hn' y hy e
theorem RelS.goods (h:RelS lv gs is rs) (hG:GoodB lv gs) (o:Int) :
  (∃ (k:Nat) (d' d:Gd),k < rs.length∧rs[k]?=some d'∧mget gs o=some d∧d'.o=o∧d'.st=d.st∧d'.ls=d.ls∧plc (isD o) rs=k)∨(mget gs o=none∧(∀ y ∈ rs,y.o ≠ o)∧plc (isD o) rs = -1):=h.goodsW o
theorem toBareG_bare {q:Int × Gd} (h:q.2.o=q.1):toBareG q=bareG q.2:=by
 unfold toBareG
 rw [← h]
 rfl
theorem RelS.perm (h:RelS lv gs is rs) (hG:GoodB lv gs):(rs.map bareG).Perm (gs.map (fun p=>bareG p.2)):=by
 refine h.gds.perm.trans (List.Perm.of_eq (List.map_congr_left fun q hq=>toBareG_bare (hG.gm q hq).1))
theorem RelS.sums (h:RelS lv gs is rs) (hG:GoodB lv gs) (st id:Int):sqL st rs id=sq st gs id:=by
 rw [← sqL_bare,sqL_perm (h.perm hG),sq_sqL, ← sqL_bare st (gs.map (·.2)),List.map_map]
 rfl
theorem RelS.rsOk (h:RelS lv gs is rs) (hG:GoodB lv gs):∀ d ∈ rs,FitOk d.o d.ls∧1≤d.st∧d.st≤3:=fun d hd=>by
 obtain ⟨p,hp,e⟩:=List.mem_map.1 ((h.perm hG).mem_iff.1 (List.mem_map_of_mem (f:=bareG) hd))
 have h1:=hG.gm p hp
 have e1:p.2.o=d.o:=by have:=congrArg Gd.o e; exact this
 have e2:p.2.st=d.st:=by have:=congrArg Gd.st e; exact this
 have e3:p.2.ls=d.ls:=by have:=congrArg Gd.ls e; exact this
 rw [← e1, ← e2, ← e3,h1.1]
 exact h1.2
theorem map_insK {r:List Gd} {o:Gd}:(insK Gd.o ltI r o).map bareG=insK Gd.o ltI (r.map bareG) (bareG o):=by
 have hp:∀ p,posK Gd.o ltI (r.map bareG) p=posK Gd.o ltI r p:=fun p=>by
  unfold posK
  rw [List.takeWhile_map,List.length_map]
  rfl
 unfold insK
 rw [show (bareG o).o=o.o from rfl,hp,List.map_append,List.map_cons,List.map_take,List.map_drop]
theorem _root_.Go.Proofs.YtakaalldbnklcaaGreat.RelK.levels {lv':List (Int × Lv)} (h:RelK Prod.fst ltI toGot lv is) (he:lv'.map (fun p=>(p.1,p.2.r))=lv.map (fun p=>(p.1,p.2.r))):RelK Prod.fst ltI toGot lv' is:=by
 have hk:lv'.map (·.1)=lv.map (·.1):=by
  have:=congrArg (List.map Prod.fst) he
  rw [List.map_map,List.map_map] at this
  exact this
 refine ⟨by rw [hk]; exact h.nd,h.sorted, ?_,fun _=>rfl⟩
 have:lv'.map toGot=lv.map toGot:=he
 rw [this]
 exact h.perm
theorem RelS.mv (h:RelS lv gs is rs) {f:Lv→Int→Lv} (hf:∀ a q,(f a q).r=a.r) (ls:List Ln):RelK Prod.fst ltI toGot (mvL f lv ls) is :=
 h.its.levels (mvL_same (f:=f) Lv.r hf (ls:=ls) h.its.nd)
theorem RelS.itemR (h:RelS lv gs is rs) {id:Int} (hm:mget lv id=none) (g:Nat):RelS (mset lv id (newLv g id)) gs (insK Prod.fst ltI is (id,0)) rs :=
 ⟨h.its.ins linI (newLv g id) hm,h.gds⟩
theorem RelS.recvR (h:RelS lv gs is rs) {id q:Int} {a:Lv} {k:Nat} (hm:mget lv id=some a) (hk:is[k]?=some (id,a.r)):RelS (mset lv id ⟨a.g,a.i,a.r + q,a.h + q,a.a,a.s,a.t⟩) gs (is.set k (id,a.r + q)) rs:=by
 refine ⟨?_,h.gds⟩
 have:=h.its.upd (⟨a.g,a.i,a.r + q,a.h + q,a.a,a.s,a.t⟩:Lv) hm
 rw [show toGot (id,(⟨a.g,a.i,a.r + q,a.h + q,a.a,a.s,a.t⟩:Lv))=(id,a.r + q) from rfl,updK_set (e:=(id,a.r + q)) linI h.its.sorted hk rfl] at this
 exact this
theorem RelS.allocR (h:RelS lv gs is rs) {o:Int} {ls:List Ln} {d d':Gd} (hm:mget gs o=none) (hd:d.o=o∧d.st=1∧d.ls=ls) (hd':d'.o=o∧d'.st=1∧d'.ls=ls):RelS (mvL allocL lv ls) (mset gs o d) is (insK Gd.o ltI rs d'):=by
 refine ⟨h.mv (f:=allocL) (fun _ _=>rfl) ls, ?_⟩
 have:=h.gds.ins linI d hm
 rw [map_insK]
 have e:toBareG (o,d)=bareG d':=by
  obtain ⟨a1,a2,a3⟩:=hd
  obtain ⟨b1,b2,b3⟩:=hd'
  simp [toBareG,bareG,a2,a3,b1,b2,b3]
 rw [e] at this
 exact this
theorem filter_eraseG {r:List Gd} {k:Nat} {d:Gd} (hs:SortedK Gd.o ltI r) (hk:r[k]?=some d):r.filter (fun y=>decide (y.o ≠ d.o))=r.eraseIdx k:=by
 have hn:=hs.nodup linI
 clear hs
 induction r generalizing k with
 | nil=>simp at hk
 | cons x t ih =>
  simp only [List.map_cons,List.nodup_cons] at hn
  cases k with
  | zero =>
   simp only [List.getElem?_cons_zero,Option.some.injEq] at hk
   subst hk
   rw [List.filter_cons_of_neg (by simp)]
   simp only [List.eraseIdx_zero,List.tail_cons]
   rw [List.filter_eq_self]
   intro y hy
   simp only [decide_eq_true_eq]
   exact fun e=>hn.1 (by rw [← e]; exact List.mem_map_of_mem hy)
  | succ k =>
   simp only [List.getElem?_cons_succ] at hk
   have hne:x.o ≠ d.o:=fun e=>hn.1 (by rw [e]; exact List.mem_map_of_mem (List.mem_of_getElem? hk))
   rw [List.filter_cons_of_pos (by simpa using hne),ih hk hn.2]
   rfl
theorem map_eraseG (l:List Gd) (j:Nat):(l.eraseIdx j).map bareG=(l.map bareG).eraseIdx j:=by
 induction l generalizing j with
 | nil=>rfl
 | cons x l ih=>cases j with
  | zero=>rfl
  | succ j=>simp [ih]
theorem RelS.freeR (h:RelS lv gs is rs) {o:Int} {d':Gd} {k:Nat} (hk:rs[k]?=some d') (ho:d'.o=o) (ls:List Ln):RelS (mvL freeL lv ls) (mdel gs o) is (rs.eraseIdx k):=by
 refine ⟨h.mv (f:=freeL) (fun _ _=>rfl) ls, ?_⟩
 have:=h.gds.del o
 rw [map_eraseG]
 have e:=filter_eraseG (r:=rs.map bareG) (k:=k) (d:=bareG d') h.gds.sorted (by rw [List.getElem?_map,hk]; rfl)
 rw [show (bareG d').o=o from ho] at e
 rw [← e]
 exact this
theorem RelS.goR (h:RelS lv gs is rs) {f:Lv→Int→Lv} (hf:∀ a q,(f a q).r=a.r) {o:Int} {d' d:Gd} {k:Nat} (hk:rs[k]?=some d') (ho:d'.o=o) (hm:mget gs o=some d) (hs:d'.st=d.st) (hl:d'.ls=d.ls) (ls:List Ln) {st:Int} (hst:st=d.st + 1) :
  RelS (mvL f lv ls) (mset gs o (nextG d)) is (rs.set k ⟨d'.g,d'.o,st,d'.b,d'.cap,d'.ls⟩):=by
 refine ⟨h.mv hf ls, ?_⟩
 have:=h.gds.upd (nextG d) hm
 have e:toBareG (o,nextG d)=bareG ⟨d'.g,d'.o,st,d'.b,d'.cap,d'.ls⟩:=by simp [toBareG,bareG,nextG,ho,hl,hst]
 rw [e,updK_set (k:=k) (y:=bareG d') (e:=bareG ⟨d'.g,d'.o,st,d'.b,d'.cap,d'.ls⟩) linI h.gds.sorted (by rw [List.getElem?_map,hk]; rfl) rfl] at this
 rw [List.map_set]
 exact this
end
end Go.Proofs.YtakaalldbnklcaaGreat.Sk
