/-
  The document's credit book: Customer.
  The document's credit book: put (the loop is printed by gen_put14.py).
  The document's credit book: Hold, Release.
  Holds: what is held, by rising orders.
  The credit book: Parties.
-/
import Derived.Test.YtakaalldbnklcaaGreatQd2
import Derived.Test.YtakaalldbnklcaaGreatQd3
import Derived.Test.YtakaalldbnklcaaGreatQd6
import Derived.Deep.RegionHeldLaw
import Derived.Deep.RegionLaw
import Derived.Deep.AppendLies
import Derived.Shelf.SlSortCmp.NoneTotal
import Derived.Shelf.SortM.Plain
import Derived.Shelf.SortM.SortNone
import Derived.Shelf.SlIterI.Sorted
namespace Go.Proofs.YtakaalldbnklcaaGreat.Cr
open Go.RowKit Go.WideShapes Go.ChangeShapes Go.ChangeAt Go.Deep
set_option linter.unusedVariables false
theorem ins_start {α:Type} {enc:α→List Value} {s:Nat} {t tb:TypeId} {base R j:Nat} {A:Option Addr} {r:List α} {x:α} {w0 w3:World} {v':Value} {cs:Array Value} (n:Nat)
  (h3:Blk w3 R tb cs) (hO:w3.ownsRow base t s v' (r.length + 1) (r.flatMap enc++enc x)) (hT:Touch (RT n R A) w0 w3) (hlt:R < base) (hloc:∀ g,v'.ownBlock=some g→RT n R A g) :
  ∃ g cap',v' = .slice (some ⟨g,0,none⟩) (r.length + 1) cap'∧g ≠ R∧base≤g∧RT n R A g∧InsRow enc s t base g cap' (w3.setCell ⟨R,j,none⟩ (.slice (some ⟨g,0,none⟩) (r.length + 1) cap')) (midK r x r.length) (w3.setCell ⟨R,j,none⟩ (.slice (some ⟨g,0,none⟩) (r.length + 1) cap')) ∧
   Touch (RT n R A) w0 (w3.setCell ⟨R,j,none⟩ (.slice (some ⟨g,0,none⟩) (r.length + 1) cap'))∧Blk (w3.setCell ⟨R,j,none⟩ (.slice (some ⟨g,0,none⟩) (r.length + 1) cap')) R tb (cs.setIfInBounds j (.slice (some ⟨g,0,none⟩) (r.length + 1) cap')):=by
 have e:r.flatMap enc++enc x=(r++[x]).flatMap enc:=by simp
 rw [e] at hO
 have hO':w3.ownsRow base t s v' (r++[x]).length ((r++[x]).flatMap enc):=by simpa using hO
 obtain ⟨g,cap',rfl,hbg,hgl⟩:=own_form hO' (by simp)
 have hl:(r++[x]).length=r.length + 1:=by simp
 rw [hl] at hloc ⊢
 have hne:g ≠ R:=by omega
 have hg:w3.grownBy (w3.setCell ⟨R,j,none⟩ (.slice (some ⟨g,0,none⟩) (r.length + 1) cap')) (some R):=⟨rfl,rfl,rfl,by simp,fun k _ hk=>heap_setCell_other w3 ⟨R,j,none⟩ k _ (fun e=>hk (by simp [e]))⟩
 refine ⟨g,cap',rfl,hne,hbg,hloc g rfl,⟨?_,Touch.refl _ _⟩,hT.then ((Touch.setCell w3 R j _).mono (fun k hk => .inl hk)),h3.set_ j _⟩
 rw [midK_end]
 have:=hO'.kept hg (.inr (by simp [Value.ownBlock]; exact hne))
 exact this
section
variable {base R c1 c2:Nat} {A1 A2:Option Addr} {ps:List Pa} {hr:List Hd} {w w4 wr:World}
theorem IsRef.ins1 {g cap':Nat} {l:List Pa} (h:IsRef base w R A1 c1 ps A2 c2 hr) (hI:InsRow enP 2 150 base g cap' w4 l wr) (hB:Blk w4 R 79 #[.slice (some ⟨g,0,none⟩) l.length cap',.slice A2 hr.length c2])
  (hT:Touch (RT w.heap.size R A1) w w4) (hg:RT w.heap.size R A1 g) (hgR:g ≠ R):IsRef base wr R (some ⟨g,0,none⟩) cap' l A2 c2 hr∧Touch (RT w.heap.size R A1) w wr:=by
 have hT2:Touch (RT w.heap.size R A1) w wr:=hT.then (hI.touch.mono (fun k hk=>by subst hk; exact hg))
 refine ⟨⟨hI.touch.blk hB (fun e=>hgR e.symm),hI.own,own_touch h.own2 hT2 (fun k hk hr => ?_),h.lt⟩,hT2⟩
 have hkb:=h.own2.lt k hk
 rcases hr with rfl | hr | hr
 ·have:=h.lt; omega
 ·refine own_other h.own1 h.own2 (by decide) hk ?_
  cases A1 with
  | none=>simp at hr
  | some a=>simpa [Value.ownBlock] using hr
 ·omega
theorem IsRef.ins2 {g cap':Nat} {l:List Hd} (h:IsRef base w R A1 c1 ps A2 c2 hr) (hI:InsRow enH3 3 151 base g cap' w4 l wr) (hB:Blk w4 R 79 #[.slice A1 ps.length c1,.slice (some ⟨g,0,none⟩) l.length cap'])
  (hT:Touch (RT w.heap.size R A2) w w4) (hg:RT w.heap.size R A2 g) (hgR:g ≠ R):IsRef base wr R A1 c1 ps (some ⟨g,0,none⟩) cap' l∧Touch (RT w.heap.size R A2) w wr:=by
 have hT2:Touch (RT w.heap.size R A2) w wr:=hT.then (hI.touch.mono (fun k hk=>by subst hk; exact hg))
 refine ⟨⟨hI.touch.blk hB (fun e=>hgR e.symm),own_touch h.own1 hT2 (fun k hk hr => ?_),hI.own,h.lt⟩,hT2⟩
 have hkb:=h.own1.lt k hk
 rcases hr with rfl | hr | hr
 ·have:=h.lt; omega
 ·refine own_other h.own2 h.own1 (by decide) hk ?_
  cases A2 with
  | none=>simp at hr
  | some a=>simpa [Value.ownBlock] using hr
 ·omega
def CustPost (base R:Nat) (A1 A2:Option Addr) (c2:Nat) (ps:List Pa) (hr:List Hd) (id l:Int) (w:World) (e:Ending) (w':World):Prop :=
 ∃ A1' c1',e = .returned (.int .i64 0)∧IsRef base w' R A1' c1' (psC ps id l) A2 c2 hr∧Touch (RT w.heap.size R A1) w w'
set_option maxRecDepth 100000 in
set_option maxHeartbeats 4000000 in
theorem rcust_no (id l:Int) (hno:¬ custOk id l) (v:Value) :
  Calls Tryz.prog 25 #[v,.int .i64 id,.int .i64 l] w fun e w'=>e = .returned (.int .i64 2)∧w=w':=by
 unfold custOk at hno
 rcases (show id < 1∨(1≤id∧64 < id)∨((1≤id∧id≤64)∧l < 0)∨((1≤id∧id≤64∧0≤l)∧1125899906842624 < l) from by omega) with h1 | ⟨h1,h2⟩ | ⟨⟨h1,h2⟩,h3⟩ | ⟨⟨h1,h2,h3⟩,h4⟩
 all_goals
  clear hno
  go_enter Tryz.func25,Tryz.ntmps25
  go_wp2_with fail
  go_ret
  exact ⟨rfl,rfl⟩
set_option maxRecDepth 100000 in
set_option maxHeartbeats 8000000 in
theorem rcust_yes (h:IsRef base w R A1 c1 ps A2 c2 hr) (hs:SortedK Pa.i ltI ps) (id l:Int) (hok:custOk id l) (hl:ps.length * 16 + 16≤140737488355328) (hbw:base≤w.heap.size) :
    Calls Tryz.prog 25 #[.pointer (some ⟨R,0,none⟩),.int .i64 id,.int .i64 l] w (CustPost base R A1 A2 c2 ps hr id l w):=by
  obtain ⟨h1,h2,h3,h4⟩:=hok
  have F:=rfind_any h id (by omega)
  rcases plc_cases (isP id) ps with ⟨k,y,hk,hy,hp,he⟩ | ⟨hn,he⟩
  · rw [he] at F
    have HE:=hid (show psC ps id l=ps.set k ⟨id,l⟩ from by unfold psC; rw [he,if_pos (by omega)]; rfl)
    obtain ⟨g,rfl,hbg,hpr⟩:=h.elem1 hy
    have hyi:y.i=id:=by simpa [isP] using hp
    obtain ⟨yi,yl⟩:=y
    simp only at hyi
    subst hyi
    have c0:=h.cell0
    have q1:w.cell? ⟨g,k * 2 + 1,none⟩=some (.int .i64 yl):=hpr.2 1 _ rfl
    have f1:w.frozen? ⟨g,k * 2 + 1,none⟩=false:=own_free h.own1 _
    have hI:InsRow enP 2 150 base g c1 w ps w:=⟨h.own1,Touch.refl _ _⟩
    have hJ:=hI.field (k:=k) (j:=1) (x':=⟨yi,l⟩) (v:=.int .i64 l) enP_len hy (by omega) rfl
    have hB:Blk w R 79 #[.slice (some ⟨g,0,none⟩) (ps.set k ⟨yi,l⟩).length c1,.slice A2 hr.length c2]:=by rw [List.length_set]; exact h.blk
    have hX:=hid (h.ins1 hJ hB (Touch.refl _ _) (.inr (.inl rfl)) (by have:=h.lt; omega))
    have HF:=hid F
    clear F he hp hy hpr hI hJ hB h
    go_enter Tryz.func25,Tryz.ntmps25
    go_wp2_with fail
    refine HF.out.mono ?_
    rintro e w1 ⟨rfl,rfl⟩
    go_wp2_with fail
    go_ret
    exact ⟨_,_,rfl,by rw [HE.out]; exact hX.out.1,hX.out.2⟩
  · rw [he] at F
    have HE:=hid (show psC ps id l=insK Pa.i ltI ps ⟨id,l⟩ from by unfold psC; rw [he,if_neg (by omega)])
    have HN:=hid (show (⟨id,l⟩:Pa).i ∉ ps.map Pa.i from fun hin=>by
      obtain ⟨y,hy,e⟩:=List.mem_map.1 hin
      have:=hn y hy
      simp [isP] at this
      exact this e)
    have HS:=hid hs
    have HF:=hid F
    clear F he hn hs
    obtain ⟨i0,hi,hz0,hz1,hz2⟩:=info_parts info_pa
    have c0:=h.cell0
    have HO:=hid h.own1
    have HB:=hid (h.blk.alloc (.cells #[.int .i64 id,.int .i64 l] 150))
    have HT:=hid ((Touch.refl (RT w.heap.size R A1) w).alloc (.cells #[.int .i64 id,.int .i64 l] 150))
    have hRw:R < w.heap.size:=h.blk.lt
    have hRb:=h.lt
    have H:=hid h
    clear h
    go_enter Tryz.func25,Tryz.ntmps25
    go_wp2_with fail
    refine HF.out.mono ?_
    rintro e w1 ⟨rfl,rfl⟩
    clear HF
    go_wp2_with (first
      | (at_builtin; refine wpList_push_at _ rfl _ _ 76 rfl base 150 i0 _ 2 16 Tryz.underlying76 hi hz0 hz1 hz2 rfl (by decide) _ _ _ (by rfl) HO.out #[.int .i64 id,.int .i64 l] w.heap.size (by simp) (by rfl) (by rfl) (by rfl) (by unfold maxLen; omega) (by omega) (by omega) ?_; intro v' w3 hO3 hg3 hat3
         have hB3:=HB.out.grown hg3 (fun e=>by have:=(HO.out.lt R e.symm).1; omega)
         have hT3:=HT.out.then (touch_row hg3 (fun k hk => .inr (.inl (by cases A1 with | none=>simp [Value.ownBlock] at hk | some a=>simpa [Value.ownBlock] using hk))))
         have c3:w3.cell? ⟨R,0,none⟩=some (.slice A1 ps.length c1):=hB3.cell 0
         have f3:=hB3.free 0
         obtain ⟨g,cap',rfl,hgR,hbg,hrt,hI0,hT4,hB4⟩:=ins_start (j:=0) (x:=(⟨id,l⟩:Pa)) w.heap.size hB3 hO3 hT3 hRb (fun g hg=>hat3.elim (fun e => .inr (.inl (by rw [e] at hg; cases A1 with | none=>simp [Value.ownBlock] at hg | some a=>simpa [Value.ownBlock] using hg))) (fun e => .inr (.inr (by rw [e] at hg; injection hg with hg; omega))))
         replace hI0:=hid hI0
         replace hT4:=hid hT4
         replace hB4:=hid hB4
         clear hO3 hg3 hat3 hB3 hT3))
    clear HO HB HT c0 c3 f3 hi hz0 hz1 hz2
    obtain ⟨w4,hw4⟩:∃ w4,w4=w3.setCell ⟨R,0,none⟩ (.slice (some ⟨g,0,none⟩) (ps.length + 1) cap'):=⟨_,rfl⟩
    have hI:=hI0.out
    replace hT4:=hT4.out
    replace hB4:=hB4.out
    rw [← hw4] at hI hT4 hB4 ⊢
    have hBB:Blk w4 R 79 #[.slice (some ⟨g,0,none⟩) (ps.length + 1) cap',.slice A2 hr.length c2]:=by simpa using hB4
    have HT4:=hid hT4
    have HBB:=hid hBB
    clear hw4 hI0 hT4 hB4 hBB
    go_loopw [8] (fun i wr=>∃ k:Nat,k≤ps.length∧i = .int .i64 k∧Hid (Behind Pa.i ltI ps ⟨id,l⟩ k)∧InsRow enP 2 150 base g cap' w4 (midK ps ⟨id,l⟩ k) wr) (fun i _=>nOf i)
    case atStart=>exact ⟨ps.length,Nat.le_refl _,by go_num,hid behind_end,hI⟩
    case round =>
      clear hI
      obtain ⟨k,hk,rfl,hP,hI⟩:=hrel
      have hln:=midK_len (z:=(⟨id,l⟩:Pa)) hk
      obtain ⟨n1,hn1⟩:∃ n1,n1=ps.length + 1:=⟨_,rfl⟩
      have c0:wr.cell? ⟨R,0,none⟩=some (.slice (some ⟨g,0,none⟩) n1 cap'):=by rw [hn1]; exact (hI.touch.blk HBB.out (fun e=>hgR e.symm)).cell 0
      have lR:R < wr.heap.size:=(hI.touch.blk HBB.out (fun e=>hgR e.symm)).lt
      have hkn:k < n1:=by omega
      have hn2:n1≤140737488355328:=by omega
      have e2:=hI.elem enP_len (midK_here hk)
      have lg:g < wr.heap.size:=e2.1
      have q0:wr.cell? ⟨g,k * 2,none⟩=some (.int .i64 id):=e2.2 0 _ rfl
      have q1:wr.cell? ⟨g,k * 2 + 1,none⟩=some (.int .i64 l):=e2.2 1 _ rfl
      have HEX:Hid (∀ w',w.heap.size≤w.heap.size→(∀ y:Pa,0 < k→ps[k - 1]?=some y→ltI id y.i=false)→Below wr.heap.size wr w'→CustPost base R A1 A2 c2 ps hr id l w (.returned (.int .i64 0)) w'):=hid (fun w' _ hf hb=>by
        have hI':=hI.next hb
        rw [midK_done linI HS.out HN.out hk hP.out hf] at hI'
        obtain ⟨a1,a2⟩:=H.out.ins1 hI' (by rw [insK_length]; exact HBB.out) HT4.out hrt hgR
        exact ⟨_,_,rfl,by rw [HE.out]; exact a1,a2⟩)
      by_cases hk0:0 < k
      · obtain ⟨y,hy⟩:∃ y,ps[k - 1]?=some y:=⟨ps[k - 1],List.getElem?_eq_getElem (by omega)⟩
        have e1:=hI.elem enP_len (k:=k - 1) (y:=y) (by rw [midK_at hk0 hk]; exact hy)
        have hkw:IntKind.i64.wrap ((k:Int) - 1)=((k - 1:Nat):Int):=by rw [IntWalk.i64_in _ ⟨by omega,by omega⟩]; omega
        have hkl:k - 1 < n1:=by omega
        have HY:=hid hy
        obtain ⟨yi,yl⟩:=y
        have p0:wr.cell? ⟨g,(k - 1) * 2,none⟩=some (.int .i64 yi):=e1.2 0 _ rfl
        have p1:wr.cell? ⟨g,(k - 1) * 2 + 1,none⟩=some (.int .i64 yl):=e1.2 1 _ rfl
        clear e1 e2 hy
        by_cases hlt:id < yi
        · have HP2:=hid (behind_step hP.out hk0 HY.out (by simp [ltI,hlt]))
          have f0:=hI.free (k * 2)
          have f1:=hI.free (k * 2 + 1)
          have HS2:=hid (midK_step (z:=(⟨id,l⟩:Pa)) hk0 hk HY.out)
          have HLN:=hid hln
          have HI:=hid hI
          have HN1:=hid hn1
          clear hI hln hn1
          go_wp2_with fail
          go_quiet (fail)
          obtain ⟨wd,hwd,hIDs,d0,dR,dG,r0,r1,s0,s1⟩:∃ wd,wd=wr.drewN nq∧Hid (InsRow enP 2 150 base g cap' w4 (midK ps ⟨id,l⟩ k) wd)∧wd.cell? ⟨R,0,none⟩=some (.slice (some ⟨g,0,none⟩) n1 cap')∧R < wd.heap.size∧g < wd.heap.size ∧
            wd.cell? ⟨g,k * 2,none⟩=some (.int .i64 id)∧wd.cell? ⟨g,k * 2 + 1,none⟩=some (.int .i64 l)∧wd.cell? ⟨g,(k - 1) * 2,none⟩=some (.int .i64 yi)∧wd.cell? ⟨g,(k - 1) * 2 + 1,none⟩=some (.int .i64 yl):=⟨_,rfl,hid (HI.out.next (below_drewN (Below.refl _ _) nq)),c0,lR,lg,q0,q1,p0,p1⟩
          rw [← hwd]
          clear hwd HI c0 lR lg q0 q1 p0 p1 f0 f1 HEX
          have hbx:Below wd.heap.size wd (wd.alloc (.cells #[.int .i64 id,.int .i64 l] 150)):=(Below.refl _ _).alloc (Nat.le_refl _) _
          have hGx:=Blk.new wd 150 #[.int .i64 id,.int .i64 l]
          replace hbx:=hid hbx
          replace hGx:=hid hGx
          go_wp2_with fail
          obtain ⟨wx,hwx⟩:∃ wx,wx=wd.alloc (.cells #[.int .i64 id,.int .i64 l] 150):=⟨_,rfl⟩
          rw [← hwx] at hbx hGx ⊢
          obtain ⟨G,hG⟩:∃ G,G=wd.heap.size:=⟨_,rfl⟩
          have hgG:g ≠ G:=by omega
          have hRG:R ≠ G:=by omega
          rw [← hG] at hGx ⊢
          have hIx:=hIDs.out.next hbx.out
          have c0:wx.cell? ⟨R,0,none⟩=some (.slice (some ⟨g,0,none⟩) n1 cap'):=(hbx.out.cell (p:=⟨R,0,none⟩) dR).trans d0
          have lR:R < wx.heap.size:=Nat.lt_of_lt_of_le dR hbx.out.size
          have lg:g < wx.heap.size:=Nat.lt_of_lt_of_le dG hbx.out.size
          have q0:wx.cell? ⟨g,k * 2,none⟩=some (.int .i64 id):=(hbx.out.cell (p:=⟨g,k * 2,none⟩) dG).trans r0
          have q1:wx.cell? ⟨g,k * 2 + 1,none⟩=some (.int .i64 l):=(hbx.out.cell (p:=⟨g,k * 2 + 1,none⟩) dG).trans r1
          have p0:wx.cell? ⟨g,(k - 1) * 2,none⟩=some (.int .i64 yi):=(hbx.out.cell (p:=⟨g,(k - 1) * 2,none⟩) dG).trans s0
          have p1:wx.cell? ⟨g,(k - 1) * 2 + 1,none⟩=some (.int .i64 yl):=(hbx.out.cell (p:=⟨g,(k - 1) * 2 + 1,none⟩) dG).trans s1
          have f0:=hIx.free (k * 2)
          have f1:=hIx.free (k * 2 + 1)
          have hJ:=(hIx.put enP_len (k:=k) (by have:=HLN.out; omega) ⟨yi,yl⟩).drew
          have hGJ:=hid (((Touch.of_grown (own_storeMany hIx.own (k * 2) (enP ⟨yi,yl⟩)).2).blk hGx.out (fun e=>hgG e.symm)).next (below_drewN (Below.refl _ _) 1))
          have hJ2:=hid (show InsRow enP 2 150 base g cap' w4 ((midK ps ⟨id,l⟩ k).set k ⟨yi,yl⟩) _ from hJ)
          clear hwx hG hIDs hIx hJ d0 dR dG r0 r1 s0 s1
          refine wp_tail 14 (by kernel_rfl) (by kernel_rfl) ?_
          simp only [List.take_succ_cons,List.take_zero,List.drop_succ_cons,List.drop_zero]
          repeat still_step
          refine wpStill_nil ?_
          go_wp2_with fail
          obtain ⟨wy,hwy⟩:∃ wy,wy=((wx.setCell ⟨g,k * 2,none⟩ (.int .i64 yi)).setCell ⟨g,k * 2 + 1,none⟩ (.int .i64 yl)).drew:=⟨_,rfl⟩
          have hJy:InsRow enP 2 150 base g cap' w4 ((midK ps ⟨id,l⟩ k).set k ⟨yi,yl⟩) wy:=by rw [hwy]; exact hJ2.out
          have hGy:Blk wy G 150 #[.int .i64 id,.int .i64 l]:=by rw [hwy]; exact hGJ.out
          rw [← hwy]
          clear hwy hJ2 hGJ c0 lR lg q0 q1 p0 p1 f0 f1 hbx hGx
          have c0:wy.cell? ⟨R,0,none⟩=some (.slice (some ⟨g,0,none⟩) n1 cap'):=by rw [HN1.out]; exact (hJy.touch.blk HBB.out (fun e=>hgR e.symm)).cell 0
          have lR:R < wy.heap.size:=(hJy.touch.blk HBB.out (fun e=>hgR e.symm)).lt
          have e1:=hJy.elem enP_len (k:=k - 1) (y:=⟨yi,yl⟩) (by rw [List.getElem?_set_ne (by omega),midK_at hk0 hk]; exact HY.out)
          have lg:g < wy.heap.size:=e1.1
          have p0:wy.cell? ⟨g,(k - 1) * 2,none⟩=some (.int .i64 yi):=e1.2 0 _ rfl
          have p1:wy.cell? ⟨g,(k - 1) * 2 + 1,none⟩=some (.int .i64 yl):=e1.2 1 _ rfl
          have g0:wy.cell? ⟨G,0,none⟩=some (.int .i64 id):=hGy.cell 0
          have g1:wy.cell? ⟨G,1,none⟩=some (.int .i64 l):=hGy.cell 1
          have f0:=hJy.free ((k - 1) * 2)
          have f1:=hJy.free ((k - 1) * 2 + 1)
          have hJz:=(hJy.put enP_len (k:=k - 1) (by rw [List.length_set]; have:=HLN.out; omega) ⟨id,l⟩).drew
          rw [HS2.out] at hJz
          replace hJz:=hid hJz
          clear e1 hJy hGy
          refine wp_tail 8 (by kernel_rfl) (by kernel_rfl) ?_
          simp only [List.take_succ_cons,List.take_zero,List.drop_succ_cons,List.drop_zero]
          repeat still_step
          refine wpStill_nil ?_
          clear hkw
          go_wp2_with fail
          go_roundw
          case rel=>exact ⟨k - 1,by omega,by congr 1; omega,HP2,hJz.out⟩
          case measure=>simp [nOf]; omega
        · have hd:decide (id < yi)=false:=decide_eq_false hlt
          have HF:=hid (HEX.out (wr.drewN 0) (Nat.le_refl _) (fun y hy0 hy1=>by rw [HY.out] at hy1; injection hy1 with hy1; subst hy1; simp [ltI,hlt]))
          have HX2:=hid (fun n=>HEX.out (wr.drewN n) (Nat.le_refl _) (fun y hy0 hy1=>by rw [HY.out] at hy1; injection hy1 with hy1; subst hy1; simp [ltI,hlt]) (below_drewN (Below.refl _ _) n))
          clear HF hlt hI hln hn1 HEX
          go_wp2_with fail
          go_quiet (fail)
          go_wp2_with fail
          go_ret
          exact HX2.out _
      · have hd:decide (0 < k)=false:=decide_eq_false hk0
        have HX2:=hid (fun n=>HEX.out (wr.drewN n) (Nat.le_refl _) (fun y hy0 hy1=>absurd hy0 hk0) (below_drewN (Below.refl _ _) n))
        clear HEX hI hln hn1 e2
        go_wp2_with fail
        go_quiet (fail)
        go_wp2_with fail
        go_ret
        exact HX2.out _
end
end Go.Proofs.YtakaalldbnklcaaGreat.Cr
namespace Go.Proofs.YtakaalldbnklcaaGreat.Cr
open Go.RowKit Go.WideShapes Go.ChangeShapes Go.ChangeAt Go.Deep
set_option linter.unusedVariables false
section
variable {base R c1 c2:Nat} {A1 A2:Option Addr} {ps:List Pa} {hr:List Hd} {w w4 wr:World}
def PutPost (base R:Nat) (A1 A2:Option Addr) (c1:Nat) (ps:List Pa) (hr:List Hd) (o c n:Int) (w:World) (e:Ending) (w':World):Prop :=
 ∃ A2' c2',e = .returned (.tuple #[])∧IsRef base w' R A1 c1 ps A2' c2' (insK Hd.o ltI hr ⟨o,c,n⟩)∧Touch (RT w.heap.size R A2) w w'
set_option maxRecDepth 100000 in
set_option maxHeartbeats 8000000 in
theorem rput_any (h:IsRef base w R A1 c1 ps A2 c2 hr) (hs:SortedK Hd.o ltI hr) (o c n:Int) (hn:o ∉ hr.map Hd.o) (hl:hr.length * 24 + 24≤140737488355328) (hbw:base≤w.heap.size) :
  Calls Tryz.prog 205 #[.pointer (some ⟨R,0,none⟩),.agg #[.int .i64 o,.int .i64 c,.int .i64 n]] w (PutPost base R A1 A2 c1 ps hr o c n w):=by
  have HN:=hid (show (⟨o,c,n⟩:Hd).o ∉ hr.map Hd.o from hn)
  have HS:=hid hs
  clear hn hs
  obtain ⟨i0,hi,hz0,hz1,hz2⟩:=info_parts info_rh
  obtain ⟨wz,hwz⟩:∃ wz,wz=w.alloc (.cells #[.int .i64 o,.int .i64 c,.int .i64 n] 151):=⟨_,rfl⟩
  obtain ⟨G0,hG0⟩:∃ G0,G0=w.heap.size:=⟨_,rfl⟩
  have hz:IsRef base wz R A1 c1 ps A2 c2 hr:=by rw [hwz]; exact h.alloc _
  have hGz:Blk wz G0 151 #[.int .i64 o,.int .i64 c,.int .i64 n]:=by rw [hwz,hG0]; exact Blk.new _ _ _
  have hTz:Touch (RT w.heap.size R A2) w wz:=by rw [hwz]; exact (Touch.refl _ _).alloc _
  have HW:=hid hwz
  have HG:=hid hG0
  have hRw:R < w.heap.size:=h.blk.lt
  have hRG:R ≠ G0:=by omega
  have hRb:=h.lt
  have hbz:base≤wz.heap.size:=Nat.le_trans hbw hTz.size
  have H:=hid h
  clear h hwz hG0
  go_enter Tryz.func205,Tryz.ntmps205
  go_wp2_with fail
  rw [← HW.out, ← HG.out]
  have c0:wz.cell? ⟨R,1,none⟩=some (.slice A2 hr.length c2):=hz.cell1
  have g0:wz.cell? ⟨G0,0,none⟩=some (.int .i64 o):=hGz.cell 0
  have g1:wz.cell? ⟨G0,1,none⟩=some (.int .i64 c):=hGz.cell 1
  have g2:wz.cell? ⟨G0,2,none⟩=some (.int .i64 n):=hGz.cell 2
  have lR:R < wz.heap.size:=hz.blk.lt
  have lG:G0 < wz.heap.size:=hGz.lt
  have hO:=hid (((hz.next (below_drewN (Below.refl _ _) 1)).own2).alloc (.cells #[.int .i64 o,.int .i64 c,.int .i64 n] 151))
  have hRk:=(hz.next (below_drewN (Below.refl _ _) 1)).blk.alloc (.cells #[.int .i64 o,.int .i64 c,.int .i64 n] 151)
  have hT:=hid (hTz.drew.alloc (.cells #[.int .i64 o,.int .i64 c,.int .i64 n] 151))
  have HL2:=hid (show some R ≠ (Value.slice A2 hr.length c2).ownBlock from fun e=>by have:=(H.out.own2.lt R e.symm).1; omega)
  have hwsz:=hTz.size
  clear hz hGz hTz
  go_region_law ((refine step_append_lies _ (by rfl) _ _ _ (by rfl) base 151 i0 _ 3 24 Tryz.underlying77 hi hz0 hz1 hz2 rfl (by decide) _ _ _ (by rfl) hO.out ⟨wz.heap.size,0,none⟩ 1 1 [.int .i64 o,.int .i64 c,.int .i64 n] (by rfl) (by rfl) (World.news_of_block (heap_alloc_new _ _)) (enH3_one ⟨o,c,n⟩) (by omega) (by unfold maxLen; omega) (by omega) (by simp; omega) _ rfl ?_; intro g7 cap7 w7 hO7 hg7 hat7 hlt7; have hB7:=hRk.grown hg7 HL2.out; have c7:w7.cell? ⟨R,1,none⟩=some (.slice A2 hr.length c2):=hB7.cell 1; have f7:=hB7.free 1))
  all_goals
   have hT7:=hT.out.then (touch_row hg7 (fun k hk => .inr (.inl (by cases A2 with | none=>simp [Value.ownBlock] at hk | some a=>simpa [Value.ownBlock] using hk))))
   have hrt7:RT w.heap.size R A2 g7:=by
    rcases hat7 with e | e
    ·refine .inr (.inl ?_)
     cases A2 with
     | none=>simp [Value.ownBlock] at e
     | some a=>simpa [Value.ownBlock] using e
    ·refine .inr (.inr ?_)
     simp at e
     omega
   obtain ⟨g,cap',e7,hgR,hbg,hrt,hI0,hT4,hB4⟩:=ins_start (j:=1) (x:=(⟨o,c,n⟩:Hd)) (enc:=enH3) w.heap.size hB7 hO7 hT7 hRb (fun g hg=>by
    have hg':g7=g:=by simpa [Value.ownBlock] using hg
    subst hg'
    exact hrt7)
   injection e7 with e8 e9 e10
   injection e8 with e8
   injection e8 with e8
   subst e8 e10
   obtain ⟨w4,hw4⟩:∃ w4,w4=w7.setCell ⟨R,1,none⟩ (.slice (some ⟨g7,0,none⟩) (hr.length + 1) cap7):=⟨_,rfl⟩
   rw [← hw4] at hI0 hT4 hB4 ⊢
   have hBB:Blk w4 R 79 #[.slice A1 ps.length c1,.slice (some ⟨g7,0,none⟩) (hr.length + 1) cap7]:=by simpa using hB4
   obtain ⟨g,hgg⟩:∃ g,g=g7:=⟨_,rfl⟩
   obtain ⟨cap',hcc⟩:∃ cap',cap'=cap7:=⟨_,rfl⟩
   rw [← hgg] at hI0 hrt hgR hbg hBB ⊢
   rw [← hcc] at hI0 hBB ⊢
   have c4:w4.cell? ⟨R,1,none⟩=some (.slice (some ⟨g,0,none⟩) (hr.length + 1) cap'):=hBB.cell 1
   have lR4:R < w4.heap.size:=hBB.lt
   have HT4:=hid hT4
   have HBB:=hid hBB
   have hI:=hid hI0
   clear hw4 hI0 hT4 hB4 hBB hT7 hO7 hg7 hat7 hlt7 hB7 c7 f7 hgg hcc c0 g0 g1 g2 lR lG hO hRk hT HL2
   go_wp2_with fail
   replace hI:=hI.out
   clear c4 lR4
   go_loopw [4] (fun i wr=>∃ k:Nat,k≤hr.length∧i = .int .i64 k∧Hid (Behind Hd.o ltI hr (⟨o,c,n⟩:Hd) k)∧InsRow enH3 3 151 base g cap' w4 (midK hr (⟨o,c,n⟩:Hd) k) wr) (fun i _=>nOf i)
   case atStart=>exact ⟨hr.length,Nat.le_refl _,by go_num,hid behind_end,hI⟩
   case round =>
    clear hI
    obtain ⟨k,hk,rfl,hP,hI⟩:=hrel
    have hln:=midK_len (z:=(⟨o,c,n⟩:Hd)) hk
    obtain ⟨n1,hn1⟩:∃ n1,n1=hr.length + 1:=⟨_,rfl⟩
    have c0:wr.cell? ⟨R,1,none⟩=some (.slice (some ⟨g,0,none⟩) n1 cap'):=by rw [hn1]; exact (hI.touch.blk HBB.out (fun e=>hgR e.symm)).cell 1
    have lR:R < wr.heap.size:=(hI.touch.blk HBB.out (fun e=>hgR e.symm)).lt
    have hkn:k < n1:=by omega
    have hn2:n1≤140737488355328:=by omega
    have e2:=hI.elem enH3_len (midK_here hk)
    have lg:g < wr.heap.size:=e2.1
    have q0:wr.cell? ⟨g,k * 3,none⟩=some (.int .i64 o):=e2.2 0 _ rfl
    have q1:wr.cell? ⟨g,k * 3 + 1,none⟩=some (.int .i64 c):=e2.2 1 _ rfl
    have q2:wr.cell? ⟨g,k * 3 + 2,none⟩=some (.int .i64 n):=e2.2 2 _ rfl
    have HEX:Hid (∀ w',(∀ y,0 < k→hr[k - 1]?=some y→ltI (Hd.o (⟨o,c,n⟩:Hd)) (Hd.o y)=false)→Below wr.heap.size wr w'→PutPost base R A1 A2 c1 ps hr o c n w (.returned (.tuple #[])) w'):=hid (fun w' hf hb=>by
     have hI':=hI.next hb
     rw [midK_done linI HS.out HN.out hk hP.out hf] at hI'
     obtain ⟨a1,a2⟩:=H.out.ins2 hI' (by rw [insK_length]; exact HBB.out) HT4.out hrt hgR
     exact ⟨_,_,rfl,a1,a2⟩)
    by_cases hk0:0 < k
    ·obtain ⟨y,hy⟩:∃ y,hr[k - 1]?=some y:=⟨hr[k - 1],List.getElem?_eq_getElem (by omega)⟩
     have e1:=hI.elem enH3_len (k:=k - 1) (y:=y) (by rw [midK_at hk0 hk]; exact hy)
     have hkw:IntKind.i64.wrap ((k:Int) - 1)=((k - 1:Nat):Int):=by rw [IntWalk.i64_in _ ⟨by omega,by omega⟩]; omega
     have hkl:k - 1 < n1:=by omega
     have HY:=hid hy
     obtain ⟨yo,yc,ya⟩:=y
     have p0:wr.cell? ⟨g,(k - 1) * 3,none⟩=some (.int .i64 yo):=e1.2 0 _ rfl
     have p1:wr.cell? ⟨g,(k - 1) * 3 + 1,none⟩=some (.int .i64 yc):=e1.2 1 _ rfl
     have p2:wr.cell? ⟨g,(k - 1) * 3 + 2,none⟩=some (.int .i64 ya):=e1.2 2 _ rfl
     clear e1 e2 hy
     by_cases hlt:o < yo
     ·have HP2:=hid (behind_step hP.out hk0 HY.out (by simp [ltI,hlt]))
      have HS2:=hid (midK_step (z:=(⟨o,c,n⟩:Hd)) hk0 hk HY.out)
      have HLN:=hid hln
      have HI:=hid hI
      have HN1:=hid hn1
      clear hI hln hn1
      go_wp2_with fail
      go_quiet (fail)
      obtain ⟨wd,hwd,hIDs,d0,dR,dG,r0,r1,r2,s0,s1,s2⟩:∃ wd,wd=wr.drewN nq∧Hid (InsRow enH3 3 151 base g cap' w4 (midK hr (⟨o,c,n⟩:Hd) k) wd)∧wd.cell? ⟨R,1,none⟩=some (.slice (some ⟨g,0,none⟩) n1 cap')∧R < wd.heap.size∧g < wd.heap.size∧wd.cell? ⟨g,k * 3,none⟩=some (.int .i64 o)∧wd.cell? ⟨g,k * 3 + 1,none⟩=some (.int .i64 c)∧wd.cell? ⟨g,k * 3 + 2,none⟩=some (.int .i64 n)∧wd.cell? ⟨g,(k - 1) * 3,none⟩=some (.int .i64 yo)∧wd.cell? ⟨g,(k - 1) * 3 + 1,none⟩=some (.int .i64 yc)∧wd.cell? ⟨g,(k - 1) * 3 + 2,none⟩=some (.int .i64 ya):=⟨_,rfl,hid (HI.out.next (below_drewN (Below.refl _ _) nq)),c0,lR,lg,q0,q1,q2,p0,p1,p2⟩
      rw [← hwd]
      clear hwd HI c0 lR lg q0 q1 q2 p0 p1 p2 HEX
      have hbx:Below wd.heap.size wd (wd.alloc (.cells #[.int .i64 o,.int .i64 c,.int .i64 n] 151)):=(Below.refl _ _).alloc (Nat.le_refl _) _
      have hGx:=Blk.new wd 151 #[.int .i64 o,.int .i64 c,.int .i64 n]
      replace hbx:=hid hbx
      replace hGx:=hid hGx
      go_wp2_with fail
      obtain ⟨wx,hwx⟩:∃ wx,wx=wd.alloc (.cells #[.int .i64 o,.int .i64 c,.int .i64 n] 151):=⟨_,rfl⟩
      rw [← hwx] at hbx hGx ⊢
      obtain ⟨G,hG⟩:∃ G,G=wd.heap.size:=⟨_,rfl⟩
      have hgG:g ≠ G:=by omega
      have hRG:R ≠ G:=by omega
      rw [← hG] at hGx ⊢
      have hIx:=hIDs.out.next hbx.out
      have c0:wx.cell? ⟨R,1,none⟩=some (.slice (some ⟨g,0,none⟩) n1 cap'):=(hbx.out.cell (p:=⟨R,1,none⟩) dR).trans d0
      have lR:R < wx.heap.size:=Nat.lt_of_lt_of_le dR hbx.out.size
      have lg:g < wx.heap.size:=Nat.lt_of_lt_of_le dG hbx.out.size
      have q0:wx.cell? ⟨g,k * 3,none⟩=some (.int .i64 o):=(hbx.out.cell (p:=⟨g,k * 3,none⟩) dG).trans r0
      have q1:wx.cell? ⟨g,k * 3 + 1,none⟩=some (.int .i64 c):=(hbx.out.cell (p:=⟨g,k * 3 + 1,none⟩) dG).trans r1
      have q2:wx.cell? ⟨g,k * 3 + 2,none⟩=some (.int .i64 n):=(hbx.out.cell (p:=⟨g,k * 3 + 2,none⟩) dG).trans r2
      have p0:wx.cell? ⟨g,(k - 1) * 3,none⟩=some (.int .i64 yo):=(hbx.out.cell (p:=⟨g,(k - 1) * 3,none⟩) dG).trans s0
      have p1:wx.cell? ⟨g,(k - 1) * 3 + 1,none⟩=some (.int .i64 yc):=(hbx.out.cell (p:=⟨g,(k - 1) * 3 + 1,none⟩) dG).trans s1
      have p2:wx.cell? ⟨g,(k - 1) * 3 + 2,none⟩=some (.int .i64 ya):=(hbx.out.cell (p:=⟨g,(k - 1) * 3 + 2,none⟩) dG).trans s2
      have f0:=hIx.free (k * 3)
      have f1:=hIx.free (k * 3 + 1)
      have f2:=hIx.free (k * 3 + 2)
      have hJ:=(hIx.put enH3_len (k:=k) (by have:=HLN.out; omega) (⟨yo,yc,ya⟩:Hd)).drew
      have hGJ:=hid (((Touch.of_grown (own_storeMany hIx.own (k * 3) (enH3 (⟨yo,yc,ya⟩:Hd))).2).blk hGx.out (fun e=>hgG e.symm)).next (below_drewN (Below.refl _ _) 1))
      have hJ2:=hid (show InsRow enH3 3 151 base g cap' w4 ((midK hr (⟨o,c,n⟩:Hd) k).set k (⟨yo,yc,ya⟩:Hd)) _ from hJ)
      clear hwx hG hIDs hIx hJ d0 dR dG r0 r1 r2 s0 s1 s2
      refine wp_tail 14 (by kernel_rfl) (by kernel_rfl) ?_
      simp only [List.take_succ_cons,List.take_zero,List.drop_succ_cons,List.drop_zero]
      repeat still_step
      refine wpStill_nil ?_
      go_wp2_with fail
      obtain ⟨wy,hwy⟩:∃ wy,wy=(((wx.setCell ⟨g,k * 3,none⟩ (.int .i64 yo)).setCell ⟨g,k * 3 + 1,none⟩ (.int .i64 yc)).setCell ⟨g,k * 3 + 2,none⟩ (.int .i64 ya)).drew:=⟨_,rfl⟩
      have hJy:InsRow enH3 3 151 base g cap' w4 ((midK hr (⟨o,c,n⟩:Hd) k).set k (⟨yo,yc,ya⟩:Hd)) wy:=by rw [hwy]; exact hJ2.out
      have hGy:Blk wy G 151 #[.int .i64 o,.int .i64 c,.int .i64 n]:=by rw [hwy]; exact hGJ.out
      rw [← hwy]
      clear hwy hJ2 hGJ c0 lR lg q0 q1 q2 p0 p1 p2 f0 f1 f2 hbx hGx
      have c0:wy.cell? ⟨R,1,none⟩=some (.slice (some ⟨g,0,none⟩) n1 cap'):=by rw [HN1.out]; exact (hJy.touch.blk HBB.out (fun e=>hgR e.symm)).cell 1
      have lR:R < wy.heap.size:=(hJy.touch.blk HBB.out (fun e=>hgR e.symm)).lt
      have e1:=hJy.elem enH3_len (k:=k - 1) (y:=(⟨yo,yc,ya⟩:Hd)) (by rw [List.getElem?_set_ne (by omega),midK_at hk0 hk]; exact HY.out)
      have lg:g < wy.heap.size:=e1.1
      have p0:wy.cell? ⟨g,(k - 1) * 3,none⟩=some (.int .i64 yo):=e1.2 0 _ rfl
      have p1:wy.cell? ⟨g,(k - 1) * 3 + 1,none⟩=some (.int .i64 yc):=e1.2 1 _ rfl
      have p2:wy.cell? ⟨g,(k - 1) * 3 + 2,none⟩=some (.int .i64 ya):=e1.2 2 _ rfl
      have g0:wy.cell? ⟨G,0,none⟩=some (.int .i64 o):=hGy.cell 0
      have g1:wy.cell? ⟨G,1,none⟩=some (.int .i64 c):=hGy.cell 1
      have g2:wy.cell? ⟨G,2,none⟩=some (.int .i64 n):=hGy.cell 2
      have f0:=hJy.free ((k - 1) * 3)
      have f1:=hJy.free ((k - 1) * 3 + 1)
      have f2:=hJy.free ((k - 1) * 3 + 2)
      have hJz:=(hJy.put enH3_len (k:=k - 1) (by rw [List.length_set]; have:=HLN.out; omega) (⟨o,c,n⟩:Hd)).drew
      rw [HS2.out] at hJz
      replace hJz:=hid hJz
      clear e1 hJy hGy
      refine wp_tail 8 (by kernel_rfl) (by kernel_rfl) ?_
      simp only [List.take_succ_cons,List.take_zero,List.drop_succ_cons,List.drop_zero]
      repeat still_step
      refine wpStill_nil ?_
      clear hkw
      go_wp2_with fail
      go_roundw
      case rel=>exact ⟨k - 1,by omega,by congr 1; omega,HP2,hJz.out⟩
      case measure=>simp [nOf]; omega
     ·have hd:decide (o < yo)=false:=decide_eq_false hlt
      have HX2:=hid (fun n=>HEX.out (wr.drewN n) (fun y hy0 hy1=>by rw [HY.out] at hy1; injection hy1 with hy1; subst hy1; simp [ltI,hlt]) (below_drewN (Below.refl _ _) n))
      clear hlt hI hln hn1 HEX
      go_wp2_with fail
      go_quiet (fail)
      go_wp2_with fail
      go_end0
      exact HX2.out _
    ·have hd:decide (0 < k)=false:=decide_eq_false hk0
     have HX2:=hid (fun n=>HEX.out (wr.drewN n) (fun y hy0 hy1=>absurd hy0 hk0) (below_drewN (Below.refl _ _) n))
     clear HEX hI hln hn1 e2
     go_wp2_with fail
     go_quiet (fail)
     go_wp2_with fail
     go_end0
     exact HX2.out _
end
end Go.Proofs.YtakaalldbnklcaaGreat.Cr
namespace Go.Proofs.YtakaalldbnklcaaGreat.Cr
open Go.RowKit Go.WideShapes Go.ChangeShapes Go.ChangeAt Go.Deep
set_option linter.unusedVariables false
section
variable {base R c1 c2:Nat} {A1 A2:Option Addr} {ps:List Pa} {hr:List Hd} {w w4 wr:World} {ac:List (Int × Acc)} {hs:List (Int × Hd)}
set_option maxRecDepth 100000 in
set_option maxHeartbeats 4000000 in
theorem rhold_arg (o c n:Int) (v:Value) (hno:¬ (1≤o∧0≤n∧n≤1125899906842624)) :
  Calls Tryz.prog 136 #[v,.int .i64 o,.int .i64 c,.int .i64 n] w fun e w'=>e = .returned (.int .i64 2)∧w=w':=by
 rcases (show o < 1∨(1≤o∧n < 0)∨((1≤o∧0≤n)∧1125899906842624 < n) from by omega) with h1 | ⟨h1,h2⟩ | ⟨⟨h1,h2⟩,h3⟩
 all_goals
  clear hno
  go_enter Tryz.func136,Tryz.ntmps136
  go_wp2_with fail
  go_ret
  exact ⟨rfl,rfl⟩
set_option maxRecDepth 100000 in
set_option maxHeartbeats 4000000 in
theorem rhold_no (h:IsRef base w R A1 c1 ps A2 c2 hr) (hM:RelB ac hs ps hr) (o c n:Int) (hok:1≤o∧0≤n∧n≤1125899906842624) (hno:holdR ac hs o c n ≠ 0) (hl:ps.length≤140737488355328) (hl2:hr.length≤140737488355328) :
  Calls Tryz.prog 136 #[.pointer (some ⟨R,0,none⟩),.int .i64 o,.int .i64 c,.int .i64 n] w fun e w'=>e = .returned (.int .i64 (holdR ac hs o c n))∧w=w':=by
 have F:=rfind_any h c hl
 have G:=rheldFor_any h o hl2
 unfold holdR at hno ⊢
 rw [if_pos hok] at hno ⊢
 obtain ⟨k1,k2,k3⟩:=hok
 rcases hM.find c with ⟨k,a,ha,hk,hy,he⟩ | ⟨hn,he⟩
 ·rw [ha] at hno ⊢
  simp only at hno ⊢
  rw [he] at F
  rcases hM.heldFor o with ⟨kk,d,hd,_,hkk,hyy,hee⟩ | ⟨hnn,hee⟩
  ·rw [hd]
   rw [hee] at G
   rw [Option.isSome_some,if_pos rfl]
   have HF:=hid F
   have HG:=hid G
   clear F G hd ha hy hyy hno he hee
   go_enter Tryz.func136,Tryz.ntmps136
   go_wp2_with fail
   refine HF.out.mono ?_
   rintro e w1 ⟨rfl,rfl⟩
   go_wp2_with fail
   refine HG.out.mono ?_
   rintro e w1 ⟨rfl,rfl⟩
   go_wp2_with fail
   go_ret
   exact ⟨rfl,rfl⟩
  ·rw [hnn] at hno ⊢
   rw [Option.isSome_none,if_neg (by decide)] at hno ⊢
   rw [hee] at G
   have hb:=hM.bd ha
   have hlim:=hM.lim c a ha
   have hsum:sumC hr c=a.e:=by rw [hM.sum]; exact (hM.exp c a ha).1.symm
   have hwr:wrap64 (a.l - a.e)=a.l - a.e:=wr_lim _ ⟨by have:=hlim.2.2; omega,by have:=hlim.2.2; omega⟩
   rw [hwr] at hno ⊢
   have hlt:a.l - a.e < n:=by
    rcases Int.lt_or_le (a.l - a.e) n with h | h
    ·exact h
    ·exfalso; apply hno; rw [if_neg (by omega)]
   rw [if_pos hlt]
   have E:=rexposure_any h c hl2 (fun d hd=>(hM.amtR d hd).1) (by omega)
   rw [hsum] at E
   obtain ⟨g,rfl,_,hpr⟩:=h.elem1 hy
   have c0:=h.cell0
   have p1:w.cell? ⟨g,k * 2 + 1,none⟩=some (.int .i64 a.l):=hpr.2 1 _ rfl
   obtain ⟨ag,al,ae⟩:=a
   simp only at hb hlim hlt E p1
   obtain ⟨m1,m2,m3,m4⟩:=hlim
   have b1:=hb.1
   have b2:=hb.2
   have hd:decide (al < ae + n)=true:=decide_eq_true (by omega)
   have hb7:0≤ae + n:=by omega
   have hb8:ae + n≤4503599627370496:=by omega
   have HF:=hid F
   have HG:=hid G
   have HE:=hid E
   have hkl:k < ps.length:=hk
   clear F G E ha hy hno he hee hnn hwr hsum hpr h hM hb hlt
   go_enter Tryz.func136,Tryz.ntmps136
   go_wp2_with fail
   refine HF.out.mono ?_
   rintro e w1 ⟨rfl,rfl⟩
   go_wp2_with fail
   refine HG.out.mono ?_
   rintro e w1 ⟨rfl,rfl⟩
   go_wp2_with fail
   refine HE.out.mono ?_
   rintro e w1 ⟨rfl,rfl⟩
   go_wp2_with fail
   go_ret
   exact ⟨rfl,rfl⟩
 ·rw [hn] at hno ⊢
  rw [he] at F
  have HF:=hid F
  clear F G hno hn he
  go_enter Tryz.func136,Tryz.ntmps136
  go_wp2_with fail
  refine HF.out.mono ?_
  rintro e w1 ⟨rfl,rfl⟩
  go_wp2_with fail
  go_ret
  exact ⟨rfl,rfl⟩
def HoldPost (base R:Nat) (A1 A2:Option Addr) (c1:Nat) (ps:List Pa) (hr':List Hd) (w:World) (e:Ending) (w':World):Prop :=
 ∃ A2' c2',e = .returned (.int .i64 0)∧IsRef base w' R A1 c1 ps A2' c2' hr'∧Touch (RT w.heap.size R A2) w w'
set_option maxRecDepth 100000 in
set_option maxHeartbeats 4000000 in
theorem rhold_yes (h:IsRef base w R A1 c1 ps A2 c2 hr) (hM:RelB ac hs ps hr) (o c n:Int) (hok:1≤o∧0≤n∧n≤1125899906842624) (a:Acc) (ha:mget ac c=some a) (hnone:mget hs o=none) (hle:n≤wrap64 (a.l - a.e))
  (hl:ps.length≤140737488355328) (hl2:hr.length * 24 + 24≤140737488355328) (hbw:base≤w.heap.size) :
  Calls Tryz.prog 136 #[.pointer (some ⟨R,0,none⟩),.int .i64 o,.int .i64 c,.int .i64 n] w (HoldPost base R A1 A2 c1 ps (insK Hd.o ltI hr ⟨o,c,n⟩) w):=by
 have F:=rfind_any h c hl
 have G:=rheldFor_any h o (by omega)
 obtain ⟨k1,k2,k3⟩:=hok
 rcases hM.find c with ⟨k,a',ha',hk,hy,he⟩ | ⟨hn,he⟩
 ·rw [ha] at ha'
  injection ha' with ha'
  subst ha'
  rw [he] at F
  rcases hM.heldFor o with ⟨kk,d,hd,_,hkk,hyy,hee⟩ | ⟨hnn,hee⟩
  ·rw [hd] at hnone; cases hnone
  ·rw [hee] at G
   have hb:=hM.bd ha
   have hlim:=hM.lim c a ha
   have hsum:sumC hr c=a.e:=by rw [hM.sum]; exact (hM.exp c a ha).1.symm
   have hwr:wrap64 (a.l - a.e)=a.l - a.e:=wr_lim _ ⟨by have:=hlim.2.2; omega,by have:=hlim.2.2; omega⟩
   rw [hwr] at hle
   have E:=rexposure_any h c (by omega) (fun d hd=>(hM.amtR d hd).1) (by omega)
   rw [hsum] at E
   have P:=rput_any h hM.hd.sorted o c n (hM.hd.none.2 hnone) hl2 hbw
   unfold PutPost at P
   obtain ⟨g,rfl,_,hpr⟩:=h.elem1 hy
   have c0:=h.cell0
   have p1:w.cell? ⟨g,k * 2 + 1,none⟩=some (.int .i64 a.l):=hpr.2 1 _ rfl
   obtain ⟨ag,al,ae⟩:=a
   simp only at hb hlim hle E p1
   obtain ⟨m1,m2,m3,m4⟩:=hlim
   have b1:=hb.1
   have b2:=hb.2
   have hd:decide (al < ae + n)=false:=decide_eq_false (by omega)
   have hb7:0≤ae + n:=by omega
   have hb8:ae + n≤4503599627370496:=by omega
   have HF:=hid F
   have HG:=hid G
   have HE:=hid E
   have HP:=hid P
   have hkl:k < ps.length:=hk
   clear F G E P ha hy he hee hnn hwr hsum hpr h hM hb hnone
   go_enter Tryz.func136,Tryz.ntmps136
   go_wp2_with fail
   refine HF.out.mono ?_
   rintro e w1 ⟨rfl,rfl⟩
   go_wp2_with fail
   refine HG.out.mono ?_
   rintro e w1 ⟨rfl,rfl⟩
   go_wp2_with fail
   refine HE.out.mono ?_
   rintro e w1 ⟨rfl,rfl⟩
   go_wp2_with fail
   refine HP.out.mono ?_
   rintro e w1 ⟨A2',c2',rfl,h1,hT⟩
   go_wp2_with fail
   go_ret
   exact ⟨_,_,rfl,h1,hT⟩
 ·rw [hn] at ha; cases ha
theorem erase_step {l:List Hd} {k j:Nat} {x:Hd} (hk:l[k]?=some x):(l.take (k + 1)).eraseIdx j=if k=j then (l.take k).eraseIdx j else (l.take k).eraseIdx j++[x]:=by
 have hl:=(List.getElem?_eq_some_iff.1 hk).1
 have hln:(l.take k).length=k:=by simp; omega
 rw [List.take_add_one,hk]
 show (l.take k++[x]).eraseIdx j=_
 split
 ·rename_i e
  subst e
  rw [List.eraseIdx_append_of_length_le (by omega),hln,Nat.sub_self,List.eraseIdx_of_length_le (l:=l.take k) (by omega)]
  simp
 ·rename_i e
  rcases Nat.lt_or_ge j k with h | h
  ·rw [List.eraseIdx_append_of_lt_length (by omega)]
  ·rw [List.eraseIdx_append_of_length_le (by omega),hln,List.eraseIdx_of_length_le (l:=l.take k) (by omega)]
   rw [List.eraseIdx_of_length_le (l:=[x]) (by simp only [List.length_cons,List.length_nil]; omega)]
theorem erase_len {l:List Hd} {k j:Nat}:((l.take k).eraseIdx j).length≤k:=by
 have h1:=List.length_eraseIdx_le (l.take k) j
 have h2:=List.length_take_le k l
 omega
set_option maxRecDepth 100000 in
set_option maxHeartbeats 4000000 in
theorem rrel_no (h:IsRef base w R A1 c1 ps A2 c2 hr) (o:Int) (hn:plc (isO o) hr = -1) (hl:hr.length≤140737488355328) :
  Calls Tryz.prog 137 #[.pointer (some ⟨R,0,none⟩),.int .i64 o] w fun e w'=>e = .returned (.int .i64 70)∧w=w':=by
 have G:=rheldFor_any h o hl
 rw [hn] at G
 have HG:=hid G
 clear G hn
 go_enter Tryz.func137,Tryz.ntmps137
 go_wp2_with fail
 refine HG.out.mono ?_
 rintro e w1 ⟨rfl,rfl⟩
 go_wp2_with fail
 go_ret
 exact ⟨rfl,rfl⟩
set_option maxRecDepth 100000 in
set_option maxHeartbeats 4000000 in
theorem rrel_yes (h:IsRef base w R A1 c1 ps A2 c2 hr) (o:Int) (j:Nat) (hj:plc (isO o) hr=j) (hjl:j < hr.length) (hl:hr.length * 24 + 24≤140737488355328) (hbw:base≤w.heap.size) :
  Calls Tryz.prog 137 #[.pointer (some ⟨R,0,none⟩),.int .i64 o] w (HoldPost base R A1 A2 c1 ps (hr.eraseIdx j) w):=by
 have G:=rheldFor_any h o (by omega)
 rw [hj] at G
 have HG:=hid G
 clear G hj
 obtain ⟨i0,hi,hz0,hz1,hz2⟩:=info_parts info_rh
 go_enter Tryz.func137,Tryz.ntmps137
 go_wp2_with fail
 refine HG.out.mono ?_
 rintro e w1 ⟨rfl,rfl⟩
 go_wp2_with fail
 have H0:=hid h
 go_loopw [6,7] (fun v i wr=>∃ k:Nat,k≤hr.length∧i = .int .i64 k∧wr.ownsRow w.heap.size 151 3 v ((hr.take k).eraseIdx j).length (((hr.take k).eraseIdx j).flatMap enH3)∧Below w.heap.size w wr) (fun _ i _=>hr.length - nOf i)
 case atStart=>exact ⟨0,Nat.zero_le _,rfl,World.ownsRow_nil _ _ _ _,Below.refl _ _⟩
 case round =>
  have hRb:=h.lt
  clear h HG
  obtain ⟨k,hk,rfl,hO,hb⟩:=hrel
  have h:=H0.out.next hb
  have c0:=h.cell1
  have lR:R < wr.heap.size:=h.blk.lt
  have hwz:w.heap.size≤wr.heap.size:=hb.size
  by_cases hlt:k < hr.length
  ·obtain ⟨y,hy⟩:∃ y,hr[k]?=some y:=⟨hr[k],List.getElem?_eq_getElem hlt⟩
   have hst:=erase_step (j:=j) hy
   by_cases hkj:k=j
   ·subst hkj
    rw [if_pos rfl] at hst
    rw [← hst] at hO
    have HO:=hid (And.intro hO hb)
    clear hO h hb hy hst
    go_wp2_with fail
    go_roundw
    case rel=>exact ⟨k + 1,by omega,by go_num,HO.out.1,HO.out.2⟩
    case measure=>simp [nOf]; omega
   ·rw [if_neg hkj] at hst
    have HST:=hid hst
    have hlen:((hr.take k).eraseIdx j).length≤k:=erase_len
    obtain ⟨m,hm⟩:∃ m,m=((hr.take k).eraseIdx j).length:=⟨_,rfl⟩
    rw [← hm] at hO hlen
    have HM:=hid hm
    have b1:((k:Int) == (j:Int))=false:=by simp; omega
    have b2:((k:Int) != (j:Int))=true:=by simp; omega
    obtain ⟨g,hA,_,hpr⟩:=h.elem2 hy
    rw [hA] at c0
    obtain ⟨yo,yc,ya⟩:=y
    have p0:wr.cell? ⟨g,k * 3,none⟩=some (.int .i64 yo):=hpr.2 0 _ rfl
    have p1:wr.cell? ⟨g,k * 3 + 1,none⟩=some (.int .i64 yc):=hpr.2 1 _ rfl
    have p2:wr.cell? ⟨g,k * 3 + 2,none⟩=some (.int .i64 ya):=hpr.2 2 _ rfl
    have HO:=hid hO
    have hb3:=hid (hb.alloc hb.size (.cells #[.int .i64 yo,.int .i64 yc,.int .i64 ya] 151))
    have hk2:m * 24 + 24≤140737488355328:=by omega
    clear hpr hy h hb hO hst hm hkj hA
    go_wp2_with (first
     | (at_builtin; refine wpList_push _ rfl _ _ 77 rfl w.heap.size 151 i0 _ 3 24 Tryz.underlying77 hi hz0 hz1 hz2 rfl (by decide) _ _ _ (by rfl) HO.out #[.int .i64 yo,.int .i64 yc,.int .i64 ya] wr.heap.size (by simp) (by rfl) (by rfl) (by rfl) (by unfold maxLen; omega) (by omega) hwz ?_; intro v' w3 hO4 hg4))
    have hb4:=hb3.out.grown hg4 (by simp; omega) (fun k hk=>(HO.out.lt k hk).1)
    have hO5:w3.ownsRow w.heap.size 151 3 v' ((hr.take (k + 1)).eraseIdx j).length (((hr.take (k + 1)).eraseIdx j).flatMap enH3):=by
     rw [HST.out,List.flatMap_append,List.length_append, ← HM.out]
     simpa [enH3] using hO4
    clear hO4 hg4 HO hb3
    go_roundw
    case rel=>exact ⟨k + 1,by omega,by go_num,hO5,hb4⟩
    case measure=>simp [nOf]; omega
  ·have hk':k=hr.length:=by omega
   subst hk'
   rw [List.take_length] at hO
   obtain ⟨A',cap',rfl,_⟩:=own_slice hO
   have f0:wr.frozen? ⟨R,1,none⟩=false:=h.blk.free 1
   have HH:=hid (And.intro hO (And.intro h hb))
   clear hO h hb hk hlt
   go_wp2_with fail
   go_ret
   obtain ⟨hO,h,hb⟩:=HH.out
   have hg:wr.grownBy (wr.setCell ⟨R,1,none⟩ (.slice A' (hr.eraseIdx j).length cap')) (some R):=⟨rfl,rfl,rfl,by simp,fun k _ hk=>heap_setCell_other wr ⟨R,1,none⟩ k _ (fun e=>hk (by simp [e]))⟩
   have nR:∀ {v:Value} {n:Nat} {xs:List Value} {b:Nat} {t:TypeId} {s:Nat},R < b→wr.ownsRow b t s v n xs→v.ownBlock=none∨v.ownBlock ≠ some R:=fun hlt hO => .inr (fun e=>by have:=(hO.lt R e).1; omega)
   refine ⟨A',cap',rfl,⟨?_,h.own1.kept hg (nR hRb h.own1),ownsRow_base_a (hO.kept hg (nR (by omega) hO)) hbw,hRb⟩,(Touch.of_below hb).then ((Touch.setCell wr R 1 _).mono (fun k hk => .inl hk))⟩
   have:=h.blk.set_ 1 (.slice A' (hr.eraseIdx j).length cap')
   simpa using this
end
end Go.Proofs.YtakaalldbnklcaaGreat.Cr
namespace Go.Proofs.YtakaalldbnklcaaGreat.Cr
open Go.RowKit Go.Maps Go.Sort Go.ChangeShapes Go.WideShapes Go.ChangeAt Go.Deep
set_option linter.unusedVariables false
instance:Inhabited Hd:=⟨⟨0,0,0⟩⟩
def cfH (x y:Hd):Int:=cmpI x.o y.o
def ltH (x y:Hd):Bool:=decide (cfH x y < 0)
theorem ltH_iff (x y:Hd):ltH x y=true ↔ x.o < y.o:=by
 unfold ltH cfH cmpI
 rw [decide_eq_true_eq]
 split
 ·simp_all
 ·split <;> simp_all <;> omega
theorem ltH_no {x y:Hd} (h:ltH x y=false):¬ x.o < y.o:=fun e=>by rw [(ltH_iff x y).2 e] at h; cases h
theorem swoH:Sort.SWO ltH where
 irrefl a:=by
  cases h:ltH a a with
  | false=>rfl
  | true=>have:=(ltH_iff a a).1 h; omega
 trans x y z h g:=by rw [ltH_iff] at *; omega
 ntrans x y z h1 h2:=by
  cases h:ltH x z with
  | false=>rfl
  | true =>
   have h':=(ltH_iff x z).1 h
   have a:=ltH_no h1
   have b:=ltH_no h2
   omega
set_option maxRecDepth 100000 in
set_option maxHeartbeats 4000000 in
theorem horder_any (x y:Hd) (w:World):Calls Tryz.prog 37 #[.agg #[.int .i64 x.o,.int .i64 x.c,.int .i64 x.a],.agg #[.int .i64 y.o,.int .i64 y.c,.int .i64 y.a]] w fun e w'=>e = .returned (.int .i64 (cfH x y))∧Grew w w':=by
 obtain ⟨xd,xo,xs⟩:=x
 obtain ⟨yd,yo,ys⟩:=y
 simp only
 have b1:Blk ((w.alloc (.cells #[.int .i64 xd,.int .i64 xo,.int .i64 xs] 51)).alloc (.cells #[.int .i64 yd,.int .i64 yo,.int .i64 ys] 51)) w.heap.size 51 #[.int .i64 xd,.int .i64 xo,.int .i64 xs]:=(Blk.new _ _ _).alloc _
 have b2:Blk ((w.alloc (.cells #[.int .i64 xd,.int .i64 xo,.int .i64 xs] 51)).alloc (.cells #[.int .i64 yd,.int .i64 yo,.int .i64 ys] 51)) (w.heap.size + 1) 51 #[.int .i64 yd,.int .i64 yo,.int .i64 ys]:=by
  have:=Blk.new (w.alloc (.cells #[.int .i64 xd,.int .i64 xo,.int .i64 xs] 51)) 51 #[.int .i64 yd,.int .i64 yo,.int .i64 ys]
  rw [World.size_alloc] at this
  exact this
 have hg:Grew w ((w.alloc (.cells #[.int .i64 xd,.int .i64 xo,.int .i64 xs] 51)).alloc (.cells #[.int .i64 yd,.int .i64 yo,.int .i64 ys] 51)):=((Grew.refl w).alloc _).alloc _
 have B1:=hid b1
 have B2:=hid b2
 clear b1 b2
 go_enter Tryz.func37,Tryz.ntmps37
 go_wp2_with fail
 obtain ⟨W,hW⟩:∃ W,W=(w.alloc (.cells #[.int .i64 xd,.int .i64 xo,.int .i64 xs] 51)).alloc (.cells #[.int .i64 yd,.int .i64 yo,.int .i64 ys] 51):=⟨_,rfl⟩
 replace B1:=B1.out
 replace B2:=B2.out
 rw [← hW] at B1 B2 hg ⊢
 obtain ⟨G,hG⟩:∃ G,G=w.heap.size:=⟨_,rfl⟩
 rw [← hG] at B1 B2 ⊢
 clear hW hG
 have p0:W.cell? ⟨G,0,none⟩=some (.int .i64 xd):=B1.cell 0
 have p3:W.cell? ⟨G + 1,0,none⟩=some (.int .i64 yd):=B2.cell 0
 clear B1 B2
 go_wp2_with (first | (go_at_call 38; refine (compare_any _ _ _).mono ?_; rintro e w5 ⟨rfl,rfl⟩))
 go_ret
 exact ⟨rfl,hg⟩
theorem sortsHd:SortsAt Tryz.prog 78 (.func (.func 37) #[] #[]) enH3 3 ltH:=by
 refine ⟨fun blk off cap d w hH hb hsz => ?_,fun p cap w => ?_⟩
 ·have eg:∀ args w,(callFunc 37 args).run Tryz.prog w = .ok (.enter 37 args) w:=enters_of Tryz.func37 (by kernel_rfl) rfl
  exact AnyQ.slices_SortFunc Tryz.sortHd 3 Tryz.isAgg51 Tryz.sizeOf51 enH3 enH3_len enH3_one cfH swoH 37 #[] blk off cap d w eg (fun _ _ _ _ x y=>horder_any x y _) hH hb hsz
 ·exact AnyF.slices_SortFunc_none Tryz.sortHd p cap _ w
set_option maxRecDepth 100000 in
set_option maxHeartbeats 2000000 in
theorem sortedHolds (w:World) (Bm b:Nat) (m:List (Int × Hd)) (hm:m.length * 24≤140737488351232) (hBm:Bm < w.heap.size) (hc:w.cell? ⟨Bm,0,none⟩=some (.map (some b))) (hM:IsMap w b kI enH m) :
  Calls Tryz.prog 35 #[.func (.func 79) #[] #[.pointer (some ⟨Bm,0,none⟩)],.func (.func 37) #[] #[]] w fun e w' =>
   ∃ (A:Option Addr) (cap:Nat) (l:List Hd),e = .returned (.slice A l.length cap)∧l.Perm (m.map (·.2))∧l.Pairwise (fun a b=>ltH b a=false)∧w'.ownsRow w.heap.size 51 3 (.slice A l.length cap) l.length (l.flatMap enH3)∧Below w.heap.size w w':=by
 refine (callsIn_wide (n:=6)).1 ?_
 have hseq:SeqGives Fence.wide 3 Tryz.prog 79 #[.pointer (some ⟨Bm,0,none⟩)] enH (fun xs=>xs.Perm (m.map (·.2))) m.length w:=vals_gives Fence.wide 3 trivial rfl (by omega) Bm b m w hBm hc hM
 have cC:=collect_in Fence.wide 5 trivial trivial rfl (by omega) 79 #[.pointer (some ⟨Bm,0,none⟩)] trivial (enters_of Tryz.func79 (by kernel_rfl) rfl) _ m.length (by unfold maxLen; omega) (by omega) w hseq
 have hfK:Fence.wide.fn 77:=trivial
 have hfS:Fence.wide.fn 78:=trivial
 refine callsIn_of_wp Tryz.func35 rfl trivial ?_ rfl
 simp only [Tryz.ntmps35,List.size_toArray,List.length_cons,List.length_nil,Nat.reduceAdd,Nat.reduceSub,Array.replicate_succ,Array.replicate_zero,List.push_toArray,List.append_toArray,List.nil_append,List.cons_append]
 gi_wp2_with (first
  | (gi_at_call 77; refine cC.mono ?_; rintro e w1 ⟨v,ss,rfl,hS,hrow,hnil,hb⟩))
 have hlen:ss.length=m.length:=by have:=hS.length_eq; simpa using this
 have cS:=hid (callsIn_wide.2 (sort_owned sortsHd enH3_len hrow (by omega)):CallsIn Fence.wide 5 _ _ _ _ _)
 gi_wp2_with (first
  | (gi_at_call 78; refine cS.out.mono ?_; rintro e w2 ⟨rfl,l,hp,hs,hrow2,hg2⟩))
 obtain ⟨A,cap,hv,_⟩:=own_slice hrow2
 subst hv
 go_ret
 exact ⟨A,cap,l,rfl,hp.trans hS,hs,hrow2,hb.grown hg2 hb.size (fun k e=>(hrow.lt k e).1)⟩
set_option maxRecDepth 100000 in
set_option maxHeartbeats 1000000 in
theorem holds_any {n0:Nat} {w:World} {X BA BH:Nat} {ac:List (Int × Acc)} {hs:List (Int × Hd)} (h:IsBook n0 w X BA BH ac hs) (hm:hs.length * 24≤140737488351232) :
  Calls Tryz.prog 11 #[.pointer (some ⟨X,0,none⟩)] w fun e w' =>
   ∃ (A:Option Addr) (cap:Nat) (l:List Hd),e = .returned (.slice A l.length cap)∧l.Perm (hs.map (·.2))∧l.Pairwise (fun a b=>ltH b a=false)∧w'.ownsRow w.heap.size 51 3 (.slice A l.length cap) l.length (l.flatMap enH3)∧Below w.heap.size w w':=by
 have hH:=h.cellH
 have hb1:Below w.heap.size w (w.alloc (.cells #[.map (some BH)] 116)):=(Below.refl _ _).alloc (Nat.le_refl _) _
 have K:=hid (sortedHolds (w.alloc (.cells #[.map (some BH)] 116)) w.heap.size BH hs hm (by simp) (by simp) (h.alloc _).hds)
 have V:=hid ((callsIn_wide (n:=6)).1 (valsCall_in Fence.wide 6 trivial rfl (some BH) w))
 go_enter Tryz.func11,Tryz.ntmps11
 go_wp2_with fail
 refine V.out.mono ?_
 rintro e w1 ⟨rfl,rfl⟩
 go_wp2_with fail
 refine K.out.mono ?_
 rintro e w2 ⟨A,cap,l,rfl,hp,hs,hrow,hb2⟩
 go_wp2_with fail
 go_ret
 exact ⟨A,cap,l,rfl,hp,hs,ownsRow_base_a hrow (by simp),bthen hb1 hb2⟩
end Go.Proofs.YtakaalldbnklcaaGreat.Cr
namespace Go.Proofs.YtakaalldbnklcaaGreat.Cr
open Go.RowKit Go.Maps Go.Sort Go.ChangeShapes Go.WideShapes Go.ChangeAt Go.Deep
set_option linter.unusedVariables false
theorem info_pp:(Tryz.prog.info? 149).map (fun i=>(i.zero,i.size,i.bytes))=some (some (.agg #[.int .i64 0,.int .i64 0]),2,16):=by kernel_rfl
theorem sortsI (m:Nat):AnyZI.SortsIn Tryz.prog Tryz.sortedI_ren Fence.wide m :=
  ⟨fun blk off cap ss W hH hblk hsz=>callsIn_wide.2 (AnyM.slices_Sort_int Tryz.sortI blk off cap ss W hH hblk hsz),
   fun p cap W=>callsIn_wide.2 (AnyM.slices_Sort_int_none Tryz.sortI p cap W)⟩
def srt (l:List Int):List Int:=l.mergeSort (fun x y=>decide (x≤y))
set_option maxRecDepth 100000 in
set_option maxHeartbeats 2000000 in
theorem sortedKeys (w:World) (Bm b:Nat) (m:List (Int × Acc)) (hm:m.length * 8≤140737488351232) (hBm:Bm < w.heap.size) (hc:w.cell? ⟨Bm,0,none⟩=some (.map (some b))) (hM:IsMap w b kI vAcc m) :
  Calls Tryz.prog 39 #[.func (.func 129) #[] #[.pointer (some ⟨Bm,0,none⟩)]] w fun e w' =>
   ∃ (v:Value) (ss:List Int),e = .returned v∧ss.Perm (m.map (·.1))∧w'.ownsRow w.heap.size 3 1 v ss.length ((srt ss).map kI)∧Below w.heap.size w w':=by
 refine (callsIn_wide (n:=5)).1 ?_
 have hseq:SeqGives Fence.wide 2 Tryz.prog 129 #[.pointer (some ⟨Bm,0,none⟩)] kI (fun xs=>xs.Perm (m.map (·.1))) m.length w:=keys_gives Fence.wide 2 trivial rfl (by omega) Bm b m w hBm hc hM
 have cS:=AnyZI.sorted_in Tryz.sortedI Fence.wide 5 trivial trivial trivial trivial rfl (by omega) (sortsI _) (enters_of Tryz.func82 (by kernel_rfl) rfl) 129 #[.pointer (some ⟨Bm,0,none⟩)] trivial (enters_of Tryz.func129 (by kernel_rfl) rfl) _ m.length (by unfold maxLen; omega) (by omega) w hseq
 exact cS.mono fun e w' ⟨v,ss,h1,h2,h3,_,h5⟩=>⟨v,ss,h1,h2,h3,h5⟩
def parL (ac:List (Int × Acc)) (ss:List Int):List Pa:=ss.map (fun id=>(⟨id,((mget ac id).map (·.l)).getD 0⟩:Pa))
theorem srt_perm (l:List Int):(srt l).Perm l:=List.mergeSort_perm _ _
theorem srt_sorted (l:List Int):(srt l).Pairwise (fun a b=>a≤b):=by
 have:=List.pairwise_mergeSort (le:=fun x y:Int=>decide (x≤y)) (fun a b c h g=>by simp only [decide_eq_true_eq] at *; omega) (fun a b=>by simp only [Bool.or_eq_true,decide_eq_true_eq]; omega) l
 exact this.imp (fun h=>by simpa using h)
theorem parL_eq {ac:List (Int × Acc)} {hs:List (Int × Hd)} {ps:List Pa} {hr:List Hd} (hM:RelB ac hs ps hr) {ss:List Int} (hp:ss.Perm (ac.map (·.1))):parL ac (srt ss)=ps:=by
 refine hM.pa.unique' linI ?_ ?_
 ·have h1:(parL ac (srt ss)).Perm (parL ac (ac.map (·.1))):=((srt_perm ss).trans hp).map _
  refine h1.trans (List.Perm.of_eq ?_)
  unfold parL
  rw [List.map_map]
  refine List.map_congr_left fun q hq => ?_
  simp only [Function.comp,mget_of_mem hM.pa.nd hq]
  rfl
 ·unfold parL
  rw [List.pairwise_map]
  exact (srt_sorted ss).imp (fun h=>by simp [ltI]; omega)
set_option maxRecDepth 100000 in
set_option maxHeartbeats 4000000 in
theorem parties_any {n0:Nat} {w:World} {X BA BH:Nat} {ac:List (Int × Acc)} {hs:List (Int × Hd)} {ps:List Pa} {hr:List Hd} (h:IsBook n0 w X BA BH ac hs) (hM:RelB ac hs ps hr) :
  Calls Tryz.prog 45 #[.pointer (some ⟨X,0,none⟩)] w (NewRowOf enP 149 2 ps w):=by
 have hfew:=hM.few
 have hA:=h.cellA
 have hb1:Below w.heap.size w (w.alloc (.cells #[.map (some BA)] 117)):=(Below.refl _ _).alloc (Nat.le_refl _) _
 have K:=hid (sortedKeys (w.alloc (.cells #[.map (some BA)] 117)) w.heap.size BA ac (by omega) (by simp) (by simp) (h.alloc _).acs)
 have V:=hid ((callsIn_wide (n:=6)).1 (keysCall_in Fence.wide 6 trivial rfl (some BA) w))
 obtain ⟨i0,hi,hz0,hz1,hz2⟩:=info_parts info_pp
 have HM:=hid hM
 have H0:=hid h
 clear h hM
 go_enter Tryz.func45,Tryz.ntmps45
 go_wp2_with fail
 refine V.out.mono ?_
 rintro e w1 ⟨rfl,rfl⟩
 go_wp2_with fail
 refine K.out.mono ?_
 rintro e w2 ⟨v,ss,rfl,hp,hrow,hb2⟩
 have hb:=bthen hb1 hb2
 have hPS:=hid (parL_eq HM.out hp)
 have hln:(srt ss).length=ss.length:=(srt_perm ss).length_eq
 have hss:ss.length≤64:=by have:=hp.length_eq; simp at this; omega
 have hget:∀ k id,(srt ss)[k]?=some id→∃ a,mget ac id=some a:=fun k id hk=>by
  have h1:id ∈ ac.map (·.1):=(hp.mem_iff).1 ((srt_perm ss).mem_iff.1 (List.mem_of_getElem? hk))
  exact mget_key h1
 have HG:=hid hget
 clear hget K V hb1 hp
 have hrow':w2.ownsRow w.heap.size 3 1 v ss.length ((srt ss).map kI):=ownsRow_base_a hrow (by simp)
 clear hrow
 obtain ⟨A,cap,rfl,_⟩:=own_slice hrow'
 have e0:(srt ss).map kI=(srt ss).flatMap (fun x=>[kI x]):=by
  generalize srt ss=l
  induction l with
  | nil=>rfl
  | cons x l ih=>simp [ih]
 go_wp2_with fail
 go_loopw [3,15] (fun v i wr=>∃ k:Nat,k≤ss.length∧i = .int .i64 k∧wr.ownsRow w.heap.size 149 2 v k ((parL ac ((srt ss).take k)).flatMap enP)∧wr.ownsRow w.heap.size 3 1 (.slice A ss.length cap) ss.length ((srt ss).map kI)∧Below w.heap.size w wr) (fun _ i _=>ss.length - nOf i)
 case atStart=>exact ⟨0,Nat.zero_le _,rfl,World.ownsRow_nil _ _ _ _,hrow',hb⟩
 case round =>
  clear hrow' hb hb2
  obtain ⟨k,hk,rfl,hO,hrow,hb⟩:=hrel
  have hwz:w.heap.size≤wr.heap.size:=hb.size
  by_cases hlt:k < ss.length
  ·obtain ⟨x,hx⟩:∃ x,(srt ss)[k]?=some x:=⟨(srt ss)[k],List.getElem?_eq_getElem (by omega)⟩
   obtain ⟨a,ha⟩:=HG.out k x hx
   have HS:Hid (parL ac ((srt ss).take (k + 1))=parL ac ((srt ss).take k)++[⟨x,a.l⟩]):=hid (by unfold parL; rw [List.take_add_one,hx,List.map_append]; simp [ha])
   have hrd:=own_rd hrow
   rw [e0] at hrd
   obtain ⟨b,off,hAA,hbl,hcc⟩:=hrd.at_ 1 (fun _=>rfl) (by omega) hx
   subst hAA
   have q0:wr.cell? ⟨b,off + k,none⟩=some (.int .i64 x):=by have:=hcc 0 _ rfl; simpa [kI] using this
   have h:=H0.out.next hb
   have c0:=h.cellA
   have l1:=h.lookA x
   rw [show ptrOf ac x=some ⟨a.g,0,none⟩ from by unfold ptrOf; rw [ha]; rfl] at l1
   have p0:wr.cell? ⟨a.g,0,none⟩=some (.int .i64 a.l):=(h.at_ ha).cell 0
   obtain ⟨ag,al,ae⟩:=a
   simp only at p0 l1 HS
   have HO:=hid hO
   have HR:=hid (hrow.alloc (.cells #[.int .i64 x,.int .i64 al] 149))
   have hb3:=hid (hb.alloc hb.size (.cells #[.int .i64 x,.int .i64 al] 149))
   have HO2:=hid (hO.alloc (.cells #[.int .i64 x,.int .i64 al] 149))
   clear h ha hx hcc hrd hO hrow hb
   go_wp2_with (first
    | (at_builtin; refine wpList_push _ rfl _ _ 137 rfl w.heap.size 149 i0 _ 2 16 Tryz.underlying137 hi hz0 hz1 hz2 rfl (by decide) _ _ _ (by rfl) HO.out #[.int .i64 x,.int .i64 al] wr.heap.size (by simp) (by rfl) (by rfl) (by rfl) (by unfold maxLen; omega) (by omega) hwz ?_; intro v' w3 hO4 hg4))
   have hb4:=hb3.out.grown hg4 (by simp; omega) (fun k hk=>(HO.out.lt k hk).1)
   have hO5:w3.ownsRow w.heap.size 149 2 v' (k + 1) ((parL ac ((srt ss).take (k + 1))).flatMap enP):=by
    rw [HS.out,List.flatMap_append]
    simpa [enP] using hO4
   have hR5:=HR.out.kept hg4 (by
    rcases hob:(Value.slice (some ⟨b,off,none⟩) ss.length cap).ownBlock with _ | g'
    ·exact .inl rfl
    ·right
     intro e
     exact own_other HO2.out HR.out (by decide) hob e.symm)
   clear hO4 hg4 HO HO2 HR hb3
   go_roundw
   case rel=>exact ⟨k + 1,by omega,by go_num,hO5,hR5,hb4⟩
   case measure=>simp [nOf]; omega
  ·have hk':k=(srt ss).length:=by omega
   have hpl:ps.length=k:=by rw [← hPS.out]; unfold parL; rw [List.length_map]; omega
   rw [hk',List.take_length,hPS.out, ← hk', ← hpl] at hO
   obtain ⟨A',cap',rfl,_⟩:=own_slice hO
   have HH:=hid (And.intro hO hb)
   clear hO hb hrow hk'
   go_wp2_with fail
   go_ret
   exact ⟨A',cap',rfl,HH.out.1,HH.out.2⟩
end Go.Proofs.YtakaalldbnklcaaGreat.Cr
