/-
  The document's orders' book: Add of a good order (printed by gen_rb19.py).
-/
import Derived.Test.YtakaalldbnklcaaGreatQd11
namespace Go.Proofs.YtakaalldbnklcaaGreat.Or
open Go.RowKit Go.WideShapes Go.ChangeShapes Go.ChangeAt Go.Deep
set_option linter.unusedVariables false
section
variable {base R c1 c2:Nat} {A1 A2:Option Addr} {is:List (Int × Int)} {rs:List Od} {pr:List (Int × Int)} {os:List (Int × Od)} {w w4 wr:World}
theorem info_rb:(Tryz.prog.info? 208).map (fun i=>(i.zero,i.size,i.bytes))=some (some (.agg #[.int .i64 0,.int .i64 0]),2,16):=by kernel_rfl
def AddD (base R:Nat) (A1 A2:Option Addr) (c1:Nat) (is:List (Int × Int)) (rs:List Od) (pr:List (Int × Int)) (os:List (Int × Od)) (id c:Int) (f:ByteArray) (ls:List Ln) (w:World) (e:Ending) (w':World):Prop :=
 (errL pr os id c f ls ≠ 0∧e = .returned (.int .i64 (errL pr os id c f ls))∧Below w.heap.size w w') ∨
 (errL pr os id c f ls=0∧∃ (o:Od) (A2':Option Addr) (c2':Nat),e = .returned (.int .i64 0)∧IsRef base w' R A1 c1 is A2' c2' (insK Od.i ltI rs o)∧(o.i=id∧o.c=c∧o.f=f∧o.ls=ls∧o.n=netT (prL pr ls)∧o.t=taxT (prL pr ls)∧w.heap.size≤o.b)∧Touch (RT w.heap.size R A2) w w')
theorem addD_err {id c m:Int} {f:ByteArray} {ls:List Ln} {w':World} (he:errL pr os id c f ls=m) (hm:m ≠ 0) (hb:Below w.heap.size w w'):AddD base R A1 A2 c1 is rs pr os id c f ls w (.returned (.int .i64 m)) w' :=
 .inl ⟨by rw [he]; exact hm,by rw [he],hb⟩
theorem rt_up {n m R:Nat} {A:Option Addr} {k:Nat} (h:n≤m) (hk:RT m R A k):RT n R A k:=by
 rcases hk with e | e | e
 ·exact .inl e
 ·exact .inr (.inl e)
 ·exact .inr (.inr (Nat.le_trans h e))
theorem IsRef.ins2 {g cap':Nat} {o:Od} (h:IsRef base w R A1 c1 is A2 c2 rs) (hI:InsRow enO6 6 168 base g cap' w4 (insK Od.i ltI rs o) wr) (hB:Blk w4 R 93 #[.slice A1 is.length c1,.slice (some ⟨g,0,none⟩) (insK Od.i ltI rs o).length cap'])
  (hT:Touch (RT w.heap.size R A2) w w4) (hg:RT w.heap.size R A2 g) (hgR:g ≠ R) (hn:LnsAt base w4 o) (hog:o.b ≠ g):IsRef base wr R A1 c1 is (some ⟨g,0,none⟩) cap' (insK Od.i ltI rs o)∧Touch (RT w.heap.size R A2) w wr:=by
 have hT2:Touch (RT w.heap.size R A2) w wr:=hT.then (hI.touch.mono (fun k hk=>by subst hk; exact hg))
 refine ⟨⟨hI.touch.blk hB (fun e=>hgR e.symm),own_touch h.own1 hT2 (fun k hk => ?_),hI.own,fun x hx => ?_,h.lt⟩,hT2⟩
 ·obtain ⟨cs,hb⟩:=rowBlk h.own1 (b:=k) (by cases A1 with | none=>simp [Value.ownBlock] at hk | some a=>simpa [Value.ownBlock] using hk)
  exact rt_not h.blk h.own2 hb (by decide) (by decide)
 ·rcases List.mem_cons.1 ((insK_perm rs o).mem_iff.1 hx) with rfl | hx
  ·exact hn.touch hI.touch hog
  ·obtain ⟨_,_,cs,hb⟩:=h.lns x hx
   exact (h.lns x hx).touch hT2 (rt_not h.blk h.own2 hb (by decide) (by decide))
set_option maxRecDepth 100000 in
set_option maxHeartbeats 16000000 in
theorem radd_ok (h : IsRef base w R A1 c1 is A2 c2 rs) (hr:RelO pr os is rs) (id c:Int) (f:ByteArray) (A:Option Addr) (cap:Nat) (ls:List Ln) (hfs:f.size≤maxLen) (hR:Rd w A (ls.flatMap enL)) (hok:OrdOk id c f ls) (hl1:is.length≤140737488355328) (hl2:rs.length * 72 + 72≤140737488355328) (hbw:base≤w.heap.size) :
    Calls Tryz.prog 31 #[.pointer (some ⟨R,0,none⟩),.int .i64 id,.int .i64 c,.string f,.slice A ls.length cap] w (AddD base R A1 A2 c1 is rs pr os id c f ls w):=by
  obtain ⟨h1,h2,h3,h4,h5,h6,h7⟩:=hok.1
  have HOK:=hid hok
  have HR:=hid hr
  have H:=hid h
  clear h hr hok
  have W:=hid (fun w=>risWord_any f w hfs)
  rw [h5] at W
  have e1:decide ((ls.length:Int) < 1)=false:=decide_eq_false (by omega)
  have e2:decide ((4:Int) < (ls.length:Int))=false:=decide_eq_false (by omega)
  clear h5
  go_enter Tryz.func31,Tryz.ntmps31
  go_wp2_with (first | (go_at_call 65; refine (W.out _).mono ?_; rintro e w5 ⟨rfl,rfl⟩))
  clear W h1 h2 h3 h4 e1 e2
  go_loopw [12] (fun i wr=>∃ k:Nat,k≤ls.length∧i = .int .i64 k∧Below w.heap.size w wr) (fun i _=>ls.length - nOf i)
  case atStart=>exact ⟨0,Nat.zero_le _,rfl,Below.refl _ _⟩
  case round =>
    obtain ⟨k,hk,rfl,hb⟩:=hrel
    by_cases hlt:k < ls.length
    · obtain ⟨x,hx⟩:∃ x,ls[k]?=some x:=⟨ls[k],List.getElem?_eq_getElem hlt⟩
      have HX:=hid hx
      obtain ⟨b,off,rfl,hbs,hcc⟩:=(hR.below hb).at_ 2 enL_len (by omega) hx
      have hgood:=HOK.out.2 k x hx
      obtain ⟨xi,xq⟩:=x
      have q1:wr.cell? ⟨b,off + k * 2 + 1,none⟩=some (.int .i64 xq):=hcc 1 _ rfl
      have HB:=hid hb
      have b1:decide (xq < 1)=false:=decide_eq_false (by have:=hgood.1; simp only at this; omega)
      have b2:decide (1000000 < xq)=false:=decide_eq_false (by have:=hgood.2.1; simp only at this; omega)
      have HD:=hid hgood.2.2
      clear hcc hx hbs hb hgood
      go_wp2_with fail
      clear q1 b1 b2
      go_loopw [13] (fun i wy=>∃ m:Nat,m≤k∧i = .int .i64 m∧Below w.heap.size w wy) (fun i _=>k - nOf i)
      case atStart=>exact ⟨0,Nat.zero_le _,rfl,HB.out⟩
      case round =>
        obtain ⟨m,hm,rfl,hb⟩:=hrel
        by_cases hmk:m < k
        · obtain ⟨y,hy⟩:∃ y,ls[m]?=some y:=⟨ls[m],List.getElem?_eq_getElem (by omega)⟩
          have hml:m < ls.length:=by omega
          have hne:y.i ≠ xi:=fun e=>by
            have:=HD.out
            unfold hasI at this
            rw [List.any_eq_false] at this
            have h2:=this y (List.mem_of_getElem? (i:=m) (by rw [List.getElem?_take_of_lt hmk]; exact hy))
            simp only [beq_iff_eq] at h2
            exact h2 e
          have qs:∀ W',Below w.heap.size w W'→W'.cell? ⟨b,off + m * 2,none⟩=some (.int .i64 y.i)∧W'.cell? ⟨b,off + k * 2,none⟩=some (.int .i64 xi):=fun W' hb'=>by
            constructor
            · obtain ⟨b',off',e,_,hc⟩:=(hR.below hb').at_ 2 enL_len (by omega) hy
              simp only [Option.some.injEq,Addr.mk.injEq,and_true] at e
              obtain ⟨rfl,rfl⟩:=e
              exact hc 0 _ rfl
            · obtain ⟨b',off',e,_,hc⟩:=(hR.below hb').at_ 2 enL_len (by omega) HX.out
              simp only [Option.some.injEq,Addr.mk.injEq,and_true] at e
              obtain ⟨rfl,rfl⟩:=e
              exact hc 0 _ rfl
          obtain ⟨p0,p1⟩:=qs _ hb
          have HBN:=hid (fun n=>below_drewN hb n)
          have be:(y.i == xi)=false:=by simpa using hne
          clear hy qs hb hne
          go_wp2_with fail
          go_quiet (fail)
          go_wp2_with fail
          go_roundw
          case rel=>exact ⟨m + 1,by omega,by go_num,HBN.out _⟩
          case measure=>simp [nOf]; omega
        · have hmk':m=k:=by omega
          subst hmk'
          have HB2:=hid hb
          clear hb hm hmk
          go_wp2_with fail
          go_roundw
          case rel=>exact ⟨m + 1,by omega,by go_num,HB2.out⟩
          case measure=>simp [nOf]; omega
    · have hk' : k = ls.length:=by omega
      subst hk'
      clear hk hlt
      have HB:=hid hb
      clear hb
      obtain ⟨ib,hib,hbz0,hbz1,hbz2⟩:=info_parts info_rb
      obtain ⟨il,hil,hlz0,hlz1,hlz2⟩:=info_parts info_rl
      go_wp2_with fail
      go_loopw [14,15,16] (fun v u i wy=>∃ k:Nat,k≤ls.length∧i = .int .i64 k∧Hid (∀ j x,j < k→ls[j]?=some x→(mget pr x.i).isSome=true)∧wy.ownsRow w.heap.size 208 2 v k ((prL pr (ls.take k)).flatMap en2)∧wy.ownsRow w.heap.size 205 2 u k ((ls.take k).flatMap enL)∧Below w.heap.size w wy) (fun _ _ i _=>ls.length - nOf i)
      case atStart=>exact ⟨0,Nat.zero_le _,rfl,hid (fun j x hj=>by omega),World.ownsRow_nil _ _ _ _,World.ownsRow_nil _ _ _ _,HB.out⟩
      case round =>
        clear HB
        obtain ⟨k,hk,rfl,hK,hO1,hO2,hb⟩:=hrel
        by_cases hlt:k < ls.length
        · obtain ⟨x,hx⟩:∃ x,ls[k]?=some x:=⟨ls[k],List.getElem?_eq_getElem hlt⟩
          have HX:=hid hx
          have F:=hid (rprice_any (H.out.next hb) x.i hl1)
          obtain ⟨b,off,rfl,hbs,hcc⟩:=(hR.below hb).at_ 2 enL_len (by omega) hx
          have HPR:=hid (prL_snoc (pr:=pr) hx)
          have HTS:=hid (show ls.take (k + 1)=ls.take k++[x] from by rw [List.take_add_one,hx]; rfl)
          obtain ⟨xi,xq⟩:=x
          have q0:wr.cell? ⟨b,off + k * 2,none⟩=some (.int .i64 xi):=hcc 0 _ rfl
          have q1:wr.cell? ⟨b,off + k * 2 + 1,none⟩=some (.int .i64 xq):=hcc 1 _ rfl
          have HB:=hid hb
          have hO1':=hid hO1
          have hO2':=hid hO2
          clear hcc hx hbs hO1 hO2
          rcases HR.out.price xi with ⟨m,py,hm,hy,hg,he⟩ | ⟨hg,_,he⟩
          · rw [he] at F
            have hI:=H.out.next hb
            obtain ⟨g,rfl,hbg,hpr⟩:=hI.elem1 hy
            have c0:=hI.cell0
            have lR:R < wr.heap.size:=hI.blk.lt
            have p1:wr.cell? ⟨g,m * 2 + 1,none⟩=some (.int .i64 py):=hpr.2 1 _ rfl
            have HG:=hid (show (mget pr xi).isSome=true from by rw [hg]; rfl)
            rw [hg] at HPR
            simp only [Option.getD_some] at HPR
            have hO3:=hid (hO1'.out.drew.alloc (.cells #[.int .i64 xq,.int .i64 py] 208))
            have hb3:=hid (hb.drew.alloc (by have:=hb.size; simpa using this) (.cells #[.int .i64 xq,.int .i64 py] 208))
            have hP3:=hid (hO2'.out.drew.alloc (.cells #[.int .i64 xq,.int .i64 py] 208))
            have hws:=hb.size
            clear hI hpr hg he hb hO1' hO2'
            go_wp2_with (first | (go_at_call 63; refine F.out.mono ?_; rintro e w5 ⟨rfl,rfl⟩))
            clear F
            go_region_law ((refine step_append_lies _ (by rfl) _ _ _ (by rfl) w.heap.size 208 ib _ 2 16 Tryz.underlying206 hib hbz0 hbz1 hbz2 rfl (by decide) _ _ _ (by rfl) hO3.out ⟨wr.heap.size,0,none⟩ 1 1 [.int .i64 xq,.int .i64 py] (by rfl) (by rfl) (World.news_of_block (heap_alloc_new _ _)) (by intro u hu; simp at hu; rcases hu with rfl | rfl <;> rfl) (by omega) (by unfold maxLen; omega) (by omega) (by simp; omega) _ rfl ?_; intro g7 cap7 w7 hO7 hg7 hat7 hlt7))
            all_goals
              have hg8:(wr.drew.alloc (.cells #[.int .i64 xq,.int .i64 py] 208)).grownBy w7 u14.ownBlock:=hg7
              have hb7:Below w.heap.size w w7:=hb3.out.grown hg8 (by simp; omega) (fun k hk=>(hO3.out.lt k hk).1)
              have hP7:=hP3.out.kept hg8 (by
                cases ho:u15.ownBlock with
                | none=>exact .inl rfl
                | some gg=>exact .inr (fun e=>own_other hP3.out hO3.out (by decide) (g:=gg) e.symm ho))
              have hO8:w7.ownsRow w.heap.size 208 2 (.slice (some ⟨g7,0,none⟩) (k + 1) cap7) (k + 1) ((prL pr (ls.take (k + 1))).flatMap en2):=by
                rw [HPR.out,List.flatMap_append]
                simpa [en2] using hO7
              have hHX:=HX.out
              have q2:w7.cell? ⟨b,off + k * 2,none⟩=some (.int .i64 xi):=by
                obtain ⟨b',off',e,_,hc⟩:=(hR.below hb7).at_ 2 enL_len (by omega) hHX
                simp only [Option.some.injEq,Addr.mk.injEq,and_true] at e
                obtain ⟨rfl,rfl⟩:=e
                exact hc 0 _ rfl
              have q3:w7.cell? ⟨b,off + k * 2 + 1,none⟩=some (.int .i64 xq):=by
                obtain ⟨b',off',e,_,hc⟩:=(hR.below hb7).at_ 2 enL_len (by omega) hHX
                simp only [Option.some.injEq,Addr.mk.injEq,and_true] at e
                obtain ⟨rfl,rfl⟩:=e
                exact hc 1 _ rfl
              have hP6:=hid hP7
              have hP9:=hid (hP7.alloc (.cells #[.int .i64 xi,.int .i64 xq] 205))
              have hO9:=hid (hO8.alloc (.cells #[.int .i64 xi,.int .i64 xq] 205))
              have hb9:=hid (hb7.alloc hb7.size (.cells #[.int .i64 xi,.int .i64 xq] 205))
              have hw7:=hb7.size
              clear hg7 hg8 hO7 hO8 hP7 hb7 hat7 hlt7 hO3 hb3 hP3 q0 q1 c0 lR p1 hHX hy hbg
              go_wp2_with (first
                | (at_builtin; refine wpList_push _ rfl _ _ 106 rfl w.heap.size 205 il _ 2 16 Tryz.underlying106 hil hlz0 hlz1 hlz2 rfl (by decide) _ _ _ (by rfl) hP6.out #[.int .i64 xi,.int .i64 xq] w7.heap.size (by simp) (by rfl) (by rfl) (by rfl) (by unfold maxLen; omega) (by omega) (by omega) ?_; intro v' w3 hO4 hg4))
              have hb4:=hb9.out.grown hg4 (by simp; omega) (fun k hk=>(hP9.out.lt k hk).1)
              have hO5:w3.ownsRow w.heap.size 205 2 v' (k + 1) ((ls.take (k + 1)).flatMap enL):=by
                rw [HTS.out,List.flatMap_append]
                simpa [enL] using hO4
              have hO6:=hO9.out.kept hg4 (by
                cases ho:(Value.slice (some ⟨g7,0,none⟩) (k + 1) cap7).ownBlock with
                | none=>exact .inl rfl
                | some gg=>exact .inr (fun e=>own_other hO9.out hP9.out (by decide) (g:=gg) e.symm ho))
              clear hO4 hg4 hP6 hP9 hO9 hb9
              go_roundw
              case rel=>exact ⟨k + 1,by omega,by go_num,hid (fun j z hj hz=>by
                by_cases e:j=k
                · subst e; rw [HX.out] at hz; injection hz with hz; subst hz; exact HG.out
                · exact hK.out j z (by omega) hz),hO6,hO5,hb4⟩
              case measure=>simp [nOf]; omega
          · rw [he] at F
            have HE:=hid (show errL pr os id c f ls=70 from errL_none HOK.out (by
              unfold knowB
              rw [List.all_eq_false]
              exact ⟨_,List.mem_of_getElem? HX.out,by simp [hg]⟩))
            clear he hg
            go_wp2_with (first | (go_at_call 63; refine F.out.mono ?_; rintro e w5 ⟨rfl,rfl⟩))
            go_ret
            exact addD_err HE.out (by omega) HB.out
        · have hk' : k=ls.length:=by omega
          subst hk'
          rw [List.take_length] at hO1 hO2
          have HKN:=hid (show knowB pr ls=true from by
            unfold knowB
            rw [List.all_eq_true]
            intro x hx
            obtain ⟨j,hj⟩:=List.mem_iff_getElem?.1 hx
            exact hK.out j x (List.getElem?_eq_some_iff.1 hj).1 hj)
          have F:=hid (rfindO_any (H.out.next hb) id (by omega))
          have hO1':wr.ownsRow w.heap.size 208 2 u14 (prL pr ls).length ((prL pr ls).flatMap en2):=by rw [prL_len]; exact hO1
          obtain ⟨gv,cv,rfl,_,_⟩:=own_form hO1' (by rw [prL_len]; omega)
          obtain ⟨gl,cl,rfl,hgl,_⟩:=own_form hO2 (by omega)
          have T:=hid (rtotal_any (prL pr ls) _ cv wr (own_rd hO1'))
          obtain ⟨nn,hnn⟩:∃ nn,nn=netT (prL pr ls):=⟨_,rfl⟩
          obtain ⟨tt,htt⟩:∃ tt,tt=taxT (prL pr ls):=⟨_,rfl⟩
          rw [← hnn, ← htt] at T
          have HNN:=hid hnn
          have HTT:=hid htt
          have HL:=hid (show LnsAt base wr (⟨id,c,f,gl,cl,ls,nn,tt⟩:Od) from ⟨own_rd hO2,Nat.le_trans hbw hgl,rowBlk hO2 rfl⟩)
          have HBR:=hid hb
          have lRw:R < wr.heap.size:=(H.out.next hb).blk.lt
          have hRb:=H.out.lt
          have hws:=hb.size
          clear hO1 hO2 hO1' hnn htt hK hb ib hib hbz0 hbz1 hbz2 il hil hlz0 hlz1 hlz2 hk hlt
          rcases HR.out.find id with ⟨m,o1,o2,hm,hy,hi,hg,_,he⟩ | ⟨hg,hn,he⟩
          · rw [he] at F
            have HE:=hid (errL_there HOK.out HKN.out (by rw [hg]; rfl))
            clear he hg hm hy hi T HL HNN HTT
            go_wp2_with (first | (go_at_call 66; refine F.out.mono ?_; rintro e w5 ⟨rfl,rfl⟩))
            go_ret
            exact addD_err HE.out (by omega) HBR.out
          · rw [he] at F
            have HE:=hid (errL_ok HOK.out HKN.out (by rw [hg]; rfl))
            have HN:=hid (show (⟨id,c,f,gl,cl,ls,nn,tt⟩:Od).i ∉ rs.map Od.i from fun hin=>by
              obtain ⟨y,hy,e⟩:=List.mem_map.1 hin
              exact hn y hy e)
            have HS:=hid HR.out.sortO
            obtain ⟨i0,hi,hz0,hz1,hz2⟩:=info_parts info_ro
            clear he hg hn
            go_wp2_with (first
              | (go_at_call 66; refine F.out.mono ?_; rintro e w5 ⟨rfl,rfl⟩)
              | (go_at_call 67; refine T.out.mono ?_; rintro e w5 ⟨rfl,hb5⟩
                 have H5:=hid (H.out.next (bthen HBR.out hb5))
                 have hb6:=hid (bthen HBR.out hb5)
                 have c5:w5.cell? ⟨R,1,none⟩=some (.slice A2 rs.length c2):=H5.out.cell1
                 have lR5:R < w5.heap.size:=H5.out.blk.lt
                 have hw5:base≤w5.heap.size:=Nat.le_trans hbw hb6.out.size
                 have HO:=hid H5.out.own2
                 have HB:=hid (H5.out.blk.alloc (.cells #[.int .i64 id,.int .i64 c,.string f,.slice (some ⟨gl,0,none⟩) ls.length cl,.int .i64 nn,.int .i64 tt] 168))
                 have HT:=hid ((Touch.refl (RT w5.heap.size R A2) w5).alloc (.cells #[.int .i64 id,.int .i64 c,.string f,.slice (some ⟨gl,0,none⟩) ls.length cl,.int .i64 nn,.int .i64 tt] 168))
                 have HL5:=hid (HL.out.touch (S:=fun _=>False) (.of_below hb5) (fun h=>h))
                 clear hb5)
              | (at_builtin; refine wpList_push_at _ rfl _ _ 91 rfl base 168 i0 _ 6 72 Tryz.underlying91 hi hz0 hz1 hz2 rfl (by decide) _ _ _ (by rfl) HO.out #[.int .i64 id,.int .i64 c,.string f,.slice (some ⟨gl,0,none⟩) ls.length cl,.int .i64 nn,.int .i64 tt] w5.heap.size (by simp) (by rfl) (by rfl) (by rfl) (by unfold maxLen; omega) (by omega) (by omega) ?_; intro v' w3 hO3 hg3 hat3
                 have hB3:=HB.out.grown hg3 (fun e=>by have:=(HO.out.lt R e.symm).1; omega)
                 have hT3:=HT.out.then (touch_row hg3 (fun k hk => .inr (.inl (by cases A2 with | none=>simp [Value.ownBlock] at hk | some a=>simpa [Value.ownBlock] using hk))))
                 have c3:w3.cell? ⟨R,1,none⟩=some (.slice A2 rs.length c2):=hB3.cell 1
                 have f3:=hB3.free 1
                 obtain ⟨g,cap',rfl,hgR,hbg,hrt,hI0,hT4,hB4⟩:=ins_start (j:=1) (enc:=enO6) (x:=(⟨id,c,f,gl,cl,ls,nn,tt⟩:Od)) w5.heap.size hB3 hO3 hT3 hRb (fun g hg=>hat3.elim (fun e => .inr (.inl (by rw [e] at hg; cases A2 with | none=>simp [Value.ownBlock] at hg | some a=>simpa [Value.ownBlock] using hg))) (fun e => .inr (.inr (by rw [e] at hg; injection hg with hg; omega))))
                 replace hI0:=hid hI0
                 replace hT4:=hid hT4
                 replace hB4:=hid hB4
                 clear hO3 hg3 hat3 hB3 hT3))
            clear HO HB HT c3 c5 f3 hi hz0 hz1 hz2 T F
            obtain ⟨w4,hw4⟩:∃ w4,w4=w3.setCell ⟨R,1,none⟩ (.slice (some ⟨g,0,none⟩) (rs.length + 1) cap'):=⟨_,rfl⟩
            have hI:=hI0.out
            replace hT4:=hT4.out
            replace hB4:=hB4.out
            rw [← hw4] at hI hT4 hB4 ⊢
            have hBB:Blk w4 R 93 #[.slice A1 is.length c1,.slice (some ⟨g,0,none⟩) (rs.length + 1) cap']:=by simpa using hB4
            have HT4:=hid hT4
            have HBB:=hid hBB
            have HL4:=hid (HL5.out.touch hT4 (by
              obtain ⟨_,_,cs,hb⟩:=HL5.out
              exact rt_not H5.out.blk H5.out.own2 hb (by decide) (by decide)))
            have HOG:=hid (show (⟨id,c,f,gl,cl,ls,nn,tt⟩:Od).b ≠ g from by
              obtain ⟨_,_,cs,hb⟩:=HL4.out
              obtain ⟨cs2,hb2⟩:=rowBlk hI.own rfl
              exact hb.ne_ hb2 (by decide))
            have c4:w4.cell? ⟨R,1,none⟩=some (.slice (some ⟨g,0,none⟩) (rs.length + 1) cap'):=hBB.cell 1
            have lR4:R < w4.heap.size:=hBB.lt
            replace hI:=hid hI
            clear hw4 hI0 hT4 hB4 hBB HL HL5
            go_wp2_with fail
            replace hI:=hI.out
            clear c4 lR4
            go_loopw [22] (fun i wr=>∃ k:Nat,k≤rs.length∧i = .int .i64 k∧Hid (Behind Od.i ltI rs (⟨id,c,f,gl,cl,ls,nn,tt⟩:Od) k)∧InsRow enO6 6 168 base g cap' w4 (midK rs (⟨id,c,f,gl,cl,ls,nn,tt⟩:Od) k) wr) (fun i _=>nOf i)
            case atStart=>exact ⟨rs.length,Nat.le_refl _,by go_num,hid behind_end,hI⟩
            case round =>
              clear hI
              obtain ⟨k,hk,rfl,hP,hI⟩:=hrel
              have hln:=midK_len (z:=(⟨id,c,f,gl,cl,ls,nn,tt⟩:Od)) hk
              obtain ⟨n1,hn1⟩:∃ n1,n1=rs.length + 1:=⟨_,rfl⟩
              have c0:wr.cell? ⟨R,1,none⟩=some (.slice (some ⟨g,0,none⟩) n1 cap'):=by rw [hn1]; exact (hI.touch.blk HBB.out (fun e=>hgR e.symm)).cell 1
              have lR:R < wr.heap.size:=(hI.touch.blk HBB.out (fun e=>hgR e.symm)).lt
              have hkn:k < n1:=by omega
              have hn2:n1≤140737488355328:=by omega
              have e2:=hI.elem enO6_len (midK_here hk)
              have lg:g < wr.heap.size:=e2.1
              have q0:wr.cell? ⟨g,k * 6,none⟩=some (.int .i64 id):=e2.2 0 _ rfl
              have q1:wr.cell? ⟨g,k * 6 + 1,none⟩=some (.int .i64 c):=e2.2 1 _ rfl
              have q2:wr.cell? ⟨g,k * 6 + 2,none⟩=some (.string f):=e2.2 2 _ rfl
              have q3:wr.cell? ⟨g,k * 6 + 3,none⟩=some (.slice (some ⟨gl,0,none⟩) ls.length cl):=e2.2 3 _ rfl
              have q4:wr.cell? ⟨g,k * 6 + 4,none⟩=some (.int .i64 nn):=e2.2 4 _ rfl
              have q5:wr.cell? ⟨g,k * 6 + 5,none⟩=some (.int .i64 tt):=e2.2 5 _ rfl
              have HEX:Hid (∀ w',(∀ y,0 < k→rs[k - 1]?=some y→ltI (Od.i (⟨id,c,f,gl,cl,ls,nn,tt⟩:Od)) (Od.i y)=false)→Below wr.heap.size wr w'→AddD base R A1 A2 c1 is rs pr os id c f ls w (.returned (.int .i64 0)) w'):=hid (fun w' hf hb=>by
                have hI':=hI.next hb
                rw [midK_done linI HS.out HN.out hk hP.out hf] at hI'
                obtain ⟨a1,a2⟩:=H5.out.ins2 hI' (by rw [insK_length]; exact HBB.out) HT4.out hrt hgR HL4.out HOG.out
                exact .inr ⟨HE.out,_,_,_,rfl,a1,⟨rfl,rfl,rfl,rfl,HNN.out,HTT.out,hgl⟩,(Touch.of_below hb6.out).then (a2.mono (fun k hk=>rt_up hb6.out.size hk))⟩)
              by_cases hk0:0 < k
              · obtain ⟨y,hy⟩:∃ y,rs[k - 1]?=some y:=⟨rs[k - 1],List.getElem?_eq_getElem (by omega)⟩
                have e1:=hI.elem enO6_len (k:=k - 1) (y:=y) (by rw [midK_at hk0 hk]; exact hy)
                have hkw:IntKind.i64.wrap ((k:Int) - 1)=((k - 1:Nat):Int):=by rw [IntWalk.i64_in _ ⟨by omega,by omega⟩]; omega
                have hkl:k - 1 < n1:=by omega
                have HY:=hid hy
                obtain ⟨yi,yc,yf,yb,ycp,yls,yn,yt⟩:=y
                have p0:wr.cell? ⟨g,(k - 1) * 6,none⟩=some (.int .i64 yi):=e1.2 0 _ rfl
                have p1:wr.cell? ⟨g,(k - 1) * 6 + 1,none⟩=some (.int .i64 yc):=e1.2 1 _ rfl
                have p2:wr.cell? ⟨g,(k - 1) * 6 + 2,none⟩=some (.string yf):=e1.2 2 _ rfl
                have p3:wr.cell? ⟨g,(k - 1) * 6 + 3,none⟩=some (.slice (some ⟨yb,0,none⟩) yls.length ycp):=e1.2 3 _ rfl
                have p4:wr.cell? ⟨g,(k - 1) * 6 + 4,none⟩=some (.int .i64 yn):=e1.2 4 _ rfl
                have p5:wr.cell? ⟨g,(k - 1) * 6 + 5,none⟩=some (.int .i64 yt):=e1.2 5 _ rfl
                clear e1 e2 hy
                by_cases hlt:id < yi
                · have HP2:=hid (behind_step hP.out hk0 HY.out (by simp [ltI,hlt]))
                  have HS2:=hid (midK_step (z:=(⟨id,c,f,gl,cl,ls,nn,tt⟩:Od)) hk0 hk HY.out)
                  have HLN:=hid hln
                  have HI:=hid hI
                  have HN1:=hid hn1
                  clear hI hln hn1
                  go_wp2_with fail
                  go_quiet (fail)
                  obtain ⟨wd,hwd,hIDs,d0,dR,dG,r0,r1,r2,r3,r4,r5,s0,s1,s2,s3,s4,s5⟩:∃ wd,wd=wr.drewN nq∧Hid (InsRow enO6 6 168 base g cap' w4 (midK rs (⟨id,c,f,gl,cl,ls,nn,tt⟩:Od) k) wd)∧wd.cell? ⟨R,1,none⟩=some (.slice (some ⟨g,0,none⟩) n1 cap')∧R < wd.heap.size∧g < wd.heap.size∧wd.cell? ⟨g,k * 6,none⟩=some (.int .i64 id)∧wd.cell? ⟨g,k * 6 + 1,none⟩=some (.int .i64 c)∧wd.cell? ⟨g,k * 6 + 2,none⟩=some (.string f)∧wd.cell? ⟨g,k * 6 + 3,none⟩=some (.slice (some ⟨gl,0,none⟩) ls.length cl)∧wd.cell? ⟨g,k * 6 + 4,none⟩=some (.int .i64 nn)∧wd.cell? ⟨g,k * 6 + 5,none⟩=some (.int .i64 tt)∧wd.cell? ⟨g,(k - 1) * 6,none⟩=some (.int .i64 yi)∧wd.cell? ⟨g,(k - 1) * 6 + 1,none⟩=some (.int .i64 yc)∧wd.cell? ⟨g,(k - 1) * 6 + 2,none⟩=some (.string yf)∧wd.cell? ⟨g,(k - 1) * 6 + 3,none⟩=some (.slice (some ⟨yb,0,none⟩) yls.length ycp)∧wd.cell? ⟨g,(k - 1) * 6 + 4,none⟩=some (.int .i64 yn)∧wd.cell? ⟨g,(k - 1) * 6 + 5,none⟩=some (.int .i64 yt):=⟨_,rfl,hid (HI.out.next (below_drewN (Below.refl _ _) nq)),c0,lR,lg,q0,q1,q2,q3,q4,q5,p0,p1,p2,p3,p4,p5⟩
                  rw [← hwd]
                  clear hwd HI c0 lR lg q0 q1 q2 q3 q4 q5 p0 p1 p2 p3 p4 p5 HEX
                  have hbx:Below wd.heap.size wd (wd.alloc (.cells #[.int .i64 id,.int .i64 c,.string f,.slice (some ⟨gl,0,none⟩) ls.length cl,.int .i64 nn,.int .i64 tt] 168)):=(Below.refl _ _).alloc (Nat.le_refl _) _
                  have hGx:=Blk.new wd 168 #[.int .i64 id,.int .i64 c,.string f,.slice (some ⟨gl,0,none⟩) ls.length cl,.int .i64 nn,.int .i64 tt]
                  replace hbx:=hid hbx
                  replace hGx:=hid hGx
                  go_wp2_with fail
                  obtain ⟨wx,hwx⟩:∃ wx,wx=wd.alloc (.cells #[.int .i64 id,.int .i64 c,.string f,.slice (some ⟨gl,0,none⟩) ls.length cl,.int .i64 nn,.int .i64 tt] 168):=⟨_,rfl⟩
                  rw [← hwx] at hbx hGx ⊢
                  obtain ⟨G,hG⟩:∃ G,G=wd.heap.size:=⟨_,rfl⟩
                  have hgG:g ≠ G:=by omega
                  have hRG:R ≠ G:=by omega
                  rw [← hG] at hGx ⊢
                  have hIx:=hIDs.out.next hbx.out
                  have c0:wx.cell? ⟨R,1,none⟩=some (.slice (some ⟨g,0,none⟩) n1 cap'):=(hbx.out.cell (p:=⟨R,1,none⟩) dR).trans d0
                  have lR:R < wx.heap.size:=Nat.lt_of_lt_of_le dR hbx.out.size
                  have lg:g < wx.heap.size:=Nat.lt_of_lt_of_le dG hbx.out.size
                  have q0:wx.cell? ⟨g,k * 6,none⟩=some (.int .i64 id):=(hbx.out.cell (p:=⟨g,k * 6,none⟩) dG).trans r0
                  have q1:wx.cell? ⟨g,k * 6 + 1,none⟩=some (.int .i64 c):=(hbx.out.cell (p:=⟨g,k * 6 + 1,none⟩) dG).trans r1
                  have q2:wx.cell? ⟨g,k * 6 + 2,none⟩=some (.string f):=(hbx.out.cell (p:=⟨g,k * 6 + 2,none⟩) dG).trans r2
                  have q3:wx.cell? ⟨g,k * 6 + 3,none⟩=some (.slice (some ⟨gl,0,none⟩) ls.length cl):=(hbx.out.cell (p:=⟨g,k * 6 + 3,none⟩) dG).trans r3
                  have q4:wx.cell? ⟨g,k * 6 + 4,none⟩=some (.int .i64 nn):=(hbx.out.cell (p:=⟨g,k * 6 + 4,none⟩) dG).trans r4
                  have q5:wx.cell? ⟨g,k * 6 + 5,none⟩=some (.int .i64 tt):=(hbx.out.cell (p:=⟨g,k * 6 + 5,none⟩) dG).trans r5
                  have p0:wx.cell? ⟨g,(k - 1) * 6,none⟩=some (.int .i64 yi):=(hbx.out.cell (p:=⟨g,(k - 1) * 6,none⟩) dG).trans s0
                  have p1:wx.cell? ⟨g,(k - 1) * 6 + 1,none⟩=some (.int .i64 yc):=(hbx.out.cell (p:=⟨g,(k - 1) * 6 + 1,none⟩) dG).trans s1
                  have p2:wx.cell? ⟨g,(k - 1) * 6 + 2,none⟩=some (.string yf):=(hbx.out.cell (p:=⟨g,(k - 1) * 6 + 2,none⟩) dG).trans s2
                  have p3:wx.cell? ⟨g,(k - 1) * 6 + 3,none⟩=some (.slice (some ⟨yb,0,none⟩) yls.length ycp):=(hbx.out.cell (p:=⟨g,(k - 1) * 6 + 3,none⟩) dG).trans s3
                  have p4:wx.cell? ⟨g,(k - 1) * 6 + 4,none⟩=some (.int .i64 yn):=(hbx.out.cell (p:=⟨g,(k - 1) * 6 + 4,none⟩) dG).trans s4
                  have p5:wx.cell? ⟨g,(k - 1) * 6 + 5,none⟩=some (.int .i64 yt):=(hbx.out.cell (p:=⟨g,(k - 1) * 6 + 5,none⟩) dG).trans s5
                  have f0:=hIx.free (k * 6)
                  have f1:=hIx.free (k * 6 + 1)
                  have f2:=hIx.free (k * 6 + 2)
                  have f3:=hIx.free (k * 6 + 3)
                  have f4:=hIx.free (k * 6 + 4)
                  have f5:=hIx.free (k * 6 + 5)
                  have hJ:=(hIx.put enO6_len (k:=k) (by have:=HLN.out; omega) (⟨yi,yc,yf,yb,ycp,yls,yn,yt⟩:Od)).drew
                  have hGJ:=hid (((Touch.of_grown (own_storeMany hIx.own (k * 6) (enO6 (⟨yi,yc,yf,yb,ycp,yls,yn,yt⟩:Od))).2).blk hGx.out (fun e=>hgG e.symm)).next (below_drewN (Below.refl _ _) 1))
                  have hJ2:=hid (show InsRow enO6 6 168 base g cap' w4 ((midK rs (⟨id,c,f,gl,cl,ls,nn,tt⟩:Od) k).set k (⟨yi,yc,yf,yb,ycp,yls,yn,yt⟩:Od)) _ from hJ)
                  clear hwx hG hIDs hIx hJ d0 dR dG r0 r1 r2 r3 r4 r5 s0 s1 s2 s3 s4 s5
                  refine wp_tail 14 (by kernel_rfl) (by kernel_rfl) ?_
                  simp only [List.take_succ_cons,List.take_zero,List.drop_succ_cons,List.drop_zero]
                  repeat still_step
                  refine wpStill_nil ?_
                  go_wp2_with fail
                  obtain ⟨wy,hwy⟩:∃ wy,wy=((((((wx.setCell ⟨g,k * 6,none⟩ (.int .i64 yi)).setCell ⟨g,k * 6 + 1,none⟩ (.int .i64 yc)).setCell ⟨g,k * 6 + 2,none⟩ (.string yf)).setCell ⟨g,k * 6 + 3,none⟩ (.slice (some ⟨yb,0,none⟩) yls.length ycp)).setCell ⟨g,k * 6 + 4,none⟩ (.int .i64 yn)).setCell ⟨g,k * 6 + 5,none⟩ (.int .i64 yt)).drew:=⟨_,rfl⟩
                  have hJy:InsRow enO6 6 168 base g cap' w4 ((midK rs (⟨id,c,f,gl,cl,ls,nn,tt⟩:Od) k).set k (⟨yi,yc,yf,yb,ycp,yls,yn,yt⟩:Od)) wy:=by rw [hwy]; exact hJ2.out
                  have hGy:Blk wy G 168 #[.int .i64 id,.int .i64 c,.string f,.slice (some ⟨gl,0,none⟩) ls.length cl,.int .i64 nn,.int .i64 tt]:=by rw [hwy]; exact hGJ.out
                  rw [← hwy]
                  clear hwy hJ2 hGJ c0 lR lg q0 q1 q2 q3 q4 q5 p0 p1 p2 p3 p4 p5 f0 f1 f2 f3 f4 f5 hbx hGx
                  have c0:wy.cell? ⟨R,1,none⟩=some (.slice (some ⟨g,0,none⟩) n1 cap'):=by rw [HN1.out]; exact (hJy.touch.blk HBB.out (fun e=>hgR e.symm)).cell 1
                  have lR:R < wy.heap.size:=(hJy.touch.blk HBB.out (fun e=>hgR e.symm)).lt
                  have e1:=hJy.elem enO6_len (k:=k - 1) (y:=(⟨yi,yc,yf,yb,ycp,yls,yn,yt⟩:Od)) (by rw [List.getElem?_set_ne (by omega),midK_at hk0 hk]; exact HY.out)
                  have lg:g < wy.heap.size:=e1.1
                  have p0:wy.cell? ⟨g,(k - 1) * 6,none⟩=some (.int .i64 yi):=e1.2 0 _ rfl
                  have p1:wy.cell? ⟨g,(k - 1) * 6 + 1,none⟩=some (.int .i64 yc):=e1.2 1 _ rfl
                  have p2:wy.cell? ⟨g,(k - 1) * 6 + 2,none⟩=some (.string yf):=e1.2 2 _ rfl
                  have p3:wy.cell? ⟨g,(k - 1) * 6 + 3,none⟩=some (.slice (some ⟨yb,0,none⟩) yls.length ycp):=e1.2 3 _ rfl
                  have p4:wy.cell? ⟨g,(k - 1) * 6 + 4,none⟩=some (.int .i64 yn):=e1.2 4 _ rfl
                  have p5:wy.cell? ⟨g,(k - 1) * 6 + 5,none⟩=some (.int .i64 yt):=e1.2 5 _ rfl
                  have g0:wy.cell? ⟨G,0,none⟩=some (.int .i64 id):=hGy.cell 0
                  have g1:wy.cell? ⟨G,1,none⟩=some (.int .i64 c):=hGy.cell 1
                  have g2:wy.cell? ⟨G,2,none⟩=some (.string f):=hGy.cell 2
                  have g3:wy.cell? ⟨G,3,none⟩=some (.slice (some ⟨gl,0,none⟩) ls.length cl):=hGy.cell 3
                  have g4:wy.cell? ⟨G,4,none⟩=some (.int .i64 nn):=hGy.cell 4
                  have g5:wy.cell? ⟨G,5,none⟩=some (.int .i64 tt):=hGy.cell 5
                  have f0:=hJy.free ((k - 1) * 6)
                  have f1:=hJy.free ((k - 1) * 6 + 1)
                  have f2:=hJy.free ((k - 1) * 6 + 2)
                  have f3:=hJy.free ((k - 1) * 6 + 3)
                  have f4:=hJy.free ((k - 1) * 6 + 4)
                  have f5:=hJy.free ((k - 1) * 6 + 5)
                  have hJz:=(hJy.put enO6_len (k:=k - 1) (by rw [List.length_set]; have:=HLN.out; omega) (⟨id,c,f,gl,cl,ls,nn,tt⟩:Od)).drew
                  rw [HS2.out] at hJz
                  replace hJz:=hid hJz
                  clear e1 hJy hGy
                  refine wp_tail 8 (by kernel_rfl) (by kernel_rfl) ?_
                  simp only [List.take_succ_cons,List.take_zero,List.drop_succ_cons,List.drop_zero]
                  repeat still_step
                  refine wpStill_nil ?_
                  clear hkw
                  go_wp2_with fail
                  go_roundw
                  case rel=>exact ⟨k - 1,by omega,by congr 1; omega,HP2,hJz.out⟩
                  case measure=>simp [nOf]; omega
                · have hd:decide (id < yi)=false:=decide_eq_false hlt
                  have HX2:=hid (fun n=>HEX.out (wr.drewN n) (fun y hy0 hy1=>by rw [HY.out] at hy1; injection hy1 with hy1; subst hy1; simp [ltI,hlt]) (below_drewN (Below.refl _ _) n))
                  clear hlt hI hln hn1 HEX
                  go_wp2_with fail
                  go_quiet (fail)
                  go_wp2_with fail
                  go_ret
                  exact HX2.out _
              · have hd:decide (0 < k)=false:=decide_eq_false hk0
                have HX2:=hid (fun n=>HEX.out (wr.drewN n) (fun y hy0 hy1=>absurd hy0 hk0) (below_drewN (Below.refl _ _) n))
                clear HEX hI hln hn1 e2
                go_wp2_with fail
                go_quiet (fail)
                go_wp2_with fail
                go_ret
                exact HX2.out _
end
end Go.Proofs.YtakaalldbnklcaaGreat.Or
