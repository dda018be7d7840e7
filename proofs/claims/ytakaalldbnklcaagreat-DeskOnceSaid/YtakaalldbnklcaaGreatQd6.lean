/-
  The credit book: what its functions do, told by two lists.
  The credit book, continued: New, money, Exposure, Customer.
  The credit book, continued: put, Hold.
  The credit book, continued: Release; the laws' wakes.
  Layer 14: wakes.
  The walk of CreditExact.
  The credit book in sums: an account's exposure is the sum of what is held for it. No program.
  The credit book beside the document's two lists. No program.
  maps.Values and maps.Keys over the book's maps: their iterators' contracts.
  slices.AppendSeq, slices.Collect at holds, against whatever iterator.
  The document's credit book: two lists; Find, HeldFor, Exposure.
-/
import Derived.Test.YtakaalldbnklcaaGreatQd1
import Derived.Test.YtakaalldbnklcaaGreatQd2
import Derived.RegionTactic
import Derived.Deep.RegionHeld3
import Derived.WalkLawsBesides
import Derived.Deep.DeepCutAuto
import Derived.Deep.CutRange
import Derived.Shelf.SlIterI.Sorted
namespace Go.Proofs.YtakaalldbnklcaaGreat.Cr
open Go.RowKit
set_option linter.unusedVariables false
theorem keyI:KeyLaw Tryz.prog 3 (fun n:Int=>Value.int .i64 n):=intKey Tryz.underlying3
structure Acc where
 g:Nat
 l:Int
 e:Int
structure Hd where
 o:Int
 c:Int
 a:Int
def vAcc (a:Acc):Value:=.pointer (some ⟨a.g,0,none⟩)
def enH (h:Hd):Value:=.agg #[.int .i64 h.o,.int .i64 h.c,.int .i64 h.a]
def kI (n:Int):Value:=.int .i64 n
theorem keyL:KeyLaw Tryz.prog 3 kI:=keyI
theorem zeroAcc (w:World):(zeroValue 178).run Tryz.prog w = .ok (.pointer none) w:=by kernel_rfl
theorem zeroHd (w:World):(zeroValue 51).run Tryz.prog w = .ok (enH ⟨0,0,0⟩) w:=by kernel_rfl
structure IsBook (n0:Nat) (w:World) (X BA BH:Nat) (ac:List (Int × Acc)) (hs:List (Int × Hd)):Prop where
 blk:Blk w X 119 #[.map (some BA),.map (some BH)]
 acs:IsMap w BA kI vAcc ac
 hds:IsMap w BH kI enH hs
 cells:∀ p ∈ ac,Blk w p.2.g 180 #[.int .i64 p.2.l,.int .i64 p.2.e]
 apart:(ac.map (·.2.g)).Nodup
 has:∀ p ∈ hs,∃ a,mget ac p.2.c=some a
 two:BA ≠ BH
 low:n0≤X∧n0≤BA∧n0≤BH∧∀ p ∈ ac,n0≤p.2.g
def Own (BA BH:Nat) (ac:List (Int × Acc)) (k:Nat):Prop:=k=BA∨k=BH∨∃ p ∈ ac,p.2.g=k
section
variable {n0:Nat} {w w':World} {X BA BH:Nat} {ac:List (Int × Acc)} {hs:List (Int × Hd)}
theorem IsBook.own_low (h:IsBook n0 w X BA BH ac hs) {k:Nat} (hk:Own BA BH ac k):n0≤k:=by
 rcases hk with rfl | rfl | ⟨p,hp,rfl⟩
 ·exact h.low.2.1
 ·exact h.low.2.2.1
 ·exact h.low.2.2.2 p hp
theorem IsBook.touch {S:Nat→Prop} (h:IsBook n0 w X BA BH ac hs) (ht:Touch S w w') (hX:¬ S X) (hS:∀ k,Own BA BH ac k→¬ S k):IsBook n0 w' X BA BH ac hs :=
 ⟨ht.blk h.blk hX,ht.isMap h.acs (hS _ (.inl rfl)),ht.isMap h.hds (hS _ (.inr (.inl rfl))),fun p hp=>ht.blk (h.cells p hp) (hS _ (.inr (.inr ⟨p,hp,rfl⟩))),h.apart,h.has,h.two,h.low⟩
theorem IsBook.next (h:IsBook n0 w X BA BH ac hs) (hb:Below w.heap.size w w'):IsBook n0 w' X BA BH ac hs:=h.touch (S:=fun _=>False) (.of_below hb) (fun h=>h) (fun _ _ h=>h)
theorem IsBook.alloc (h:IsBook n0 w X BA BH ac hs) (o:Obj):IsBook n0 (w.alloc o) X BA BH ac hs:=h.next ((Below.refl _ _).alloc (Nat.le_refl _) o)
theorem IsBook.drewN (h:IsBook n0 w X BA BH ac hs) (n:Nat):IsBook n0 (w.drewN n) X BA BH ac hs:=h.next (below_drewN (Below.refl _ _) n)
theorem IsBook.drew (h:IsBook n0 w X BA BH ac hs):IsBook n0 w.drew X BA BH ac hs:=h.next ((Below.refl _ _).drew)
theorem IsBook.cellA (h:IsBook n0 w X BA BH ac hs):w.cell? ⟨X,0,none⟩=some (.map (some BA)):=h.blk.cell 0
theorem IsBook.cellH (h:IsBook n0 w X BA BH ac hs):w.cell? ⟨X,1,none⟩=some (.map (some BH)):=h.blk.cell 1
theorem IsBook.at_ (h:IsBook n0 w X BA BH ac hs) {id:Int} {a:Acc} (ha:mget ac id=some a):Blk w a.g 180 #[.int .i64 a.l,.int .i64 a.e]:=h.cells (id,a) (mget_mem ha)
def ptrOf (ac:List (Int × Acc)) (id:Int):Option Addr:=(mget ac id).map fun a=>⟨a.g,0,none⟩
theorem IsBook.lookA (h:IsBook n0 w X BA BH ac hs) (id:Int):(Instr.lookup 117 (.map (some BA)) (.int .i64 id) false).run Tryz.prog w = .ok (.pointer (ptrOf ac id)) w:=by
 have:=h.acs.look keyL Tryz.underlying117 (zeroAcc _) id
 rw [show looked (.pointer none) vAcc ac id = .pointer (ptrOf ac id) from by unfold looked ptrOf; cases mget ac id <;> rfl] at this
 exact this
theorem IsBook.lookH (h:IsBook n0 w X BA BH ac hs) (o:Int):(Instr.lookup 116 (.map (some BH)) (.int .i64 o) true).run Tryz.prog w = .ok (.tuple #[enH ((mget hs o).getD ⟨0,0,0⟩),.bool (mget hs o).isSome]) w:=by
 have:=h.hds.lookOk keyL Tryz.underlying116 (zeroHd _) o
 rw [show looked (enH ⟨0,0,0⟩) enH hs o=enH ((mget hs o).getD ⟨0,0,0⟩) from by unfold looked; cases mget hs o <;> rfl] at this
 exact this
theorem gs_mset {a a':Acc} {id:Int} (ha:mget ac id=some a) (hd:(ac.map (·.1)).Nodup) (hg:a'.g=a.g):(mset ac id a').map (·.2.g)=ac.map (·.2.g):=by
 have:=mset_map_same (fun a:Acc=>a.g) ha hd hg
 have:=congrArg (List.map Prod.snd) this
 simpa [List.map_map,Function.comp_def] using this
theorem IsBook.put {a a':Acc} {id:Int} {i:Nat} {v:Value} (h:IsBook n0 w X BA BH ac hs) (ha:mget ac id=some a) (hg:a'.g=a.g)
  (hc:(#[.int .i64 a.l,.int .i64 a.e]:Array Value).setIfInBounds i v=#[.int .i64 a'.l,.int .i64 a'.e]) :
  IsBook n0 (w.setCell ⟨a.g,i,none⟩ v) X BA BH (mset ac id a') hs:=by
 have hd:=h.acs.nodup
 have hcell:=h.at_ ha
 have ht:=Touch.setCell w a.g i v
 have nX:X ≠ a.g:=by
  rintro rfl
  have h1:=h.blk
  unfold Blk at h1 hcell
  rw [h1] at hcell
  injection hcell with e
  injection e with e _
  simp at e
 refine ⟨ht.blk h.blk nX,ht.isMap (h.acs.same ?_) (fun e=>h.acs.notBlk hcell e),ht.isMap h.hds (fun e=>h.hds.notBlk hcell e), ?_, ?_, ?_,h.two, ?_⟩
 ·exact mset_map_same vAcc ha hd (by unfold vAcc; rw [hg])
 ·intro p hp
  rcases mem_mset hp with rfl | ⟨hp',hne⟩
  ·have:=hcell.set_ i v
   rw [hc] at this
   simpa [hg] using this
  ·have hgp:p.2.g ≠ a.g:=by
    intro e
    have h1:=mget_of_mem hd hp'
    have hm:(p.1,p.2) ∈ ac:=hp'
    have hm2:=mget_mem ha
    obtain ⟨i1,hi1⟩:=List.mem_iff_getElem?.1 hp'
    obtain ⟨i2,hi2⟩:=List.mem_iff_getElem?.1 hm2
    have e1:(ac.map (·.2.g))[i1]?=some a.g:=by rw [List.getElem?_map,hi1]; simp [e]
    have e2:(ac.map (·.2.g))[i2]?=some a.g:=by rw [List.getElem?_map,hi2]; rfl
    have hl:i1 < (ac.map (·.2.g)).length:=(List.getElem?_eq_some_iff.1 e1).1
    have:=(List.getElem?_inj hl h.apart).1 (e1.trans e2.symm)
    subst this
    rw [hi1] at hi2
    injection hi2 with hi2
    exact hne (by rw [hi2])
   exact ht.blk (h.cells p hp') hgp
 ·rw [gs_mset ha hd hg]; exact h.apart
 ·intro p hp
  obtain ⟨b,hb⟩:=h.has p hp
  rw [mget_mset]
  split
  ·exact ⟨a',rfl⟩
  ·exact ⟨b,hb⟩
 ·refine ⟨h.low.1,h.low.2.1,h.low.2.2.1,fun p hp => ?_⟩
  rcases mem_mset hp with rfl | ⟨hp',_⟩
  ·show n0≤a'.g
   rw [hg]; exact h.low.2.2.2 _ (mget_mem ha)
  ·exact h.low.2.2.2 p hp'
theorem IsBook.add {a:Acc} {id:Int} (h:IsBook n0 w X BA BH ac hs) (hm:mget ac id=none) (hg:Blk w a.g 180 #[.int .i64 a.l,.int .i64 a.e]) (hf:∀ p ∈ ac,p.2.g ≠ a.g) (hn:n0≤a.g)
  (hM:IsMap w' BA kI vAcc (mset ac id a)) (hgr:w.grownBy w' (some BA)):IsBook n0 w' X BA BH (mset ac id a) hs:=by
 have ht:=Touch.of_grown hgr
 have nB:∀ {g:Nat} {t:TypeId} {cs:Array Value},Blk w g t cs→¬ g=BA:=fun hb e=>h.acs.notBlk hb e.symm
 refine ⟨ht.blk h.blk (nB h.blk),hM,ht.isMap h.hds (fun e=>h.two e.symm), ?_, ?_, ?_,h.two, ?_⟩
 ·intro p hp
  rcases mem_mset hp with rfl | ⟨hp',_⟩
  ·exact ht.blk hg (nB hg)
  ·exact ht.blk (h.cells p hp') (nB (h.cells p hp'))
 ·rw [mset_new hm,List.map_append]
  refine List.nodup_append.2 ⟨h.apart,by simp,fun x hx y hy e => ?_⟩
  obtain ⟨p,hp,rfl⟩:=List.mem_map.1 hx
  simp at hy
  exact hf p hp (e.trans hy)
 ·intro p hp
  obtain ⟨b,hb⟩:=h.has p hp
  rw [mget_mset]
  split
  ·exact ⟨a,rfl⟩
  ·exact ⟨b,hb⟩
 ·refine ⟨h.low.1,h.low.2.1,h.low.2.2.1,fun p hp => ?_⟩
  rcases mem_mset hp with rfl | ⟨hp',_⟩
  ·exact hn
  ·exact h.low.2.2.2 p hp'
theorem IsBook.hold {d:Hd} {o:Int} (h:IsBook n0 w X BA BH ac hs) (hc:∃ a,mget ac d.c=some a) (hM:IsMap w' BH kI enH (mset hs o d)) (hgr:w.grownBy w' (some BH)):IsBook n0 w' X BA BH ac (mset hs o d):=by
 have ht:=Touch.of_grown hgr
 have nB:∀ {g:Nat} {t:TypeId} {cs:Array Value},Blk w g t cs→¬ g=BH:=fun hb e=>h.hds.notBlk hb e.symm
 refine ⟨ht.blk h.blk (nB h.blk),ht.isMap h.acs h.two,hM,fun p hp=>ht.blk (h.cells p hp) (nB (h.cells p hp)),h.apart, ?_,h.two,h.low⟩
 intro p hp
 rcases mem_mset hp with rfl | ⟨hp',_⟩
 ·exact hc
 ·exact h.has p hp'
theorem IsBook.free {o:Int} (h:IsBook n0 w X BA BH ac hs) (hM:IsMap w' BH kI enH (mdel hs o)) (hgr:w.grownBy w' (some BH)):IsBook n0 w' X BA BH ac (mdel hs o):=by
 have ht:=Touch.of_grown hgr
 have nB:∀ {g:Nat} {t:TypeId} {cs:Array Value},Blk w g t cs→¬ g=BH:=fun hb e=>h.hds.notBlk hb e.symm
 exact ⟨ht.blk h.blk (nB h.blk),ht.isMap h.acs h.two,hM,fun p hp=>ht.blk (h.cells p hp) (nB (h.cells p hp)),h.apart,fun p hp=>h.has p (mem_mdel hp).1,h.two,h.low⟩
end
end Go.Proofs.YtakaalldbnklcaaGreat.Cr
namespace Go.Proofs.YtakaalldbnklcaaGreat.Cr
open Go.RowKit
set_option linter.unusedVariables false
theorem new_any (w:World):Calls Tryz.prog 20 #[] w fun e w' =>
  ∃ X BA BH,e = .returned (.pointer (some ⟨X,0,none⟩))∧IsBook w.heap.size w' X BA BH [] []∧Below w.heap.size w w'∧BA < w'.heap.size∧BH < w'.heap.size∧X < w'.heap.size:=by
 have hmm:=@run_makeMap Tryz.prog
 have hM1:=((IsMap.made w kI vAcc).alloc (.map #[] 0)).alloc (.cells #[.map (some w.heap.size),.map (some (w.heap.size + 1))] 119)
 have hM2:=(IsMap.made (w.alloc (.map #[] 0)) kI enH).alloc (.cells #[.map (some w.heap.size),.map (some (w.heap.size + 1))] 119)
 have hb:=Blk.new ((w.alloc (.map #[] 0)).alloc (.map #[] 0)) 119 #[.map (some w.heap.size),.map (some (w.heap.size + 1))]
 rw [World.size_alloc] at hM2
 rw [World.size_alloc,World.size_alloc] at hb
 have H:=hid (show IsBook w.heap.size (((w.alloc (.map #[] 0)).alloc (.map #[] 0)).alloc (.cells #[.map (some w.heap.size),.map (some (w.heap.size + 1))] 119)) (w.heap.size + 1 + 1) w.heap.size (w.heap.size + 1) [] [] from
  ⟨hb,hM1,hM2,(fun p hp=>by cases hp),by simp,(fun p hp=>by cases hp),by omega,by omega,by omega,by omega,(fun p hp=>by cases hp)⟩)
 clear hb hM1 hM2
 go_enter Tryz.func20,Tryz.ntmps20
 go_wp2_with fail
 go_ret
 exact ⟨w.heap.size + 1 + 1,w.heap.size,w.heap.size + 1,by simp,H.out,(((Below.refl _ _).alloc (Nat.le_refl _) _).alloc (by simp) _).alloc (by simp; omega) _,by simp; omega,by simp,by simp⟩
theorem money_yes (n:Int) (w:World) (h1:0≤n) (h2:n≤1125899906842624):Calls Tryz.prog 57 #[.int .i64 n] w fun e w'=>e = .returned (.bool true)∧w=w':=by
 go_enter Tryz.func57,Tryz.ntmps57
 go_wp2_with fail
 go_ret
 exact ⟨rfl,rfl⟩
theorem money_no (n:Int) (w:World) (h:n < 0∨1125899906842624 < n):Calls Tryz.prog 57 #[.int .i64 n] w fun e w'=>e = .returned (.bool false)∧w=w':=by
 rcases h with h | h
 ·go_enter Tryz.func57,Tryz.ntmps57
  go_wp2_with fail
  go_ret
  exact ⟨rfl,rfl⟩
 ·by_cases h0:0≤n
  ·have hd:decide (n≤1125899906842624)=false:=decide_eq_false (by omega)
   go_enter Tryz.func57,Tryz.ntmps57
   go_wp2_with fail
   go_ret
   exact ⟨rfl,rfl⟩
  ·omega
theorem mset_twice {κ ν:Type} [DecidableEq κ] {m:List (κ × ν)} {a:κ} {b c:ν}:mset (mset m a b) a c=mset m a c:=by
 have hk:a ∈ (mset m a b).map (·.1):=by
  rw [mset_keys]; split
  ·assumption
  ·simp
 rw [mset,if_pos hk]
 unfold mset
 split
 ·rw [List.map_map]
  refine List.map_congr_left fun p _ => ?_
  simp only [Function.comp]
  split <;> simp_all
 ·rename_i hn
  rw [List.map_append]
  congr 1
  ·conv=>rhs; rw [← List.map_id m]
   refine List.map_congr_left fun p hp => ?_
   have:¬ p.1=a:=fun e=>hn (by rw [← e]; exact List.mem_map_of_mem hp)
   simp [this]
  ·simp
section
variable {n0:Nat} {w:World} {X BA BH:Nat} {ac:List (Int × Acc)} {hs:List (Int × Hd)}
def expF (ac:List (Int × Acc)) (id:Int):Int × Int × Bool:=match mget ac id with | some a=>(a.l,a.e,true) | none=>(0,0,false)
set_option maxHeartbeats 1000000 in
theorem exposure_any (h:IsBook n0 w X BA BH ac hs) (id:Int) :
  Calls Tryz.prog 19 #[.pointer (some ⟨X,0,none⟩),.int .i64 id] w fun e w' =>
   e = .returned (.tuple #[.int .i64 (expF ac id).1,.int .i64 (expF ac id).2.1,.bool (expF ac id).2.2])∧Below w.heap.size w w':=by
 have l1:=h.lookA id
 have hA:=h.cellA
 unfold ptrOf at l1
 unfold expF
 cases hm:mget ac id with
 | none =>
  rw [hm] at l1
  simp only [Option.map_none] at l1
  clear hm
  go_enter Tryz.func19,Tryz.ntmps19
  go_wp2_with fail
  go_ret3
  exact ⟨rfl,Below.refl _ _⟩
 | some a =>
  have hc:=h.at_ hm
  have c0:w.cell? ⟨a.g,0,none⟩=some (.int .i64 a.l):=hc.cell 0
  have c1:w.cell? ⟨a.g,1,none⟩=some (.int .i64 a.e):=hc.cell 1
  rw [hm] at l1
  simp only [Option.map_some] at l1
  obtain ⟨g,l,e⟩:=a
  simp only at c0 c1 l1 hc
  clear hm
  go_enter Tryz.func19,Tryz.ntmps19
  go_wp2_with fail
  go_quiet (fail)
  go_wp2_with fail
  go_ret3
  exact ⟨rfl,below_drewN (Below.refl _ _) _⟩
def custAc (ac:List (Int × Acc)) (id l:Int) (g:Nat):List (Int × Acc):=mset ac id (match mget ac id with | some a=>⟨a.g,l,a.e⟩ | none=>⟨g,l,0⟩)
def custOk (id l:Int):Prop:=1≤id∧id≤64∧0≤l∧l≤1125899906842624
set_option maxRecDepth 100000 in
set_option maxHeartbeats 1000000 in
theorem customer_no (h:IsBook n0 w X BA BH ac hs) (id l:Int) (hno:¬ custOk id l) :
  Calls Tryz.prog 16 #[.pointer (some ⟨X,0,none⟩),.int .i64 id,.int .i64 l] w fun e w' =>
   e = .returned (.int .i64 2)∧w=w':=by
 unfold custOk at hno
 by_cases h1:1≤id
 ·by_cases h2:id≤64
  ·have M:=hid fun w=>money_no l w (by omega)
   go_enter Tryz.func16,Tryz.ntmps16
   clear hno
   go_wp2_with fail
   refine (M.out _).mono ?_
   rintro e w1 ⟨rfl,rfl⟩
   go_wp2_with fail
   go_ret
   exact ⟨rfl,rfl⟩
  ·go_enter Tryz.func16,Tryz.ntmps16
   clear hno
   go_wp2_with fail
   go_ret
   exact ⟨rfl,rfl⟩
 ·go_enter Tryz.func16,Tryz.ntmps16
  clear hno
  go_wp2_with fail
  go_ret
  exact ⟨rfl,rfl⟩
set_option maxRecDepth 100000 in
set_option maxHeartbeats 1000000 in
theorem customer_yes (h:IsBook n0 w X BA BH ac hs) (hn:n0≤w.heap.size) (id l:Int) (hok:custOk id l) :
  Calls Tryz.prog 16 #[.pointer (some ⟨X,0,none⟩),.int .i64 id,.int .i64 l] w fun e w' =>
   ∃ g,e = .returned (.int .i64 0)∧w.heap.size≤g∧IsBook n0 w' X BA BH (custAc ac id l g) hs∧Touch (Own BA BH ac) w w':=by
 obtain ⟨k1,k2,k3,k4⟩:=hok
 have M:=hid fun w=>money_yes l w k3 k4
 have l1:=h.lookA id
 have hA:=h.cellA
 unfold ptrOf at l1
 unfold custAc
 cases hm:mget ac id with
 | none =>
  rw [hm] at l1
  simp only [Option.map_none] at l1
  have h1:=h.alloc (.cells #[.int .i64 0,.int .i64 0] 180)
  have HM:=hid hm
  clear hm
  go_enter Tryz.func16,Tryz.ntmps16
  go_wp2_with fail
  refine (M.out _).mono ?_
  rintro e w1 ⟨rfl,rfl⟩
  go_wp2_with (first | (at_mapUpdate; refine wpList_store _ rfl _ _ _ 117 178 rfl keyL Tryz.underlying117 BA ac rfl h1.acs id ⟨w.heap.size,0,0⟩ rfl rfl ?_; intro w2 hM2 hg2 hs2; (have h2:IsBook n0 w2 X BA BH (mset ac id ⟨w.heap.size,0,0⟩) hs:=h1.add HM.out (Blk.new _ _ _) (fun p hp=>Nat.ne_of_lt (h.cells p hp).lt) hn hM2 hg2); (have l2:=h2.lookA id); (have e2:ptrOf (mset ac id ⟨w.heap.size,0,0⟩) id=some ⟨w.heap.size,0,none⟩:=(by unfold ptrOf; rw [mget_mset,if_pos rfl]; rfl)); rw [e2] at l2; have hA2:=h2.cellA; (have hc2:=h2.at_ (id:=id) (a:=⟨w.heap.size,0,0⟩) (by rw [mget_mset,if_pos rfl])); (have c2:w2.cell? ⟨w.heap.size,0,none⟩=some (.int .i64 0):=hc2.cell 0); (have f2:w2.frozen? ⟨w.heap.size,0,none⟩=false:=hc2.free 0); clear hs2 hM2 e2 hc2))
  have hput:=h2.put (id:=id) (a:=⟨w.heap.size,0,0⟩) (a':=⟨w.heap.size,l,0⟩) (i:=0) (v:=.int .i64 l) (by rw [mget_mset,if_pos rfl]) rfl rfl
  rw [mset_twice] at hput
  have hT:Touch (Own BA BH ac) w w2:=(Touch.of_below ((Below.refl w.heap.size w).alloc (Nat.le_refl _) _)).then ((Touch.of_grown hg2).mono (fun k hk => .inl hk))
  go_ret
  exact ⟨w.heap.size,rfl,Nat.le_refl _,hput,hT.trans (Touch.setCell w2 w.heap.size 0 _) (fun k hk => .inr (Nat.le_of_eq hk.symm))⟩
 | some a =>
  have hc:=h.at_ hm
  have c0:w.cell? ⟨a.g,0,none⟩=some (.int .i64 a.l):=hc.cell 0
  have f0:w.frozen? ⟨a.g,0,none⟩=false:=hc.free 0
  have hput:=h.put (a':=⟨a.g,l,a.e⟩) (i:=0) (v:=.int .i64 l) hm rfl rfl
  have hown:Own BA BH ac a.g:=.inr (.inr ⟨_,mget_mem hm,rfl⟩)
  rw [hm] at l1
  simp only [Option.map_some] at l1
  obtain ⟨g,l0,e⟩:=a
  simp only at c0 f0 l1 hc hown hput
  clear hm
  go_enter Tryz.func16,Tryz.ntmps16
  go_wp2_with fail
  refine (M.out _).mono ?_
  rintro e w1 ⟨rfl,rfl⟩
  go_wp2_with fail
  go_ret
  exact ⟨w.heap.size,rfl,Nat.le_refl _,hput,(Touch.setCell w g 0 _).mono (fun k hk=>by rw [hk]; exact hown)⟩
end
end Go.Proofs.YtakaalldbnklcaaGreat.Cr
namespace Go.Proofs.YtakaalldbnklcaaGreat.Cr
open Go.RowKit
set_option linter.unusedVariables false
section
variable {n0:Nat} {w:World} {X BA BH:Nat} {ac:List (Int × Acc)} {hs:List (Int × Hd)}
set_option maxRecDepth 100000 in
set_option maxHeartbeats 1000000 in
theorem put_any (h:IsBook n0 w X BA BH ac hs) (o c n:Int) (a:Acc) (ha:mget ac c=some a) :
  Calls Tryz.prog 166 #[.pointer (some ⟨X,0,none⟩),.agg #[.int .i64 o,.int .i64 c,.int .i64 n]] w fun e w' =>
   e = .returned (.tuple #[])∧IsBook n0 w' X BA BH (mset ac c ⟨a.g,a.l,wrap64 (a.e + n)⟩) (mset hs o ⟨o,c,n⟩)∧Touch (Own BA BH ac) w w':=by
 have h1:IsBook n0 (w.alloc (.cells #[.int .i64 o,.int .i64 c,.int .i64 n] 51)) X BA BH ac hs:=h.alloc _
 have hp:Blk (w.alloc (.cells #[.int .i64 o,.int .i64 c,.int .i64 n] 51)) w.heap.size 51 #[.int .i64 o,.int .i64 c,.int .i64 n]:=Blk.new _ _ _
 have hT:Touch (Own BA BH ac) w (w.alloc (.cells #[.int .i64 o,.int .i64 c,.int .i64 n] 51)):=(Touch.refl _ _).alloc _
 go_enter Tryz.func166,Tryz.ntmps166
 go_wp2_with fail
 obtain ⟨w1,hw1⟩:∃ w1,w1=w.alloc (.cells #[.int .i64 o,.int .i64 c,.int .i64 n] 51):=⟨_,rfl⟩
 rw [← hw1] at h1 hp hT ⊢
 obtain ⟨G,hG⟩:∃ G,G=w.heap.size:=⟨_,rfl⟩
 rw [← hG] at hp ⊢
 clear hw1 hG h
 have hA:=h1.cellA
 have hH:=h1.cellH
 have p0:w1.cell? ⟨G,0,none⟩=some (.int .i64 o):=hp.cell 0
 have p1:w1.cell? ⟨G,1,none⟩=some (.int .i64 c):=hp.cell 1
 have p2:w1.cell? ⟨G,2,none⟩=some (.int .i64 n):=hp.cell 2
 have HA:=hid ha
 clear ha
 refine wp_tail 7 (by kernel_rfl) (by kernel_rfl) ?_
 simp only [List.take_succ_cons,List.take_zero,List.drop_succ_cons,List.drop_zero]
 repeat still_step
 refine wpStill_nil ?_
 at_mapUpdate
 refine wpList_store _ rfl _ _ _ 116 51 rfl keyL Tryz.underlying116 BH hs rfl (IsMap.drew h1.hds) o ⟨o,c,n⟩ rfl rfl ?_
 intro w2 hM2 hg2 hs2
 have h2:IsBook n0 w2 X BA BH ac (mset hs o ⟨o,c,n⟩):=h1.drew.hold ⟨a,HA.out⟩ hM2 hg2
 have nG:¬ G=BH:=fun e=>h1.hds.notBlk hp e.symm
 have hT2:Touch (Own BA BH ac) w w2:=hT.drew.then ((Touch.of_grown hg2).mono (fun k hk => .inr (.inl hk)))
 have hp2:=(Touch.of_grown hg2).blk (w:=w1.drew) hp nG
 clear hM2 hg2 hs2 h1 hT hp hA hH p0 p1 p2
 go_wp2_with fail
 have hA:=h2.cellA
 have p1:w2.cell? ⟨G,1,none⟩=some (.int .i64 c):=hp2.cell 1
 have p2:w2.cell? ⟨G,2,none⟩=some (.int .i64 n):=hp2.cell 2
 have l1:=h2.drew.lookA c
 rw [show ptrOf ac c=some ⟨a.g,0,none⟩ from by unfold ptrOf; rw [HA.out]; rfl] at l1
 have hc:=h2.at_ HA.out
 have c1:w2.cell? ⟨a.g,1,none⟩=some (.int .i64 a.e):=hc.cell 1
 have f1:w2.frozen? ⟨a.g,1,none⟩=false:=hc.free 1
 have hput:=h2.put (a':=⟨a.g,a.l,wrap64 (a.e + n)⟩) (i:=1) (v:=.int .i64 (wrap64 (a.e + n))) HA.out rfl rfl
 have hown:Own BA BH ac a.g:=.inr (.inr ⟨_,mget_mem HA.out,rfl⟩)
 clear HA hc
 obtain ⟨g,l,e⟩:=a
 simp only at c1 f1 l1 hown hput
 refine wp_tail 15 (by kernel_rfl) (by kernel_rfl) ?_
 simp only [List.take_succ_cons,List.take_zero,List.drop_succ_cons,List.drop_zero]
 repeat still_step
 refine wpStill_nil ?_
 go_wp2_with fail
 go_end0
 exact ⟨rfl,hput.drew,(hT2.trans (Touch.setCell w2 g 1 _) (fun k hk => .inl (by rw [hk]; exact hown))).drew⟩
def holdR (ac:List (Int × Acc)) (hs:List (Int × Hd)) (o c n:Int):Int :=
 if 1≤o∧0≤n∧n≤1125899906842624 then
  match mget ac c with
  | none=>70
  | some x=>if (mget hs o).isSome=true then 71 else if wrap64 (x.l - x.e) < n then 140 else 0
 else 2
set_option maxRecDepth 100000 in
set_option maxHeartbeats 1000000 in
theorem hold_arg (h:IsBook n0 w X BA BH ac hs) (o c n:Int) (hno:¬ (1≤o∧0≤n∧n≤1125899906842624)) :
  Calls Tryz.prog 117 #[.pointer (some ⟨X,0,none⟩),.int .i64 o,.int .i64 c,.int .i64 n] w fun e w'=>e = .returned (.int .i64 2)∧w=w':=by
 by_cases h1:1≤o
 ·have M:=hid fun w=>money_no n w (by omega)
  clear hno
  go_enter Tryz.func117,Tryz.ntmps117
  go_wp2_with fail
  refine (M.out _).mono ?_
  rintro e w1 ⟨rfl,rfl⟩
  go_wp2_with fail
  go_ret
  exact ⟨rfl,rfl⟩
 ·clear hno
  go_enter Tryz.func117,Tryz.ntmps117
  go_wp2_with fail
  go_ret
  exact ⟨rfl,rfl⟩
set_option maxRecDepth 100000 in
set_option maxHeartbeats 2000000 in
theorem hold_no (h:IsBook n0 w X BA BH ac hs) (o c n:Int) (hok:1≤o∧0≤n∧n≤1125899906842624) (hr:holdR ac hs o c n ≠ 0) :
  Calls Tryz.prog 117 #[.pointer (some ⟨X,0,none⟩),.int .i64 o,.int .i64 c,.int .i64 n] w fun e w'=>e = .returned (.int .i64 (holdR ac hs o c n))∧Below w.heap.size w w':=by
 unfold holdR at hr ⊢
 rw [if_pos hok] at hr ⊢
 obtain ⟨k1,k2,k3⟩:=hok
 have M:=hid fun w=>money_yes n w k2 k3
 have l1:=h.lookA c
 have l2:=h.lookH o
 have hA:=h.cellA
 have hH:=h.cellH
 unfold ptrOf at l1
 generalize hz:(mget hs o).isSome=z at l2 hr ⊢
 clear hz
 generalize (mget hs o).getD ⟨0,0,0⟩=d at l2
 obtain ⟨d1,d2,d3⟩:=d
 simp only [enH] at l2
 cases hm:mget ac c with
 | none =>
  rw [hm] at l1 hr
  simp only [Option.map_none] at l1
  clear hm hr
  go_enter Tryz.func117,Tryz.ntmps117
  go_wp2_with fail
  refine (M.out _).mono ?_
  rintro e w1 ⟨rfl,rfl⟩
  go_wp2_with fail
  go_ret
  exact ⟨rfl,(Below.refl _ _).alloc (Nat.le_refl _) _⟩
 | some a =>
  have hc:=h.at_ hm
  have c0:w.cell? ⟨a.g,0,none⟩=some (.int .i64 a.l):=hc.cell 0
  have c1:w.cell? ⟨a.g,1,none⟩=some (.int .i64 a.e):=hc.cell 1
  rw [hm] at l1 hr
  obtain ⟨g,l,e⟩:=a
  simp only [Option.map_some] at l1 c0 c1 hr ⊢
  have hgl:g < w.heap.size:=hc.lt
  clear hm hc
  cases z with
  | true =>
   clear hr
   go_enter Tryz.func117,Tryz.ntmps117
   go_wp2_with fail
   refine (M.out _).mono ?_
   rintro e w1 ⟨rfl,rfl⟩
   go_wp2_with fail
   go_ret
   exact ⟨rfl,(Below.refl _ _).alloc (Nat.le_refl _) _⟩
  | false =>
   have hlt:wrap64 (l - e) < n:=by
    rcases Int.lt_or_le (wrap64 (l - e)) n with h | h
    ·exact h
    ·exfalso; apply hr; rw [if_neg (by decide),if_neg (by omega)]
   rw [if_neg (by decide),if_pos hlt]
   have HD:=hid (show decide (wrap64 (l - e) < n)=true from decide_eq_true hlt)
   clear hr
   go_enter Tryz.func117,Tryz.ntmps117
   go_wp2_with fail
   refine (M.out _).mono ?_
   rintro e1 w1 ⟨rfl,rfl⟩
   go_wp2_with fail
   have hd:=HD.out
   go_quiet (fail)
   go_wp2_with fail
   go_ret
   exact ⟨rfl,below_drewN ((Below.refl _ _).alloc (Nat.le_refl _) _) _⟩
set_option maxRecDepth 100000 in
set_option maxHeartbeats 2000000 in
theorem hold_ok (h:IsBook n0 w X BA BH ac hs) (o c n:Int) (hok:1≤o∧0≤n∧n≤1125899906842624) (a:Acc) (ha:mget ac c=some a) (hnone:mget hs o=none) (hle:n≤wrap64 (a.l - a.e)) :
  Calls Tryz.prog 117 #[.pointer (some ⟨X,0,none⟩),.int .i64 o,.int .i64 c,.int .i64 n] w fun e w'=>e = .returned (.int .i64 0) ∧
   IsBook n0 w' X BA BH (mset ac c ⟨a.g,a.l,wrap64 (a.e + n)⟩) (mset hs o ⟨o,c,n⟩)∧Touch (Own BA BH ac) w w':=by
 obtain ⟨k1,k2,k3⟩:=hok
 have M:=hid fun w=>money_yes n w k2 k3
 have P:=hid fun w (h:IsBook n0 w X BA BH ac hs)=>put_any h o c n a ha
 have l1:=h.lookA c
 have l2:=h.lookH o
 have hA:=h.cellA
 have hH:=h.cellH
 unfold ptrOf at l1
 rw [hnone] at l2
 simp only [enH,Option.getD_none,Option.isSome_none] at l2
 have hc:=h.at_ ha
 have c0:w.cell? ⟨a.g,0,none⟩=some (.int .i64 a.l):=hc.cell 0
 have c1:w.cell? ⟨a.g,1,none⟩=some (.int .i64 a.e):=hc.cell 1
 rw [ha] at l1
 obtain ⟨g,l,e⟩:=a
 simp only [Option.map_some] at l1 c0 c1 hle
 have hgl:g < w.heap.size:=hc.lt
 have HD:=hid (show decide (wrap64 (l - e) < n)=false from decide_eq_false (by omega))
 clear ha hnone hc
 go_enter Tryz.func117,Tryz.ntmps117
 go_wp2_with fail
 refine (M.out _).mono ?_
 rintro e1 w1 ⟨rfl,rfl⟩
 go_wp2_with fail
 have hd:=HD.out
 go_quiet (fail)
 go_wp2_with fail
 have h1:=(h.alloc (.cells #[.int .i64 0,.int .i64 0,.int .i64 0] 51)).drewN nq
 refine (P.out _ h1).mono ?_
 rintro e1 w2 ⟨rfl,h2,hT⟩
 go_wp2_with fail
 go_ret
 exact ⟨rfl,h2,(((Touch.refl _ w).alloc _).drewN nq).then hT⟩
end
end Go.Proofs.YtakaalldbnklcaaGreat.Cr
namespace Go.Proofs.YtakaalldbnklcaaGreat.Cr
open Go.RowKit
set_option linter.unusedVariables false
section
variable {n0:Nat} {w:World} {X BA BH:Nat} {ac:List (Int × Acc)} {hs:List (Int × Hd)}
set_option maxRecDepth 100000 in
set_option maxHeartbeats 1000000 in
theorem release_no (h:IsBook n0 w X BA BH ac hs) (o:Int) (hm:mget hs o=none) :
  Calls Tryz.prog 168 #[.pointer (some ⟨X,0,none⟩),.int .i64 o] w fun e w'=>e = .returned (.int .i64 70)∧Below w.heap.size w w':=by
 have l2:=h.lookH o
 have hH:=h.cellH
 rw [hm] at l2
 simp only [enH,Option.getD_none,Option.isSome_none] at l2
 clear hm
 go_enter Tryz.func168,Tryz.ntmps168
 go_wp2_with fail
 go_ret
 exact ⟨rfl,(Below.refl _ _).alloc (Nat.le_refl _) _⟩
set_option maxRecDepth 100000 in
set_option maxHeartbeats 1000000 in
theorem release_yes (h:IsBook n0 w X BA BH ac hs) (o:Int) (d:Hd) (hm:mget hs o=some d) (a:Acc) (ha:mget ac d.c=some a) :
  Calls Tryz.prog 168 #[.pointer (some ⟨X,0,none⟩),.int .i64 o] w fun e w'=>e = .returned (.int .i64 0) ∧
   IsBook n0 w' X BA BH (mset ac d.c ⟨a.g,a.l,wrap64 (a.e - d.a)⟩) (mdel hs o)∧Touch (Own BA BH ac) w w':=by
 obtain ⟨do',c,n⟩:=d
 simp only at ha ⊢
 have l2:=h.lookH o
 have hH:=h.cellH
 rw [hm] at l2
 simp only [enH,Option.getD_some,Option.isSome_some] at l2
 have h1:IsBook n0 (w.alloc (.cells #[.int .i64 do',.int .i64 c,.int .i64 n] 51)) X BA BH ac hs:=h.alloc _
 have hp:Blk (w.alloc (.cells #[.int .i64 do',.int .i64 c,.int .i64 n] 51)) w.heap.size 51 #[.int .i64 do',.int .i64 c,.int .i64 n]:=Blk.new _ _ _
 have hT:Touch (Own BA BH ac) w (w.alloc (.cells #[.int .i64 do',.int .i64 c,.int .i64 n] 51)):=(Touch.refl _ _).alloc _
 clear hm
 have HA:=hid ha
 clear ha
 go_enter Tryz.func168,Tryz.ntmps168
 go_wp2_with fail
 obtain ⟨w1,hw1⟩:∃ w1,w1=w.alloc (.cells #[.int .i64 do',.int .i64 c,.int .i64 n] 51):=⟨_,rfl⟩
 rw [← hw1] at h1 hp hT ⊢
 obtain ⟨G,hG⟩:∃ G,G=w.heap.size:=⟨_,rfl⟩
 rw [← hG] at hp ⊢
 clear hw1 hG h l2 hH
 have hA:=h1.cellA
 have p1:w1.cell? ⟨G,1,none⟩=some (.int .i64 c):=hp.cell 1
 have p2:w1.cell? ⟨G,2,none⟩=some (.int .i64 n):=hp.cell 2
 have l1:=h1.drew.lookA c
 rw [show ptrOf ac c=some ⟨a.g,0,none⟩ from by unfold ptrOf; rw [HA.out]; rfl] at l1
 have hc:=h1.at_ HA.out
 have c1:w1.cell? ⟨a.g,1,none⟩=some (.int .i64 a.e):=hc.cell 1
 have f1:w1.frozen? ⟨a.g,1,none⟩=false:=hc.free 1
 have hput:=h1.put (a':=⟨a.g,a.l,wrap64 (a.e - n)⟩) (i:=1) (v:=.int .i64 (wrap64 (a.e - n))) HA.out rfl rfl
 have hown:Own BA BH ac a.g:=.inr (.inr ⟨_,mget_mem HA.out,rfl⟩)
 clear HA hc
 obtain ⟨g,l,e⟩:=a
 simp only at c1 f1 l1 hown hput
 refine wp_tail 15 (by kernel_rfl) (by kernel_rfl) ?_
 simp only [List.take_succ_cons,List.take_zero,List.drop_succ_cons,List.drop_zero]
 repeat still_step
 refine wpStill_nil ?_
 have hH:=hput.drew.cellH
 have hT2:Touch (Own BA BH ac) w ((w1.setCell ⟨g,1,none⟩ (.int .i64 (wrap64 (e - n)))).drew):=(hT.trans (Touch.setCell w1 g 1 _) (fun k hk => .inl (by rw [hk]; exact hown))).drew
 have hq:=hput.drew
 clear hput h1 hT l1
 go_wp2_with (first | (at_delete; refine wpList_drop _ rfl _ _ 116 51 3 rfl keyL Tryz.underlying116 BH hs rfl hq.hds o rfl ?_; intro w3 hM3 hg3 hs3))
 have h3:=hq.free hM3 hg3
 go_ret
 exact ⟨rfl,h3,hT2.then ((Touch.of_grown hg3).mono (fun k hk => .inr (.inl hk)))⟩
end
end Go.Proofs.YtakaalldbnklcaaGreat.Cr
namespace Go.Proofs.YtakaalldbnklcaaGreat.Cr
open Go.RowKit
set_option linter.unusedVariables false
theorem wr_lim (n:Int) (h : -4611686018427387904≤n∧n≤4611686018427387904):wrap64 n=n:=by unfold wrap64; omega
end Go.Proofs.YtakaalldbnklcaaGreat.Cr
namespace Go.Proofs.YtakaalldbnklcaaGreat.Cr
open Go.RowKit
set_option linter.unusedVariables false
end Go.Proofs.YtakaalldbnklcaaGreat.Cr
namespace Go.Proofs.YtakaalldbnklcaaGreat.Cr
open Go.RowKit
set_option linter.unusedVariables false
theorem perm_mdel {κ ν:Type} [DecidableEq κ] {m:List (κ × ν)} {a:κ} {b:ν} (hd:(m.map (·.1)).Nodup) (h:mget m a=some b):m.Perm ((a,b) :: mdel m a):=by
 induction m with
 | nil=>simp [mget] at h
 | cons p t ih =>
  simp only [List.map_cons,List.nodup_cons] at hd
  by_cases hp:p.1=a
  ·have e1:mget (p :: t) a=some p.2:=by simp [mget,hp]
   rw [e1] at h
   injection h with h
   have e2:mdel (p :: t) a=mdel t a:=by simp [mdel,hp]
   rw [e2,mdel_none (by rw [← hp]; exact hd.1)]
   obtain ⟨p1,p2⟩:=p
   simp only at hp h
   rw [hp,h]
  ·have e1:mget (p :: t) a=mget t a:=by simp [mget,hp]
   have e2:mdel (p :: t) a=p :: mdel t a:=by simp [mdel,hp]
   rw [e1] at h
   rw [e2]
   exact ((ih hd.2 h).cons p).trans (List.Perm.swap _ _ _)
def sumC:List Hd→Int→Int
 | [],_=>0
 | d :: l,c=>(if d.c=c then d.a else 0) + sumC l c
theorem sumC_append (l r:List Hd) (c:Int):sumC (l++r) c=sumC l c + sumC r c:=by
 induction l with
 | nil=>simp [sumC]
 | cons d l ih=>simp only [List.cons_append,sumC,ih]; omega
theorem sumC_perm {l r:List Hd} (h:l.Perm r) (c:Int):sumC l c=sumC r c:=by
 induction h with
 | nil=>rfl
 | cons x _ ih=>simp only [sumC,ih]
 | swap x y l=>simp only [sumC]; omega
 | trans _ _ h1 h2=>exact h1.trans h2
theorem sumC_nonneg {l:List Hd} (h:∀ d ∈ l,0≤d.a) (c:Int):0≤sumC l c:=by
 induction l with
 | nil=>simp [sumC]
 | cons d l ih =>
  have h1:=h d (by simp)
  have h2:=ih (fun x hx=>h x (by simp [hx]))
  simp only [sumC]
  split <;> omega
structure Bal (ac:List (Int × Acc)) (hs:List (Int × Hd)):Prop where
 exp:∀ id a,mget ac id=some a→a.e=sumC (hs.map (·.2)) id∧a.l≤1125899906842624∧a.e≤a.l
 amt:∀ p ∈ hs,0≤p.2.a
 nd:(hs.map (·.1)).Nodup
end Go.Proofs.YtakaalldbnklcaaGreat.Cr
namespace Go.Proofs.YtakaalldbnklcaaGreat.Cr
open Go.RowKit
set_option linter.unusedVariables false
def nOf:Value→Nat | .int _ q=>q.toNat | _=>0
def ltI (a b:Int):Bool:=decide (a < b)
theorem linI:LinK ltI where
 irrefl a:=by simp [ltI]
 trans a b c h g:=by simp only [ltI,decide_eq_true_eq] at *; omega
 total a b h g:=by simp only [ltI,decide_eq_false_iff_not] at *; omega
def plc {α:Type} (p:α→Bool) (l:List α):Int:=if l.findIdx p < l.length then (l.findIdx p:Nat) else -1
theorem plc_some {α:Type} {p:α→Bool} {l:List α} {k:Nat} {y:α} (hk:l[k]?=some y) (hy:p y=true) (hb:∀ j z,j < k→l[j]?=some z→p z=false):plc p l=k:=by
 have hl:=(List.getElem?_eq_some_iff.1 hk).1
 have he:=(List.getElem?_eq_some_iff.1 hk).2
 have:l.findIdx p=k:=by
  rw [List.findIdx_eq hl]
  exact ⟨by rw [he]; exact hy,fun j hj=>hb j _ hj (List.getElem?_eq_getElem (by omega))⟩
 unfold plc
 rw [this,if_pos hl]
theorem plc_none {α:Type} {p:α→Bool} {l:List α} (h:∀ y ∈ l,p y=false):plc p l = -1:=by
 unfold plc
 rw [if_neg]
 intro hlt
 have:=List.findIdx_getElem (w:=hlt)
 rw [h _ (List.getElem_mem hlt)] at this
 cases this
theorem plc_cases {α:Type} (p:α→Bool) (l:List α):(∃ (k:Nat) (y:α),k < l.length∧l[k]?=some y∧p y=true∧plc p l=k)∨((∀ y ∈ l,p y=false)∧plc p l = -1):=by
 by_cases h:l.findIdx p < l.length
 ·left
  exact ⟨l.findIdx p,l[l.findIdx p],h,List.getElem?_eq_getElem h,List.findIdx_getElem,by unfold plc; rw [if_pos h]⟩
 ·right
  have h1:l.findIdx p=l.length:=by have:=List.findIdx_le_length (xs:=l) (p:=p); omega
  refine ⟨fun y hy => ?_,by unfold plc; rw [if_neg h]⟩
  have:=List.findIdx_eq_length.1 h1 y hy
  simpa using this
structure Pa where
 i:Int
 l:Int
def enP (p:Pa):List Value:=[.int .i64 p.i,.int .i64 p.l]
theorem enP_len (p:Pa):(enP p).length=2:=rfl
def toPa (q:Int × Acc):Pa:=⟨q.1,q.2.l⟩
def toHd (q:Int × Hd):Hd:=⟨q.1,q.2.c,q.2.a⟩
def isP (id:Int) (y:Pa):Bool:=decide (y.i=id)
def isO (o:Int) (y:Hd):Bool:=decide (y.o=o)
structure RelB (ac:List (Int × Acc)) (hs:List (Int × Hd)) (ps:List Pa) (hr:List Hd):Prop where
 pa:RelK Pa.i ltI toPa ac ps
 hd:RelK Hd.o ltI toHd hs hr
 ok:∀ p ∈ hs,p.2.o=p.1
 exp:∀ id a,mget ac id=some a→a.e=sumC (hs.map (·.2)) id∧a.e≤1125899906842624
 lim:∀ id a,mget ac id=some a→custOk id a.l
 amt:∀ p ∈ hs,0≤p.2.a∧p.2.a≤1125899906842624
theorem RelB.nil:RelB [] [] [] []:=⟨RelK.nil (fun _=>rfl),RelK.nil (fun _=>rfl),(fun p hp=>by cases hp),(fun _ _ h=>by simp [mget] at h),(fun _ _ h=>by simp [mget] at h),(fun p hp=>by cases hp)⟩
section
variable {ac:List (Int × Acc)} {hs:List (Int × Hd)} {ps:List Pa} {hr:List Hd}
theorem RelB.toHd_map (h:RelB ac hs ps hr):hs.map toHd=hs.map (·.2):=List.map_congr_left fun q hq=>by
 have:=h.ok q hq
 unfold toHd
 rw [← this]
theorem RelB.perm (h:RelB ac hs ps hr):hr.Perm (hs.map (·.2)):=by rw [← h.toHd_map]; exact h.hd.perm
theorem RelB.sum (h:RelB ac hs ps hr) (id:Int):sumC hr id=sumC (hs.map (·.2)) id:=sumC_perm h.perm id
theorem RelB.amtR (h:RelB ac hs ps hr):∀ d ∈ hr,0≤d.a∧d.a≤1125899906842624:=fun d hd=>by
 obtain ⟨p,hp,rfl⟩:=List.mem_map.1 (h.perm.mem_iff.1 hd)
 exact h.amt p hp
theorem RelB.bd (h:RelB ac hs ps hr) {id:Int} {a:Acc} (ha:mget ac id=some a):0≤a.e∧a.e≤1125899906842624:=by
 have:=(h.exp id a ha)
 have h0:=sumC_nonneg (l:=hs.map (·.2)) (fun d hd=>by obtain ⟨p,hp,rfl⟩:=List.mem_map.1 hd; exact (h.amt p hp).1) id
 omega
theorem RelB.few (h:RelB ac hs ps hr):ac.length≤64:=by
 have hk:∀ k ∈ ac.map (·.1),1≤k∧k≤64:=fun k hk=>by
  obtain ⟨p,hp,rfl⟩:=List.mem_map.1 hk
  have:=h.lim p.1 p.2 (mget_of_mem h.pa.nd hp)
  exact ⟨this.1,this.2.1⟩
 have hn:((ac.map (·.1)).map Int.toNat).Nodup:=by
  refine List.pairwise_map.2 ((List.Pairwise.and_mem.1 h.pa.nd).imp ?_)
  rintro a b ⟨ha,hb,hab⟩ e
  have:=hk a ha; have:=hk b hb
  omega
 have hsub:((ac.map (·.1)).map Int.toNat) ⊆ List.range 65:=fun x hx=>by
  obtain ⟨k,hk',rfl⟩:=List.mem_map.1 hx
  have:=hk k hk'
  exact List.mem_range.2 (by omega)
 have hsub2:((ac.map (·.1)).map Int.toNat) ⊆ List.range' 1 64:=fun x hx=>by
  obtain ⟨k,hk',rfl⟩:=List.mem_map.1 hx
  have:=hk k hk'
  exact List.mem_range'_1.2 (by omega)
 have:=List.Nodup.length_le_of_subset hn hsub2
 simpa using this
theorem RelB.find (h:RelB ac hs ps hr) (id:Int) :
  (∃ (k:Nat) (a:Acc),mget ac id=some a∧k < ps.length∧ps[k]?=some ⟨id,a.l⟩∧plc (isP id) ps=k)∨(mget ac id=none∧plc (isP id) ps = -1):=by
 rcases plc_cases (isP id) ps with ⟨k,y,hk,hy,hp,he⟩ | ⟨hn,he⟩
 ·left
  obtain ⟨v,hv,hyv⟩:=h.pa.mem (List.mem_of_getElem? hy)
  have e:y.i=id:=by simpa [isP] using hp
  rw [e] at hv hyv
  exact ⟨k,v,hv,hk,by rw [hy,hyv]; rfl,he⟩
 ·right
  refine ⟨h.pa.none.1 fun hin => ?_,he⟩
  obtain ⟨y,hy,e⟩:=List.mem_map.1 hin
  have:=hn y hy
  simp [isP,e] at this
theorem RelB.heldFor (h:RelB ac hs ps hr) (o:Int) :
  (∃ (k:Nat) (d:Hd),mget hs o=some d∧d.o=o∧k < hr.length∧hr[k]?=some d∧plc (isO o) hr=k)∨(mget hs o=none∧plc (isO o) hr = -1):=by
 rcases plc_cases (isO o) hr with ⟨k,y,hk,hy,hp,he⟩ | ⟨hn,he⟩
 ·left
  obtain ⟨v,hv,hyv⟩:=h.hd.mem (List.mem_of_getElem? hy)
  have e:y.o=o:=by simpa [isO] using hp
  rw [e] at hv hyv
  have h1:=h.ok _ (mget_mem hv)
  simp only at h1
  have e2:y=v:=by rw [hyv]; unfold toHd; simp only; rw [← h1]
  exact ⟨k,v,hv,h1,hk,by rw [hy,e2],he⟩
 ·right
  refine ⟨h.hd.none.1 fun hin => ?_,he⟩
  obtain ⟨y,hy,e⟩:=List.mem_map.1 hin
  have:=hn y hy
  simp [isO,e] at this
def psC (ps:List Pa) (id l:Int):List Pa:=if 0≤plc (isP id) ps then ps.set (plc (isP id) ps).toNat ⟨id,l⟩ else insK Pa.i ltI ps ⟨id,l⟩
theorem RelB.cust (h:RelB ac hs ps hr) (hh:∀ p ∈ hs,∃ a,mget ac p.2.c=some a) {id l:Int} (hok:custOk id l) (g:Nat):RelB (custAc ac id l g) hs (psC ps id l) hr:=by
 unfold custAc psC
 rcases h.find id with ⟨k,a,ha,hk,hy,he⟩ | ⟨hn,he⟩
 ·rw [he,if_pos (by omega),ha]
  refine ⟨?_,h.hd,h.ok, ?_, ?_,h.amt⟩
  ·have:=h.pa.upd (p:=id) (⟨a.g,l,a.e⟩:Acc) ha
   rw [show toPa (id,⟨a.g,l,a.e⟩)=⟨id,l⟩ from rfl,updK_set linI (e:=(⟨id,l⟩:Pa)) h.pa.sorted hy rfl] at this
   exact this
  ·intro i b hb
   rw [mget_mset] at hb
   split at hb
   ·injection hb with hb; subst hb; rename_i e; subst e; exact h.exp _ a ha
   ·exact h.exp i b hb
  ·intro i b hb
   rw [mget_mset] at hb
   split at hb
   ·injection hb with hb; subst hb; rename_i e; subst e; exact hok
   ·exact h.lim i b hb
 ·rw [he,if_neg (by omega),hn]
  refine ⟨h.pa.ins linI (p:=id) (⟨g,l,0⟩:Acc) hn,h.hd,h.ok, ?_, ?_,h.amt⟩
  ·intro i b hb
   rw [mget_mset] at hb
   split at hb
   ·injection hb with hb; subst hb; rename_i e; subst e
    refine ⟨?_,by simp⟩
    have:∀ m:List (Int × Hd),(∀ p ∈ m,p.2.c ≠ i)→sumC (m.map (·.2)) i=0:=by
     intro m hm
     induction m with
     | nil=>rfl
     | cons q m ih =>
      have h1:=hm q (by simp)
      simp only [List.map_cons,sumC]
      rw [if_neg h1,ih (fun p hp=>hm p (by simp [hp]))]; rfl
    exact (this hs (fun p hp e=>by obtain ⟨a,ha⟩:=hh p hp; rw [e,hn] at ha; cases ha)).symm
   ·exact h.exp i b hb
  ·intro i b hb
   rw [mget_mset] at hb
   split at hb
   ·injection hb with hb; subst hb; rename_i e; subst e; exact hok
   ·exact h.lim i b hb
theorem RelB.put (h:RelB ac hs ps hr) {o c n:Int} {a:Acc} (ha:mget ac c=some a) (ho:mget hs o=none) (h0:0≤n) (h1:n≤1125899906842624) (hle:a.e + n≤1125899906842624) :
  RelB (mset ac c ⟨a.g,a.l,wrap64 (a.e + n)⟩) (mset hs o ⟨o,c,n⟩) ps (insK Hd.o ltI hr ⟨o,c,n⟩):=by
 have hb:=h.bd ha
 have e2:wrap64 (a.e + n)=a.e + n:=wr_lim _ ⟨by omega,by omega⟩
 rw [e2]
 refine ⟨?_,h.hd.ins linI (p:=o) (⟨o,c,n⟩:Hd) ho, ?_, ?_, ?_, ?_⟩
 ·have e:(mset ac c ⟨a.g,a.l,a.e + n⟩).map toPa=ac.map toPa:=by
   have:=mset_map_same (fun a:Acc=>a.l) (b:=(⟨a.g,a.l,a.e + n⟩:Acc)) ha h.pa.nd rfl
   have:=congrArg (List.map fun q:Int × Int=>(⟨q.1,q.2⟩:Pa)) this
   simp only [List.map_map,Function.comp_def] at this
   exact this
  exact ⟨mset_nodup h.pa.nd _ _,h.pa.sorted,by rw [e]; exact h.pa.perm,fun _=>rfl⟩
 ·intro p hp
  rcases mem_mset hp with rfl | ⟨hp',_⟩
  ·rfl
  ·exact h.ok p hp'
 ·intro id b hbm
  have es:sumC ((mset hs o ⟨o,c,n⟩).map (·.2)) id=sumC (hs.map (·.2)) id + (if c=id then n else 0):=by
   rw [mset_new ho,List.map_append,sumC_append]
   simp [sumC]
  rw [es]
  rw [mget_mset] at hbm
  split at hbm
  ·injection hbm with hbm
   subst hbm
   rename_i e
   subst e
   have:=h.exp _ a ha
   rw [if_pos rfl]
   exact ⟨by simp only; omega,hle⟩
  ·rename_i e
   rw [if_neg (fun e'=>e e'.symm),Int.add_zero]
   exact h.exp id b hbm
 ·intro i b hb
  rw [mget_mset] at hb
  split at hb
  ·injection hb with hb; subst hb; rename_i e; subst e; exact h.lim _ a ha
  ·exact h.lim i b hb
 ·intro p hp
  rcases mem_mset hp with rfl | ⟨hp',_⟩
  ·exact ⟨h0,h1⟩
  ·exact h.amt p hp'
theorem filter_eraseIdx {hr:List Hd} {k:Nat} {d:Hd} (hs:SortedK Hd.o ltI hr) (hk:hr[k]?=some d):hr.filter (fun y=>decide (y.o ≠ d.o))=hr.eraseIdx k:=by
 have hn:=hs.nodup linI
 clear hs
 induction hr generalizing k with
 | nil=>simp at hk
 | cons x t ih =>
  simp only [List.map_cons,List.nodup_cons] at hn
  cases k with
  | zero =>
   simp only [List.getElem?_cons_zero,Option.some.injEq] at hk
   subst hk
   rw [List.filter_cons_of_neg (by simp)]
   simp only [List.eraseIdx_zero,List.tail_cons]
   rw [List.filter_eq_self]
   intro y hy
   simp only [decide_eq_true_eq]
   exact fun e=>hn.1 (by rw [← e]; exact List.mem_map_of_mem hy)
  | succ k =>
   simp only [List.getElem?_cons_succ] at hk
   have hne:x.o ≠ d.o:=fun e=>hn.1 (by rw [e]; exact List.mem_map_of_mem (List.mem_of_getElem? hk))
   rw [List.filter_cons_of_pos (by simpa using hne),ih hk hn.2]
   rfl
theorem RelB.rel (h:RelB ac hs ps hr) {o:Int} {d:Hd} {a:Acc} {k:Nat} (ha:mget ac d.c=some a) (ho:mget hs o=some d) (hk:hr[k]?=some d) :
  RelB (mset ac d.c ⟨a.g,a.l,wrap64 (a.e - d.a)⟩) (mdel hs o) ps (hr.eraseIdx k):=by
 have hb:=h.bd ha
 have hp:=perm_mdel h.hd.nd ho
 have ham:∀ p ∈ mdel hs o,0≤p.2.a∧p.2.a≤1125899906842624:=fun p hp=>h.amt p (mem_mdel hp).1
 have es:∀ id,sumC (hs.map (·.2)) id=(if d.c=id then d.a else 0) + sumC ((mdel hs o).map (·.2)) id:=fun id=>by
  rw [sumC_perm (hp.map (·.2)) id]
  rfl
 have h0:=h.amt (o,d) (mget_mem ho)
 simp only at h0
 have hn:∀ id,0≤sumC ((mdel hs o).map (·.2)) id:=fun id=>sumC_nonneg (fun d hd=>by obtain ⟨p,hp,rfl⟩:=List.mem_map.1 hd; exact (ham p hp).1) id
 have h1:=(h.exp _ a ha).1
 have h2:=es d.c
 rw [if_pos rfl] at h2
 have h3:=hn d.c
 have e2:wrap64 (a.e - d.a)=a.e - d.a:=wr_lim _ ⟨by omega,by omega⟩
 have hdo:d.o=o:=h.ok _ (mget_mem ho)
 rw [e2]
 refine ⟨?_, ?_, ?_, ?_, ?_,ham⟩
 ·have e:(mset ac d.c ⟨a.g,a.l,a.e - d.a⟩).map toPa=ac.map toPa:=by
   have:=mset_map_same (fun a:Acc=>a.l) (b:=(⟨a.g,a.l,a.e - d.a⟩:Acc)) ha h.pa.nd rfl
   have:=congrArg (List.map fun q:Int × Int=>(⟨q.1,q.2⟩:Pa)) this
   simp only [List.map_map,Function.comp_def] at this
   exact this
  exact ⟨mset_nodup h.pa.nd _ _,h.pa.sorted,by rw [e]; exact h.pa.perm,fun _=>rfl⟩
 ·have:=h.hd.del o
  rw [← hdo,filter_eraseIdx h.hd.sorted hk,hdo] at this
  exact this
 ·intro p hp
  exact h.ok p (mem_mdel hp).1
 ·intro id b hbm
  rw [mget_mset] at hbm
  split at hbm
  ·injection hbm with hbm
   subst hbm
   rename_i e
   subst e
   exact ⟨by simp only; omega,by simp only; omega⟩
  ·rename_i e
   have:=h.exp id b hbm
   have h4:=es id
   rw [if_neg (fun e'=>e e'.symm),Int.zero_add] at h4
   rw [← h4]
   exact this
 ·intro i b hb
  rw [mget_mset] at hb
  split at hb
  ·injection hb with hb; subst hb; rename_i e; subst e; exact h.lim _ a ha
  ·exact h.lim i b hb
end
end Go.Proofs.YtakaalldbnklcaaGreat.Cr
namespace Go.Proofs.YtakaalldbnklcaaGreat.Cr
open Go.RowKit
set_option linter.unusedVariables false
set_option maxRecDepth 100000 in
set_option maxHeartbeats 2000000 in
theorem vals1_in (F:Fence) (n:Nat) (hf:F.fn 79) (hro:F.round=none) (hn:1≤n) (l Bm b:Nat) (m:List (Int × Hd)) (J:List Hd→World→Prop)
  (hY:∀ pre x W,J pre W→pre.length < m.length→YieldAt F (n - 1) Tryz.prog l #[enH x] W fun e W'=>e = .returned (.bool true)∧J (pre++[x]) W'∧KeepsWalks W W')
  (W:World) (hJ:AbidesFrom W.heap.size J) (hm:W.cell? ⟨Bm,0,none⟩=some (.map (some b))) (hM:IsMap W b kI enH m) (h0:J [] W) :
  CallsIn F n Tryz.prog 79 #[.func (.yield l) #[] #[],.pointer (some ⟨Bm,0,none⟩)] W fun e W'=>(∃ v,e = .returned v)∧∃ xs:List Hd,xs.Perm (m.map (·.2))∧J xs W':=by
 refine callsIn_of_wp Tryz.func79 rfl hf ?_ hro
 simp only [Tryz.ntmps79,List.size_toArray,List.length_cons,List.length_nil,Nat.reduceAdd,Nat.reduceSub,Array.replicate_succ,Array.replicate_zero,List.push_toArray,List.append_toArray,List.nil_append,List.cons_append]
 gi_wp2_with (first
  | (gi_at_range; refine wpListIn_range_m _ rfl _ 116 3 51 rfl Tryz.underlying116 b m rfl hM ?_; intro w0 hrg0 hg0 hs0)
  | gi_in)
 go_frame
 gi_loopw [4] (fun _ wr=>∃ (left ps:List (Int × Hd)),IsIter wr W.heap.size b kI enH m left∧(ps++left).Perm m∧J (ps.map (·.2)) wr)
  (fun _ wr=>wr.rangeLeft b W.heap.size)
 case atStart =>
  exact ⟨m,[],hrg0,List.Perm.refl _,hJ [] W w0 none h0 hg0 (fun r e=>by cases e)⟩
 case round =>
  obtain ⟨left,ps,hrg,hP,hJs⟩:=hrel
  gi_wp2_with (first
   | (gi_at_next; refine wpListIn_next_m _ rfl _ rfl W.heap.size b m left rfl hrg ?_ ?_)
   | gi_in)
  ·intro hl0
   subst hl0
   gi_wp2
   go_end0
   exact ⟨⟨_,rfl⟩,ps.map (·.2),by rw [List.append_nil] at hP; exact hP.map _,hJs⟩
  ·intro k v left' w2 hp hrg2 hg2 hs2 hen
   have hJ2:J (ps.map (·.2)) w2:=hJ _ wr w2 (some W.heap.size) hJs hg2 (fun r e=>by cases e; exact ⟨Nat.le_refl _,hrg.iter_walk⟩)
   have hJ3:J (ps.map (·.2)) (w2.alloc (.cells #[.int .i64 v.o,.int .i64 v.c,.int .i64 v.a] 51)):=hJ _ _ _ none hJ2 (World.grownBy_alloc w2 _ none) (fun r e=>by cases e)
   have hrg3:=hrg2.alloc (.cells #[.int .i64 v.o,.int .i64 v.c,.int .i64 v.a] 51)
   have hlen:(ps.map (·.2)).length < m.length:=by
    have h1:=hP.length_eq
    have h2:=hp.length_eq
    simp at h1 h2 ⊢
    omega
   obtain ⟨fn,tmps,assign,body,hy,hR⟩:=hY _ v _ hJ3 hlen
   clear hs2
   obtain ⟨vo,vc,va⟩:=v
   simp only [enH] at hen hy
   gi_wp2
   refine hR.mono ?_
   rintro e W3 ⟨rfl,hJ4,hk4⟩
   gi_wp2
   have hrg4:=hrg3.of_walks hk4
   go_roundw
   case rel=>exact ⟨left',ps++[(k,⟨vo,vc,va⟩)],hrg4,by rw [List.append_assoc]; exact ((hp.symm).append_left ps).trans hP,by simpa using hJ4⟩
   case measure=>rw [hrg4.left_len,hrg.left_len]; have:=hp.length_eq; simp at this; omega
set_option maxRecDepth 100000 in
set_option maxHeartbeats 2000000 in
theorem keys1_in (F:Fence) (n:Nat) (hf:F.fn 129) (hro:F.round=none) (hn:1≤n) (l Bm b:Nat) (m:List (Int × Acc)) (J:List Int→World→Prop)
  (hY:∀ pre x W,J pre W→pre.length < m.length→YieldAt F (n - 1) Tryz.prog l #[kI x] W fun e W'=>e = .returned (.bool true)∧J (pre++[x]) W'∧KeepsWalks W W')
  (W:World) (hJ:AbidesFrom W.heap.size J) (hm:W.cell? ⟨Bm,0,none⟩=some (.map (some b))) (hM:IsMap W b kI vAcc m) (h0:J [] W) :
  CallsIn F n Tryz.prog 129 #[.func (.yield l) #[] #[],.pointer (some ⟨Bm,0,none⟩)] W fun e W'=>(∃ v,e = .returned v)∧∃ xs:List Int,xs.Perm (m.map (·.1))∧J xs W':=by
 refine callsIn_of_wp Tryz.func129 rfl hf ?_ hro
 simp only [Tryz.ntmps129,List.size_toArray,List.length_cons,List.length_nil,Nat.reduceAdd,Nat.reduceSub,Array.replicate_succ,Array.replicate_zero,List.push_toArray,List.append_toArray,List.nil_append,List.cons_append]
 gi_wp2_with (first
  | (gi_at_range; refine wpListIn_range_m _ rfl _ 117 3 178 rfl Tryz.underlying117 b m rfl hM ?_; intro w0 hrg0 hg0 hs0)
  | gi_in)
 go_frame
 gi_loopw [3] (fun _ wr=>∃ (left ps:List (Int × Acc)),IsIter wr W.heap.size b kI vAcc m left∧(ps++left).Perm m∧J (ps.map (·.1)) wr)
  (fun _ wr=>wr.rangeLeft b W.heap.size)
 case atStart =>
  exact ⟨m,[],hrg0,List.Perm.refl _,hJ [] W w0 none h0 hg0 (fun r e=>by cases e)⟩
 case round =>
  obtain ⟨left,ps,hrg,hP,hJs⟩:=hrel
  gi_wp2_with (first
   | (gi_at_next; refine wpListIn_next_m _ rfl _ rfl W.heap.size b m left rfl hrg ?_ ?_)
   | gi_in)
  ·intro hl0
   subst hl0
   gi_wp2
   go_end0
   exact ⟨⟨_,rfl⟩,ps.map (·.1),by rw [List.append_nil] at hP; exact hP.map _,hJs⟩
  ·intro k v left' w2 hp hrg2 hg2 hs2 hen
   have hJ2:J (ps.map (·.1)) w2:=hJ _ wr w2 (some W.heap.size) hJs hg2 (fun r e=>by cases e; exact ⟨Nat.le_refl _,hrg.iter_walk⟩)
   have hlen:(ps.map (·.1)).length < m.length:=by
    have h1:=hP.length_eq
    have h2:=hp.length_eq
    simp at h1 h2 ⊢
    omega
   obtain ⟨fn,tmps,assign,body,hy,hR⟩:=hY _ k _ hJ2 hlen
   clear hs2
   simp only [kI] at hen hy
   gi_wp2
   refine hR.mono ?_
   rintro e W3 ⟨rfl,hJ4,hk4⟩
   gi_wp2
   have hrg4:=hrg2.of_walks hk4
   go_roundw
   case rel=>exact ⟨left',ps++[(k,v)],hrg4,by rw [List.append_assoc]; exact ((hp.symm).append_left ps).trans hP,by simpa using hJ4⟩
   case measure=>rw [hrg4.left_len,hrg.left_len]; have:=hp.length_eq; simp at this; omega
theorem vals_gives (F:Fence) (n:Nat) (hf:F.fn 79) (hro:F.round=none) (hn:1≤n) (Bm b:Nat) (m:List (Int × Hd)) (w:World) (hBm:Bm < w.heap.size)
  (hm:w.cell? ⟨Bm,0,none⟩=some (.map (some b))) (hM:IsMap w b kI enH m) :
  SeqGives F n Tryz.prog 79 #[.pointer (some ⟨Bm,0,none⟩)] enH (fun xs=>xs.Perm (m.map (·.2))) m.length w:=fun l J W hW hJ hY h0 =>
 vals1_in F n hf hro hn l Bm b m J hY W hJ ((hW.cell (p:=⟨Bm,0,none⟩) hBm).trans hm) (hM.next hW) h0
theorem keys_gives (F:Fence) (n:Nat) (hf:F.fn 129) (hro:F.round=none) (hn:1≤n) (Bm b:Nat) (m:List (Int × Acc)) (w:World) (hBm:Bm < w.heap.size)
  (hm:w.cell? ⟨Bm,0,none⟩=some (.map (some b))) (hM:IsMap w b kI vAcc m) :
  SeqGives F n Tryz.prog 129 #[.pointer (some ⟨Bm,0,none⟩)] kI (fun xs=>xs.Perm (m.map (·.1))) m.length w:=fun l J W hW hJ hY h0 =>
 keys1_in F n hf hro hn l Bm b m J hY W hJ ((hW.cell (p:=⟨Bm,0,none⟩) hBm).trans hm) (hM.next hW) h0
set_option maxHeartbeats 1000000 in
theorem valsCall_in (F:Fence) (n:Nat) (hf:F.fn 36) (hro:F.round=none) (mb:Option Nat) (w:World) :
  CallsIn F n Tryz.prog 36 #[.map mb] w fun e w'=>e = .returned (.func (.func 79) #[] #[.pointer (some ⟨w.heap.size,0,none⟩)])∧w'=w.alloc (.cells #[.map mb] 116):=by
 refine callsIn_of_wp Tryz.func36 rfl hf ?_ hro
 simp only [Tryz.ntmps36,List.size_toArray,List.length_cons,List.length_nil,Nat.reduceAdd,Nat.reduceSub,Array.replicate_succ,Array.replicate_zero,List.push_toArray,List.append_toArray,List.nil_append,List.cons_append]
 gi_wp2
 go_ret
 exact ⟨rfl,rfl⟩
set_option maxHeartbeats 1000000 in
theorem keysCall_in (F:Fence) (n:Nat) (hf:F.fn 86) (hro:F.round=none) (mb:Option Nat) (w:World) :
  CallsIn F n Tryz.prog 86 #[.map mb] w fun e w'=>e = .returned (.func (.func 129) #[] #[.pointer (some ⟨w.heap.size,0,none⟩)])∧w'=w.alloc (.cells #[.map mb] 117):=by
 refine callsIn_of_wp Tryz.func86 rfl hf ?_ hro
 simp only [Tryz.ntmps86,List.size_toArray,List.length_cons,List.length_nil,Nat.reduceAdd,Nat.reduceSub,Array.replicate_succ,Array.replicate_zero,List.push_toArray,List.append_toArray,List.nil_append,List.cons_append]
 gi_wp2
 go_ret
 exact ⟨rfl,rfl⟩
end Go.Proofs.YtakaalldbnklcaaGreat.Cr
namespace Go.Proofs.YtakaalldbnklcaaGreat.Cr
open Go.RowKit Go.Maps Go.Sort Go.ChangeShapes Go.WideShapes Go.ChangeAt Go.Deep
set_option linter.unusedVariables false
def enH3 (h:Hd):List Value:=[.int .i64 h.o,.int .i64 h.c,.int .i64 h.a]
theorem enH3_len (h:Hd):(enH3 h).length=3:=rfl
theorem enH3_one (h:Hd):∀ v ∈ enH3 h,v.oneCell'=true:=by
 intro v hv
 simp only [enH3,List.mem_cons,List.not_mem_nil,or_false] at hv
 rcases hv with rfl | rfl | rfl <;> rfl
theorem info_hd:(Tryz.prog.info? 51).map (fun i=>(i.zero,i.size,i.bytes))=some (some (.agg #[.int .i64 0,.int .i64 0,.int .i64 0]),3,24):=by kernel_rfl
noncomputable def apCode:Code × Code:=match (Tryz.f111).body with
 | some (.seq _ (.seq (.seq _ (.block _ (.rangeFunc _ _ a b))) _))=>(a,b)
 | _=>(.ret,.ret)
noncomputable def apRec (fn:FuncId) (sv:Value) (Bs D:Nat) (st:LoopState) (pend:Option Code):Loop :=
 { state:=st,pending:=pend,fn,tmps:=#[.slice none 0 0,sv,.pointer (some ⟨Bs,0,none⟩),undef,.slice none 0 0,undef,sv,undef,undef,undef,undef,undef,undef],params:=#[7],assign:=apCode.1,body:=apCode.2,defers:=D }
structure ApAt (w0:World) (fn:FuncId) (sv:Value) (Bs l D:Nat) (ss:List Hd) (W:World):Prop where
 box:∃ v,W.heap[Bs]?=some (.cells #[v] 36 (0,0))∧W.ownsRow w0.heap.size 51 3 v ss.length (ss.flatMap enH3)∧(v = .slice none 0 0 ↔ ss=[])
 L:W.heap[l]?=some (.loop (apRec fn sv Bs D .ready none))
 K:W.heap[D]?=some (.deferred (some []))
 below:Below w0.heap.size w0 W
theorem ap_abides (w0:World) (fn:FuncId) (sv:Value) (Bs l D B:Nat) (hB:w0.heap.size≤B):AbidesFrom B (ApAt w0 fn sv Bs l D):=fun s W W' row h hg hrow=>by
 have hrow':∀ r,row=some r→∃ o:Obj,W.heap[r]?=some o∧o.isWalk=true:=fun r e=>(hrow r e).2
 obtain ⟨v,hv,hr,hn⟩:=h.box
 exact ⟨⟨v,(grownBy_keeps hg hrow' hv rfl).trans hv,ownsRow_abides_a hr hg hrow',hn⟩,(grownBy_keeps hg hrow' h.L rfl).trans h.L,(grownBy_keeps hg hrow' h.K rfl).trans h.K,
  h.below.grown hg h.below.size (fun k e=>Nat.le_trans hB (hrow k e).1)⟩
set_option maxRecDepth 100000 in
set_option maxHeartbeats 2000000 in
theorem apYield (F:Fence) (m:Nat) (w0:World) (fn:FuncId) (hfn:F.fn fn) (sv:Value) (Bs l D:Nat) (hBl:Bs ≠ l) (hDl:D ≠ l) (hDB:D ≠ Bs) (h0B:w0.heap.size≤Bs) (h0l:w0.heap.size≤l)
  (N:Nat) (hN:N≤maxLen) (hNb:N * 24≤140737488355328) (ss:List Hd) (x:Hd) (W0:World) (h0:ApAt w0 fn sv Bs l D ss W0) (hlen:ss.length < N) :
  YieldAt F m Tryz.prog l #[enH x] W0 fun e W'=>e = .returned (.bool true)∧ApAt w0 fn sv Bs l D (ss++[x]) W'∧KeepsWalks W0 W':=by
 have hne:(36:TypeId) ≠ 51:=by decide
 obtain ⟨i0,hi,hz0,hz1,hz2⟩:=info_parts info_hd
 obtain ⟨xo,xc,xa⟩:=x
 refine ⟨fn,#[.slice none 0 0,sv,.pointer (some ⟨Bs,0,none⟩),undef,.slice none 0 0,undef,sv,enH ⟨xo,xc,xa⟩,undef,undef,undef,undef,undef],apCode.1,apCode.2,by simpa [apRec] using run_yield (P:=Tryz.prog) (args:=#[enH ⟨xo,xc,xa⟩]) h0.L rfl,roundIn_of_wpIn hfn ?_⟩
 have h:ApAt w0 fn sv Bs l D ss (W0.alloc (.cells #[.int .i64 xo,.int .i64 xc,.int .i64 xa] 51)):=ap_abides w0 fn sv Bs l D w0.heap.size (Nat.le_refl _) ss W0 _ none h0 (World.grownBy_alloc W0 _ none) (fun r e=>by cases e)
 have hX:Blk (W0.alloc (.cells #[.int .i64 xo,.int .i64 xc,.int .i64 xa] 51)) W0.heap.size 51 #[.int .i64 xo,.int .i64 xc,.int .i64 xa]:=Blk.new _ _ _
 have hk0:KeepsWalks W0 (W0.alloc (.cells #[.int .i64 xo,.int .i64 xc,.int .i64 xa] 51)):=KeepsWalks.alloc _ _
 have hlX:W0.heap.size ≠ l:=fun e=>by have:=(Array.getElem?_eq_some_iff.1 h0.L).1; omega
 simp only [enH]
 dsimp only [apCode,Tryz.f111]
 gi_wp2_with gi_round_op_a
 obtain ⟨W,hW⟩:∃ W,W=W0.alloc (.cells #[.int .i64 xo,.int .i64 xc,.int .i64 xa] 51):=⟨_,rfl⟩
 obtain ⟨G,hG⟩:∃ G,G=W0.heap.size:=⟨_,rfl⟩
 rw [← hW] at h hX hk0 ⊢
 rw [← hG] at hX hlX ⊢
 clear hW hG h0
 obtain ⟨v,hv,hrow,_⟩:=h.box
 have hl:l < W.heap.size:=(Array.getElem?_eq_some_iff.1 h.L).1
 have hbr:=run_beginRound (P:=Tryz.prog) h.L rfl
 obtain ⟨W2,hW2⟩:∃ W2,W.putObj l (.loop { apRec fn sv Bs D .ready none with state:=.busy })=W2:=⟨_,rfl⟩
 rw [hW2] at hbr
 have hg2:W.grownBy W2 (some l):=by rw [← hW2]; exact grownBy_putObj_a _ _ _
 have hk2:KeepsWalks W0 W2:=hk0.trans (by rw [← hW2]; exact KeepsWalks.putObj _ h.L rfl)
 have hv2:W2.heap[Bs]?=some (.cells #[v] 36 (0,0)):=by rw [← hW2]; exact (World.putObj_heap_other hBl).trans hv
 have hX2:Blk W2 G 51 #[.int .i64 xo,.int .i64 xc,.int .i64 xa]:=by rw [← hW2]; exact (World.putObj_heap_other hlX).trans hX
 have hK2:W2.heap[D]?=some (.deferred (some [])):=by rw [← hW2]; exact (World.putObj_heap_other hDl).trans h.K
 have hL2:W2.heap[l]?=some (.loop { apRec fn sv Bs D .ready none with state:=.busy }):=by rw [← hW2]; exact World.putObj_heap_same hl
 have hrow2:W2.ownsRow w0.heap.size 51 3 v ss.length (ss.flatMap enH3):=hrow.kept hg2 (ownsRow_ne_a hrow h.L (fun cur e=>by cases e))
 have hb2:Below w0.heap.size w0 W2:=h.below.grown hg2 h.below.size (fun k e=>by cases e; exact h0l)
 have hBlt:Bs < W2.heap.size:=(Array.getElem?_eq_some_iff.1 hv2).1
 have hl2:l < W2.heap.size:=(Array.getElem?_eq_some_iff.1 hL2).1
 have hDlt:D < W2.heap.size:=(Array.getElem?_eq_some_iff.1 hK2).1
 have ne_of:∀ {j:Nat} {o:Obj},W2.heap[j]?=some o→(∀ cur,o ≠ .cells cur 51 (0,0))→some j ≠ v.ownBlock:=fun hj hno=>by
  rcases ownsRow_ne_a hrow2 hj hno with e | e
  ·rw [e]; simp
  ·exact fun e'=>e e'.symm
 obtain ⟨hc2,hf2⟩:=cell_of_box_a hv2
 have q0:W2.cell? ⟨G,0,none⟩=some (.int .i64 xo):=hX2.cell 0
 have q1:W2.cell? ⟨G,1,none⟩=some (.int .i64 xc):=hX2.cell 1
 have q2:W2.cell? ⟨G,2,none⟩=some (.int .i64 xa):=hX2.cell 2
 clear hW2
 refine ⟨W2,hbr, ?_⟩
 gi_wp2_with (first
  | (gi_at_builtin; refine wpListIn_append_own _ rfl _ _ 36 rfl w0.heap.size 51 i0 _ 3 24 Tryz.underlying36 hi hz0 hz1 hz2 rfl (by decide) _ _ _ rfl (hrow2.alloc _) ⟨W2.heap.size,0,none⟩ 1 1 (enH3 ⟨xo,xc,xa⟩) rfl rfl ?c1 (enH3_one _) (by omega) (by omega) (by have:=hb2.size; simp; omega) ?_)
  | gi_round_op_a)
 case c1 =>
  intro j u hu
  exact hu
 intro v' w3 hown' hg3 hnil3
 have hv3:w3.heap[Bs]?=some (.cells #[v] 36 (0,0)):=(hg3.block Bs (by simp; omega) (ne_of hv2 (fun cur e=>hne (Obj.cells.inj e).2.1))).trans ((Below.heap_alloc _ _ Bs hBlt).trans hv2)
 obtain ⟨hc3,hf3⟩:=cell_of_box_a hv3
 obtain ⟨g',cap',cur',rfl,hbase',hgb',hr1,hr2,hr3,hr4⟩:∃ g' cap' cur',v' = .slice (some ⟨g',0,none⟩) (ss.length + 1) cap'∧w0.heap.size≤g'∧w3.heap[g']?=some (.cells cur' 51 (0,0))∧ss.length + 1≤cap'∧cap'≤maxLen∧cur'.size=cap' * 3∧cur'.toList.take ((ss.length + 1) * 3)=ss.flatMap enH3++enH3 ⟨xo,xc,xa⟩:=by
  rcases hown'.2 with ⟨_,h0⟩ | h'
  ·exact absurd h0 (by omega)
  ·exact h'
 gi_wp2_with gi_round_op_a
 have hg3':(W2.alloc (.cells #[.int .i64 xo,.int .i64 xc,.int .i64 xa] 51)).grownBy w3 v.ownBlock:=hg3
 have hL3:w3.heap[l]?=some (.loop { apRec fn sv Bs D .ready none with state:=.busy }):=(hg3'.block l (by simp; omega) (ne_of hL2 (fun cur e=>by cases e))).trans ((Below.heap_alloc _ _ l hl2).trans hL2)
 have hK3:w3.heap[D]?=some (.deferred (some [])):=(hg3'.block D (by simp; omega) (ne_of hK2 (fun cur e=>by cases e))).trans ((Below.heap_alloc _ _ D hDlt).trans hK2)
 obtain ⟨w4,hw4⟩:∃ w4,w3.setCell ⟨Bs,0,none⟩ (.slice (some ⟨g',0,none⟩) (ss.length + 1) cap')=w4:=⟨_,rfl⟩
 rw [hw4]
 have hg4:w3.grownBy w4 (some Bs):=by rw [← hw4]; exact grownBy_setCell0_a _ _ _
 have hv4:w4.heap[Bs]?=some (.cells #[.slice (some ⟨g',0,none⟩) (ss.length + 1) cap'] 36 (0,0)):=by rw [← hw4]; exact heap_setCell_box_a _ hv3
 have hL4:w4.heap[l]?=some (.loop { apRec fn sv Bs D .ready none with state:=.busy }):=(hg4.block l (Array.getElem?_eq_some_iff.1 hL3).1 (fun e=>hBl (by cases e; rfl))).trans hL3
 have hK4:w4.heap[D]?=some (.deferred (some [])):=(hg4.block D (Array.getElem?_eq_some_iff.1 hK3).1 (fun e=>hDB (by cases e; rfl))).trans hK3
 have hrow4:=hown'.kept hg4 (ownsRow_ne_a hown' hv3 (fun cur e=>hne (Obj.cells.inj e).2.1))
 have hl4:l < w4.heap.size:=(Array.getElem?_eq_some_iff.1 hL4).1
 have hb3:Below w0.heap.size w0 w3:=(hb2.alloc hb2.size _).grown hg3' (by have:=hb2.size; simp; omega) (fun k e=>(hrow2.lt k e).1)
 have hb4:Below w0.heap.size w0 w4:=hb3.grown hg4 hb3.size (fun k e=>by cases e; exact h0B)
 have hk4:KeepsWalks W0 w4:=((hk2.trans (KeepsWalks.alloc _ _)).trans (KeepsWalks.of_grownBy hg3' (ownsRow_not_walk_a (hrow2.alloc _)))).trans (by rw [← hw4]; exact KeepsWalks.setCell _ _ _)
 clear hw4
 refine ⟨_,_,run_endRound none hL4,rfl,⟨⟨_,(World.putObj_heap_other hBl).trans hv4, ?_,by simp⟩,World.putObj_heap_same hl4,(World.putObj_heap_other hDl).trans hK4,hb4.grown (grownBy_putObj_a _ _ _) hb4.size (fun k e=>by cases e; exact h0l)⟩,hk4.trans (KeepsWalks.putObj _ hL4 rfl)⟩
 have:=hrow4.kept (grownBy_putObj_a w4 l (.loop { { apRec fn sv Bs D .ready none with state:=.busy } with state:=if (none:Option Code).isNone then .ready else .done,pending:=none })) (ownsRow_ne_a hrow4 hL4 (fun cur e=>by cases e))
 simpa using this
set_option maxRecDepth 100000 in
set_option maxHeartbeats 2000000 in
theorem appendSeq_in (F:Fence) (n:Nat) (h11:F.fn 111) (hro:F.round=none) (hn:2≤n) (g:Nat) (lb:Array Value) (hFg:F.fn g) (eg:∀ args w,(callFunc g args).run Tryz.prog w = .ok (.enter g args) w)
    (S:List Hd→Prop) (N:Nat) (hN:N≤maxLen) (hNb:N * 24≤140737488355328) (w:World) (hseq:SeqGives F (n - 1) Tryz.prog g lb enH S N w) :
    CallsIn F n Tryz.prog 111 #[.slice none 0 0,.func (.func g) #[] lb] w fun e w'=>∃ (v:Value) (ss:List Hd),e = .returned v∧S ss∧w'.ownsRow w.heap.size 51 3 v ss.length (ss.flatMap enH3)∧(v = .slice none 0 0 ↔ ss=[])∧Below w.heap.size w w':=by
  have h1:1≤n:=by omega
  have hne:(36:TypeId) ≠ 51:=by decide
  refine callsIn_of_wp_marks Tryz.func111 rfl h11 ?_ hro
  simp only [Tryz.ntmps111,List.size_toArray,List.length_cons,List.length_nil,Nat.reduceAdd,Nat.reduceSub,Array.replicate_succ,Array.replicate_zero,List.push_toArray,List.append_toArray,List.nil_append,List.cons_append]
  gi_wp2
  refine wpIn_rangeFunc ?_
  intro fn hfn
  rw [hro]
  obtain ⟨W0,hW0⟩:∃ W0,w.alloc (.cells #[.slice none 0 0] 36)=W0:=⟨_,rfl⟩
  have hs0:W0.heap.size=w.heap.size + 1:=by rw [← hW0]; simp
  have hv0:W0.heap[w.heap.size]?=some (.cells #[.slice none 0 0] 36 (0,0)):=by rw [← hW0]; exact World.alloc_heap_new w _
  have hb0:Below w.heap.size w W0:=by rw [← hW0]; exact (Below.refl _ w).alloc (Nat.le_refl _) _
  rw [hW0]
  obtain ⟨W1,hW1⟩:∃ W1,(W0.alloc (.deferred (some []))).alloc (.loop (apRec fn (.func (.func g) #[] lb) w.heap.size W0.heap.size .ready none))=W1:=⟨_,rfl⟩
  have hold:∀ k,k < W0.heap.size→W1.heap[k]?=W0.heap[k]?:=fun k hk=>by
    rw [← hW1]; exact (Below.heap_alloc _ _ k (by simp; omega)).trans (Below.heap_alloc _ _ k hk)
  have hb1:Below w.heap.size w W1:=by rw [← hW1]; exact (hb0.alloc hb0.size _).alloc (by have:=hb0.size; simp; omega) _
  have hs1:W1.heap.size=W0.heap.size + 2:=by rw [← hW1]; simp
  have hM:ApAt w fn (.func (.func g) #[] lb) w.heap.size (W0.heap.size + 1) W0.heap.size [] W1 :=
    ⟨⟨_,(hold w.heap.size (by omega)).trans hv0,⟨rfl,.inl ⟨rfl,rfl⟩⟩,by simp⟩,
     by rw [← hW1]; have:=World.alloc_heap_new (W0.alloc (.deferred (some []))) (.loop (apRec fn (.func (.func g) #[] lb) w.heap.size W0.heap.size .ready none)); rwa [World.size_alloc] at this,
     by rw [← hW1]; exact (Below.heap_alloc _ _ _ (by simp)).trans (World.alloc_heap_new W0 _),hb1⟩
  refine ⟨W0.heap.size + 1,[{ target:=.collected W0.heap.size,args:=#[] }],W1,{ target:=.fn (.func g) lb,args:=#[.func (.yield (W0.heap.size + 1)) #[] #[]] },W1,g,
    #[.func (.yield (W0.heap.size + 1)) #[] #[]]++lb,W1, ?_, ?_, ?_, ?_,fun _=>h1, ?_⟩
  · rw [← hW1]; exact run_enterLoop_outer _ _ _ _ _
  · simp [resolve,go_sem]
  · intro f' hf'; simp [Target.leads] at hf'; subst hf'; exact hFg
  · simp [invoke,go_sem,eg]
  · refine (hseq (W0.heap.size + 1) (ApAt w fn (.func (.func g) #[] lb) w.heap.size (W0.heap.size + 1) W0.heap.size) W1 hb1 (ap_abides _ _ _ _ _ _ _ hb1.size)
      (fun pre x W hJ hl=>apYield F (n - 1 - 1) w fn hfn _ w.heap.size (W0.heap.size + 1) W0.heap.size (by omega) (by omega) (by omega) (Nat.le_refl _) (by omega) N hN hNb pre x W hJ hl) hM).mono ?_
    rintro e W2 ⟨⟨v0,rfl⟩,ss,hS,h2⟩
    obtain ⟨v,hv,hrow,hnil⟩:=h2.box
    have hend:=run_endLoop (P:=Tryz.prog) h2.L (by simp [apRec])
    obtain ⟨W3,hW3⟩:∃ W3,W2.putObj (W0.heap.size + 1) (.loop { apRec fn (.func (.func g) #[] lb) w.heap.size W0.heap.size .ready none with state:=.exhausted })=W3:=⟨_,rfl⟩
    rw [hW3] at hend
    have hg3:W2.grownBy W3 (some (W0.heap.size + 1)):=by rw [← hW3]; exact grownBy_putObj_a _ _ _
    have hv3:W3.heap[w.heap.size]?=some (.cells #[v] 36 (0,0)):=by rw [← hW3]; exact (World.putObj_heap_other (by omega)).trans hv
    have hK3:W3.heap[W0.heap.size]?=some (.deferred (some [])):=by rw [← hW3]; exact (World.putObj_heap_other (by omega)).trans h2.K
    have hrow3:=hrow.kept hg3 (ownsRow_ne_a hrow h2.L (fun cur e=>by cases e))
    have hb3:Below w.heap.size w W3:=h2.below.grown hg3 h2.below.size (fun k e=>by cases e; omega)
    obtain ⟨hc3,hf3⟩:=cell_of_box_a hv3
    clear hW3
    refine ⟨none,W3,hend, ?_⟩
    gi_wp2
    rw [← hs0]
    refine ⟨by simp,.inl ⟨_,_,rfl,run_takeDeferred hK3, ?_⟩⟩
    exact ⟨_,results_tmp rfl _ _ _,v,ss,rfl,hS,hrow3.kept (grownBy_putObj_a _ _ _) (ownsRow_ne_a hrow3 hK3 (fun cur e=>by cases e)),hnil,hb3.grown (grownBy_putObj_a _ _ _) hb3.size (fun k e=>by cases e; omega)⟩
set_option maxHeartbeats 1000000 in
theorem collect_in (F:Fence) (n:Nat) (h8:F.fn 77) (h11:F.fn 111) (hro:F.round=none) (hn:3≤n) (g:Nat) (lb:Array Value) (hFg:F.fn g) (eg:∀ args w,(callFunc g args).run Tryz.prog w = .ok (.enter g args) w)
  (S:List Hd→Prop) (N:Nat) (hN:N≤maxLen) (hNb:N * 24≤140737488355328) (w:World) (hseq:SeqGives F (n - 1 - 1) Tryz.prog g lb enH S N w) :
  CallsIn F n Tryz.prog 77 #[.func (.func g) #[] lb] w fun e w'=>∃ (v:Value) (ss:List Hd),e = .returned v∧S ss∧w'.ownsRow w.heap.size 51 3 v ss.length (ss.flatMap enH3)∧(v = .slice none 0 0 ↔ ss=[])∧Below w.heap.size w w':=by
 have h1:1≤n:=by omega
 have e11:∀ args w,(callFunc 111 args).run Tryz.prog w = .ok (.enter 111 args) w:=enters_of Tryz.func111 (by kernel_rfl) rfl
 refine callsIn_of_wp Tryz.func77 rfl h8 ?_ hro
 simp only [Tryz.ntmps77,List.size_toArray,List.length_cons,List.length_nil,Nat.reduceAdd,Nat.reduceSub,Array.replicate_succ,Array.replicate_zero,List.push_toArray,List.append_toArray,List.nil_append,List.cons_append]
 gi_wp2_with (gi_at_fn 111; refine (appendSeq_in F (n - 1) h11 hro (by omega) g lb hFg eg S N hN hNb _ hseq).mono ?_; rintro e w' ⟨v,ss,rfl,hS,hrow,hnil,hb⟩)
 go_ret
 exact ⟨v,ss,rfl,hS,hrow,hnil,hb⟩
end Go.Proofs.YtakaalldbnklcaaGreat.Cr
namespace Go.Proofs.YtakaalldbnklcaaGreat.Cr
open Go.RowKit Go.WideShapes Go.ChangeShapes Go.ChangeAt Go.Deep
set_option linter.unusedVariables false
theorem info_pa:(Tryz.prog.info? 150).map (fun i=>(i.zero,i.size,i.bytes))=some (some (.agg #[.int .i64 0,.int .i64 0]),2,16):=by kernel_rfl
theorem info_rh:(Tryz.prog.info? 151).map (fun i=>(i.zero,i.size,i.bytes))=some (some (.agg #[.int .i64 0,.int .i64 0,.int .i64 0]),3,24):=by kernel_rfl
structure IsRef (base:Nat) (w:World) (R:Nat) (A1:Option Addr) (c1:Nat) (ps:List Pa) (A2:Option Addr) (c2:Nat) (hr:List Hd):Prop where
 blk:Blk w R 79 #[.slice A1 ps.length c1,.slice A2 hr.length c2]
 own1:w.ownsRow base 150 2 (.slice A1 ps.length c1) ps.length (ps.flatMap enP)
 own2:w.ownsRow base 151 3 (.slice A2 hr.length c2) hr.length (hr.flatMap enH3)
 lt:R < base
section
variable {base R c1 c2:Nat} {A1 A2:Option Addr} {ps:List Pa} {hr:List Hd} {w w':World}
theorem IsRef.next (h:IsRef base w R A1 c1 ps A2 c2 hr) (hb:Below w.heap.size w w'):IsRef base w' R A1 c1 ps A2 c2 hr :=
 ⟨h.blk.next hb,h.own1.kept (grown_of_below hb none) (by cases hv:(Value.slice A1 ps.length c1).ownBlock <;> simp),h.own2.kept (grown_of_below hb none) (by cases hv:(Value.slice A2 hr.length c2).ownBlock <;> simp),h.lt⟩
theorem IsRef.alloc (h:IsRef base w R A1 c1 ps A2 c2 hr) (o:Obj):IsRef base (w.alloc o) R A1 c1 ps A2 c2 hr:=h.next ((Below.refl _ _).alloc (Nat.le_refl _) o)
theorem IsRef.cell0 (h:IsRef base w R A1 c1 ps A2 c2 hr):w.cell? ⟨R,0,none⟩=some (.slice A1 ps.length c1):=h.blk.cell 0
theorem IsRef.cell1 (h:IsRef base w R A1 c1 ps A2 c2 hr):w.cell? ⟨R,1,none⟩=some (.slice A2 hr.length c2):=h.blk.cell 1
theorem IsRef.elem1 (h:IsRef base w R A1 c1 ps A2 c2 hr) {k:Nat} {y:Pa} (hk:ps[k]?=some y):∃ g,A1=some ⟨g,0,none⟩∧base≤g∧CellsAt w g (k * 2) (enP y):=by
 have hkl:=(List.getElem?_eq_some_iff.1 hk).1
 obtain ⟨g,cap',e,hb,hlt⟩:=own_form h.own1 (by omega)
 injection e with e1 e2 e3
 subst e1 e3
 exact ⟨g,rfl,hb,hlt,fun j u hu=>own_cells enP_len h.own1 hk hu⟩
theorem IsRef.elem2 (h:IsRef base w R A1 c1 ps A2 c2 hr) {k:Nat} {y:Hd} (hk:hr[k]?=some y):∃ g,A2=some ⟨g,0,none⟩∧base≤g∧CellsAt w g (k * 3) (enH3 y):=by
 have hkl:=(List.getElem?_eq_some_iff.1 hk).1
 obtain ⟨g,cap',e,hb,hlt⟩:=own_form h.own2 (by omega)
 injection e with e1 e2 e3
 subst e1 e3
 exact ⟨g,rfl,hb,hlt,fun j u hu=>own_cells enH3_len h.own2 hk hu⟩
set_option maxRecDepth 100000 in
set_option maxHeartbeats 4000000 in
theorem rfind_any (h:IsRef base w R A1 c1 ps A2 c2 hr) (id:Int) (hl:ps.length≤140737488355328) :
  Calls Tryz.prog 62 #[.pointer (some ⟨R,0,none⟩),.int .i64 id] w fun e w'=>e = .returned (.int .i64 (plc (isP id) ps))∧w=w':=by
 go_enter Tryz.func62,Tryz.ntmps62
 go_wp2_with fail
 go_loop [5] (fun i=>∃ k:Nat,k≤ps.length∧i = .int .i64 k∧Hid (∀ j y,j < k→ps[j]?=some y→isP id y=false)) (fun i=>ps.length - nOf i)
 case atStart=>exact ⟨0,Nat.zero_le _,rfl,hid (fun j y hj=>by omega)⟩
 case round =>
  obtain ⟨k,hk,rfl,hP⟩:=hrel
  have c0:=h.cell0
  by_cases hlt:k < ps.length
  ·obtain ⟨y,hy⟩:∃ y,ps[k]?=some y:=⟨ps[k],List.getElem?_eq_getElem hlt⟩
   obtain ⟨g,rfl,_,hpr⟩:=h.elem1 hy
   have HY:=hid hy
   obtain ⟨yi,yl⟩:=y
   have p0:w.cell? ⟨g,k * 2,none⟩=some (.int .i64 yi):=hpr.2 0 _ rfl
   clear hy hpr
   by_cases e:yi=id
   ·subst e
    have HV:=hid (plc_some (p:=isP yi) HY.out (by simp [isP]) hP.out)
    clear hP HY
    go_wp2_with fail
    go_ret
    rw [HV.out]; exact ⟨rfl,rfl⟩
   ·have b2:(yi == id)=false:=by simpa using e
    have HN:=hid (show isP id (⟨yi,yl⟩:Pa)=false from by simpa [isP] using e)
    clear e
    go_wp2_with fail
    go_round
    case rel=>exact ⟨k + 1,by omega,by go_num,hid (fun j z hj hz=>by
     by_cases e:j=k
     ·subst e; rw [HY.out] at hz; injection hz with hz; subst hz; exact HN.out
     ·exact hP.out j z (by omega) hz)⟩
    case measure=>simp [nOf]; omega
  ·have HV:=hid (plc_none (p:=isP id) (l:=ps) (fun y hy=>by
    obtain ⟨j,hj⟩:=List.mem_iff_getElem?.1 hy
    exact hP.out j y (by have:=(List.getElem?_eq_some_iff.1 hj).1; omega) hj))
   have hk':k=ps.length:=by omega
   subst hk'
   clear hP hk hlt
   go_wp2_with fail
   go_ret
   rw [HV.out]; exact ⟨rfl,rfl⟩
set_option maxRecDepth 100000 in
set_option maxHeartbeats 4000000 in
theorem rheldFor_any (h:IsRef base w R A1 c1 ps A2 c2 hr) (id:Int) (hl:hr.length≤140737488355328) :
  Calls Tryz.prog 203 #[.pointer (some ⟨R,0,none⟩),.int .i64 id] w fun e w'=>e = .returned (.int .i64 (plc (isO id) hr))∧w=w':=by
 go_enter Tryz.func203,Tryz.ntmps203
 go_wp2_with fail
 go_loop [5] (fun i=>∃ k:Nat,k≤hr.length∧i = .int .i64 k∧Hid (∀ j y,j < k→hr[j]?=some y→isO id y=false)) (fun i=>hr.length - nOf i)
 case atStart=>exact ⟨0,Nat.zero_le _,rfl,hid (fun j y hj=>by omega)⟩
 case round =>
  obtain ⟨k,hk,rfl,hP⟩:=hrel
  have c0:=h.cell1
  by_cases hlt:k < hr.length
  ·obtain ⟨y,hy⟩:∃ y,hr[k]?=some y:=⟨hr[k],List.getElem?_eq_getElem hlt⟩
   obtain ⟨g,rfl,_,hpr⟩:=h.elem2 hy
   have HY:=hid hy
   obtain ⟨yi,yc,ya⟩:=y
   have p0:w.cell? ⟨g,k * 3,none⟩=some (.int .i64 yi):=hpr.2 0 _ rfl
   clear hy hpr
   by_cases e:yi=id
   ·subst e
    have HV:=hid (plc_some (p:=isO yi) HY.out (by simp [isO]) hP.out)
    clear hP HY
    go_wp2_with fail
    go_ret
    rw [HV.out]; exact ⟨rfl,rfl⟩
   ·have b2:(yi == id)=false:=by simpa using e
    have HN:=hid (show isO id (⟨yi,yc,ya⟩:Hd)=false from by simpa [isO] using e)
    clear e
    go_wp2_with fail
    go_round
    case rel=>exact ⟨k + 1,by omega,by go_num,hid (fun j z hj hz=>by
     by_cases e:j=k
     ·subst e; rw [HY.out] at hz; injection hz with hz; subst hz; exact HN.out
     ·exact hP.out j z (by omega) hz)⟩
    case measure=>simp [nOf]; omega
  ·have HV:=hid (plc_none (p:=isO id) (l:=hr) (fun y hy=>by
    obtain ⟨j,hj⟩:=List.mem_iff_getElem?.1 hy
    exact hP.out j y (by have:=(List.getElem?_eq_some_iff.1 hj).1; omega) hj))
   have hk':k=hr.length:=by omega
   subst hk'
   clear hP hk hlt
   go_wp2_with fail
   go_ret
   rw [HV.out]; exact ⟨rfl,rfl⟩
theorem sumC_snoc {l:List Hd} {k:Nat} {y:Hd} (hk:l[k]?=some y) (c:Int):sumC (l.take (k + 1)) c=sumC (l.take k) c + (if y.c=c then y.a else 0):=by
 rw [List.take_add_one,hk,sumC_append]
 simp [sumC]
theorem sumC_take {l:List Hd} (hn:∀ d ∈ l,0≤d.a) (k:Nat) (c:Int):0≤sumC (l.take k) c∧sumC (l.take k) c≤sumC l c:=by
 have h1:=sumC_nonneg (l:=l.take k) (fun d hd=>hn d (List.mem_of_mem_take hd)) c
 have h2:=sumC_nonneg (l:=l.drop k) (fun d hd=>hn d (List.mem_of_mem_drop hd)) c
 have h3:=sumC_append (l.take k) (l.drop k) c
 rw [List.take_append_drop] at h3
 omega
set_option maxRecDepth 100000 in
set_option maxHeartbeats 4000000 in
theorem rexposure_any (h:IsRef base w R A1 c1 ps A2 c2 hr) (id:Int) (hl:hr.length≤140737488355328) (hn:∀ d ∈ hr,0≤d.a) (hs:sumC hr id≤1125899906842624) :
  Calls Tryz.prog 204 #[.pointer (some ⟨R,0,none⟩),.int .i64 id] w fun e w'=>e = .returned (.int .i64 (sumC hr id))∧w=w':=by
 have HS:=hid (And.intro hn hs)
 clear hn hs
 go_enter Tryz.func204,Tryz.ntmps204
 go_wp2_with fail
 go_loop [5,6] (fun n i=>∃ k:Nat,k≤hr.length∧i = .int .i64 k∧n = .int .i64 (sumC (hr.take k) id)) (fun _ i=>hr.length - nOf i)
 case atStart=>exact ⟨0,Nat.zero_le _,rfl,rfl⟩
 case round =>
  obtain ⟨k,hk,rfl,rfl⟩:=hrel
  have c0:=h.cell1
  by_cases hlt:k < hr.length
  ·obtain ⟨y,hy⟩:∃ y,hr[k]?=some y:=⟨hr[k],List.getElem?_eq_getElem hlt⟩
   obtain ⟨g,rfl,_,hpr⟩:=h.elem2 hy
   obtain ⟨yi,yc,ya⟩:=y
   have p1:w.cell? ⟨g,k * 3 + 1,none⟩=some (.int .i64 yc):=hpr.2 1 _ rfl
   have p2:w.cell? ⟨g,k * 3 + 2,none⟩=some (.int .i64 ya):=hpr.2 2 _ rfl
   obtain ⟨b1,b2⟩:=sumC_take HS.out.1 k id
   obtain ⟨b3,b4⟩:=sumC_take HS.out.1 (k + 1) id
   have b5:=HS.out.2
   have b6:=HS.out.1 _ (List.mem_of_getElem? hy)
   have HV:=sumC_snoc hy id
   simp only at HV b6
   clear hy hpr
   by_cases e:yc=id
   ·subst e
    rw [if_pos rfl] at HV
    have b7:0≤sumC (hr.take k) yc + ya:=by omega
    have b8:sumC (hr.take k) yc + ya≤1125899906842624:=by omega
    replace HV:=hid HV
    clear b1 b2 b3 b4 b5
    go_wp2_with fail
    go_round
    case rel=>exact ⟨k + 1,by omega,by go_num,by rw [HV.out]⟩
    case measure=>simp [nOf]; omega
   ·rw [if_neg e] at HV
    have b7:(yc == id)=false:=by simpa using e
    replace HV:=hid HV
    clear e b1 b2 b3 b4 b5
    go_wp2_with fail
    go_round
    case rel=>exact ⟨k + 1,by omega,by go_num,by rw [HV.out,Int.add_zero]⟩
    case measure=>simp [nOf]; omega
  ·have hk':k=hr.length:=by omega
   subst hk'
   clear hk hlt
   go_wp2_with fail
   go_ret
   exact ⟨rfl,rfl⟩
end
end Go.Proofs.YtakaalldbnklcaaGreat.Cr
