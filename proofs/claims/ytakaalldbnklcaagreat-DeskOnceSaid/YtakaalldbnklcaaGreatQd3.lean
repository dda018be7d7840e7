/-
  The closure of a library function, laid at this program (the numbers as the kit's command told them). No condition.
  Maps whose keys are strings; a map literal's insert.
  The desk: which service a verb has.
  Structs of scalars compared: a struct is equal to itself.
  The closure of a library function, laid at this program (the numbers as the kit's command told them). No condition.
  The closure of a library function, laid at this program (the numbers as the kit's command told them). No condition.
  Arguments with depth: slices whose elements are structs with slices in them; how long each is. No program, no condition.
-/
import Derived.Test.YtakaalldbnklcaaGreatQd1
import Derived.Test.YtakaalldbnklcaaGreatQd2
import Derived.Shelf.SlLaysM
import Derived.Test.YtakaalldbnklcaaGreatProg
import Derived.Laws.StructEq
import Derived.RegionTactic
import Derived.Shelf.SlLaysF0
import Derived.Shelf.SlSortCmp.WholeK
namespace Go.Proofs
open Go.Shelf
def Tryz.sortI_ren:Go.Shelf.Ren:=⟨fun | 5=>82 | 8=>113 | 7=>115 | 19=>155 | 20=>156 | 10=>157 | 11=>158 | 12=>159 | 13=>160 | 14=>161 | 15=>162 | 16=>163 | 17=>164 | 18=>165 | 30=>214 | 31=>210 | 32=>211 | 33=>215 | 34=>216 | 35=>80 | 40=>237 | n=>n,fun | 23=>23 | 25=>3 | 3=>3 | 32=>265 | 22=>23 | 0=>0 | 44=>299 | 46=>301 | 4=>4 | 36=>293 | 35=>292 | 41=>247 | 5=>5 | 9=>9 | 53=>333 | 57=>337 | 63=>352 | 64=>172 | n=>n,fun | n=>n⟩
theorem Tryz.sortI:SlLaysM.n5 Tryz.prog Tryz.sortI_ren:={
 mixed:=by kernel_rfl
 f5:=⟨Tryz.f82.name,by decide,Tryz.func82.trans (congrArg some (by kernel_rfl))⟩
 f7:=⟨Tryz.f115.name,by decide,Tryz.func115.trans (congrArg some (by kernel_rfl))⟩
 f8:=Tryz.func113.trans (congrArg some (by kernel_rfl))
 f10:=⟨Tryz.f157.name,by decide,Tryz.func157.trans (congrArg some (by kernel_rfl))⟩
 f11:=⟨Tryz.f158.name,by decide,Tryz.func158.trans (congrArg some (by kernel_rfl))⟩
 f12:=⟨Tryz.f159.name,by decide,Tryz.func159.trans (congrArg some (by kernel_rfl))⟩
 f13:=⟨Tryz.f160.name,by decide,Tryz.func160.trans (congrArg some (by kernel_rfl))⟩
 f14:=⟨Tryz.f161.name,by decide,Tryz.func161.trans (congrArg some (by kernel_rfl))⟩
 f15:=⟨Tryz.f162.name,by decide,Tryz.func162.trans (congrArg some (by kernel_rfl))⟩
 f16:=⟨Tryz.f163.name,by decide,Tryz.func163.trans (congrArg some (by kernel_rfl))⟩
 f17:=⟨Tryz.f164.name,by decide,Tryz.func164.trans (congrArg some (by kernel_rfl))⟩
 f18:=⟨Tryz.f165.name,by decide,Tryz.func165.trans (congrArg some (by kernel_rfl))⟩
 f19:=Tryz.func155.trans (congrArg some (by kernel_rfl))
 f20:=Tryz.func156.trans (congrArg some (by kernel_rfl))
 f30:=⟨Tryz.f214.name,by decide,Tryz.func214.trans (congrArg some (by kernel_rfl))⟩
 f31:=Tryz.func210.trans (congrArg some (by kernel_rfl))
 f32:=Tryz.func211.trans (congrArg some (by kernel_rfl))
 f33:=⟨Tryz.f215.name,by decide,Tryz.func215.trans (congrArg some (by kernel_rfl))⟩
 f34:=⟨Tryz.f216.name,by decide,Tryz.func216.trans (congrArg some (by kernel_rfl))⟩
 f35:=⟨Tryz.f80.name,by decide,Tryz.func80.trans (congrArg some (by kernel_rfl))⟩
 f40:=⟨Tryz.f237.name,by decide,Tryz.func237.trans (congrArg some (by kernel_rfl))⟩
 t0:=Tryz.underlying0
 a0:=Tryz.isAgg0
 z0:=Tryz.sizeOf0
 v0:=Tryz.zeroValue0
 t3:=Tryz.underlying3
 a3:=Tryz.isAgg3
 z3:=Tryz.sizeOf3
 v3:=Tryz.zeroValue3
 t4:=Tryz.underlying4
 a4:=Tryz.isAgg4
 z4:=Tryz.sizeOf4
 v4:=Tryz.zeroValue4
 t5:=Tryz.underlying5
 a5:=Tryz.isAgg5
 z5:=Tryz.sizeOf5
 v5:=Tryz.zeroValue5
 t9:=Tryz.underlying9
 a9:=Tryz.isAgg9
 z9:=Tryz.sizeOf9
 v9:=Tryz.zeroValue9
 t22:=Tryz.underlying23
 a22:=Tryz.isAgg23
 z22:=Tryz.sizeOf23
 v22:=Tryz.zeroValue23
 t23:=Tryz.underlying23
 a23:=Tryz.isAgg23
 z23:=Tryz.sizeOf23
 v23:=Tryz.zeroValue23
 t25:=Tryz.underlying3
 a25:=Tryz.isAgg3
 z25:=Tryz.sizeOf3
 v25:=Tryz.zeroValue3
 t32:=Tryz.underlying265
 a32:=Tryz.isAgg265
 z32:=Tryz.sizeOf265
 v32:=Tryz.zeroValue265
 t35:=Tryz.underlying292
 a35:=Tryz.isAgg292
 z35:=Tryz.sizeOf292
 v35:=Tryz.zeroValue292
 t36:=Tryz.underlying293
 a36:=Tryz.isAgg293
 z36:=Tryz.sizeOf293
 v36:=Tryz.zeroValue293
 t41:=Tryz.underlying247
 a41:=Tryz.isAgg247
 z41:=Tryz.sizeOf247
 v41:=Tryz.zeroValue247
 t44:=Tryz.underlying299
 a44:=Tryz.isAgg299
 z44:=Tryz.sizeOf299
 v44:=Tryz.zeroValue299
 t46:=Tryz.underlying301
 a46:=Tryz.isAgg301
 z46:=Tryz.sizeOf301
 v46:=Tryz.zeroValue301
 t53:=Tryz.underlying333
 a53:=Tryz.isAgg333
 z53:=Tryz.sizeOf333
 v53:=Tryz.zeroValue333
 t57:=Tryz.underlying337
 a57:=Tryz.isAgg337
 z57:=Tryz.sizeOf337
 v57:=Tryz.zeroValue337
 t63:=Tryz.underlying352
 a63:=Tryz.isAgg352
 z63:=Tryz.sizeOf352
 v63:=Tryz.zeroValue352
 t64:=Tryz.underlying172
 a64:=Tryz.isAgg172
 z64:=Tryz.sizeOf172
 v64:=Tryz.zeroValue172
}
end Go.Proofs
namespace Go.Proofs.YtakaalldbnklcaaGreat
open Go.RowKit
set_option linter.unusedVariables false
section
variable {P:Program} {κ ν:Type} [DecidableEq κ] {kE:κ→Value} {vE:ν→Value} {w:World}
theorem bytes_beq (a b:ByteArray):(a == b)=decide (a=b):=by
 rw [beq_toListBytes,ByteArray.toList_eq,ByteArray.toList_eq]
 obtain ⟨⟨x⟩⟩:=a
 obtain ⟨⟨y⟩⟩:=b
 by_cases e:x=y
 ·subst e; simp
 ·have:¬ (ByteArray.mk ⟨x⟩=ByteArray.mk ⟨y⟩):=fun h=>e (by injection h with h; injection h)
  simp [e,this]
def kS (s:ByteArray):Value:=.string s
theorem strKey {kt:TypeId} (hu:P.underlying kt=some .string):KeyLaw P kt kS:=by
 refine keyLaw_of ?_ ?_ ?_ hu ?_
 ·intro e a w
  show (Instr.checkKey e (9999 + 1) kt (.string a)).run P w=_
  unfold Instr.checkKey
  simp [run_underlying hu]
 ·intro a b w
  show (Op.equalIn (9999 + 1) kt (.string a) (.string b)).run P w=_
  rw [run_equalIn_string (P:=P) (w:=w) 9999 kt a b hu, ← beq_toListBytes,bytes_beq]
 ·intro a w
  show (Instr.keyThatStays (.string a) (.string a)).run P w=_
  unfold Instr.keyThatStays
  simp [Instr.sameBits,bytes_beq,kS]
 ·intro a b
  right
  simp [Instr.sameNow,kS,bytes_beq]
end
end Go.Proofs.YtakaalldbnklcaaGreat
namespace Go.Proofs.YtakaalldbnklcaaGreat
open Go.RowKit Go.WideShapes Go.ChangeShapes Go.ChangeAt Go.Deep
set_option linter.unusedVariables false
def vId (v:Value):Value:=v
theorem zeroSv (w:World):(zeroValue 230).run Tryz.prog w = .ok .nilFunc w:=by kernel_rfl
theorem keyStr:KeyLaw Tryz.prog 9 kS:=strKey Tryz.underlying9
def vb0:ByteArray:=⟨#[99,114,101,100,105,116,46,104,111,108,100]⟩
def vb1:ByteArray:=⟨#[99,114,101,100,105,116,46,114,101,108,101,97,115,101]⟩
def vb2:ByteArray:=⟨#[99,114,101,100,105,116,46,99,108,101,97,114]⟩
def vb3:ByteArray:=⟨#[115,116,111,99,107,46,97,108,108,111,99,97,116,101]⟩
def vb4:ByteArray:=⟨#[115,116,111,99,107,46,102,114,101,101]⟩
def vb5:ByteArray:=⟨#[115,116,111,99,107,46,115,104,105,112]⟩
def vb6:ByteArray:=⟨#[115,116,111,99,107,46,114,101,115,116,111,99,107]⟩
def vb7:ByteArray:=⟨#[115,116,111,99,107,46,116,97,107,101,98,97,99,107]⟩
def vb8:ByteArray:=⟨#[98,105,108,108,46,105,110,118,111,105,99,101]⟩
def vb9:ByteArray:=⟨#[98,105,108,108,46,99,114,101,100,105,116]⟩
def vb10:ByteArray:=⟨#[98,105,108,108,46,109,101,109,111]⟩
def vb11:ByteArray:=⟨#[99,97,115,104,46,114,101,102,117,110,100]⟩
def svc (s:ByteArray):Nat:=if s=vb0 then 1 else if s=vb1 then 2 else if s=vb2 then 2 else if s=vb3 then 3 else if s=vb4 then 4 else if s=vb5 then 5 else if s=vb6 then 6 else if s=vb7 then 6 else if s=vb8 then 7 else if s=vb9 then 8 else if s=vb10 then 8 else if s=vb11 then 9 else 0
def svcIs (k:Nat) (w:World) (v:Value):Prop :=
 (k=0∧v = .nilFunc)∨(k=1∧v = .func (.func 116) #[] #[])∨(k=3∧v = .func (.func 120) #[] #[])∨(k=7∧v = .func (.func 125) #[] #[]) ∨
 ∃ (g:Nat) (u:Value),v = .func (.func 167) #[] #[.pointer (some ⟨g,0,none⟩)]∧Blk w g 270 #[u] ∧
  ((k=2∧u = .func (.func 119) #[] #[])∨(k=4∧u = .func (.func 122) #[] #[])∨(k=5∧u = .func (.func 123) #[] #[])∨(k=6∧u = .func (.func 124) #[] #[])∨(k=8∧u = .func (.func 127) #[] #[])∨(k=9∧u = .func (.func 128) #[] #[]))
theorem svcIs.touch {S:Nat→Prop} {k:Nat} {w w':World} {v:Value} (h:svcIs k w v) (ht:Touch S w w') (hS:∀ g cs,Blk w g 270 cs→¬ S g):svcIs k w' v:=by
 rcases h with h | h | h | h | ⟨g,u,h1,h2,h3⟩
 ·exact .inl h
 ·exact .inr (.inl h)
 ·exact .inr (.inr (.inl h))
 ·exact .inr (.inr (.inr (.inl h)))
 ·exact .inr (.inr (.inr (.inr ⟨g,u,h1,ht.blk h2 (hS g _ h2),h3⟩)))
theorem plain_any (n:FuncId) (w:World):Calls Tryz.prog 118 #[.func (.func n) #[] #[]] w fun e w'=>e = .returned (.func (.func 167) #[] #[.pointer (some ⟨w.heap.size,0,none⟩)])∧Blk w' w.heap.size 270 #[.func (.func n) #[] #[]]∧Below w.heap.size w w':=by
 have hmf:∀ (fn:Fn) (first cap:Array Value) (w:World),(Instr.makeFunc fn first cap).run Tryz.prog w = .ok (.func fn first cap) w:=fun _ _ _ _=>rfl
 go_enter Tryz.func118,Tryz.ntmps118
 go_wp2_with fail
 go_ret
 exact ⟨rfl,Blk.new _ _ _,(Below.refl _ _).alloc (Nat.le_refl _) _⟩
structure FM (w0 w:World) (B:Nat) (m:List (ByteArray × Value)):Prop where
 mp:IsMap w B kS vId m
 ok:∀ k v,mget m k=some v→svcIs (svc k) w v
 keys:∀ k,svc k ≠ 0→k ∈ m.map (·.1)∨True
 bel:Below w0.heap.size w0 w
 lo:w0.heap.size≤B
theorem FM.next {w0 w w':World} {B:Nat} {m:List (ByteArray × Value)} (h:FM w0 w B m) (hb:Below w.heap.size w w'):FM w0 w' B m :=
 ⟨h.mp.next hb,fun k v hv=>(h.ok k v hv).touch (S:=fun _=>False) (.of_below hb) (fun _ _ _ h=>h),h.keys,bthen h.bel hb,h.lo⟩
theorem FM.put {w0 w w':World} {B:Nat} {m:List (ByteArray × Value)} {k:ByteArray} {v:Value} (h:FM w0 w B m) (hM:IsMap w' B kS vId (mset m k v)) (hg:w.grownBy w' (some B)) (hv:svcIs (svc k) w v):FM w0 w' B (mset m k v):=by
 have hS:∀ g cs,Blk w g 270 cs→¬ g=B:=fun g cs hb e=>h.mp.notBlk hb e.symm
 refine ⟨hM,fun k' v' hv' => ?_,fun _ _ => .inr trivial,h.bel.trans (grown_below hg h.bel.size h.lo),h.lo⟩
 rw [mget_mset] at hv'
 split at hv'
 ·rename_i e
  injection hv' with hv'
  subst hv' e
  exact hv.touch (Touch.of_grown hg) hS
 ·exact (h.ok k' v' hv').touch (Touch.of_grown hg) hS
set_option maxRecDepth 100000 in
set_option maxHeartbeats 8000000 in
theorem find_any (s:ByteArray) (w:World):Calls Tryz.prog 84 #[.string s] w fun e w'=>∃ v,e = .returned v∧svcIs (svc s) w' v∧Below w.heap.size w w':=by
 have hmm:=@run_makeMap Tryz.prog
 have hF0:FM w (w.alloc (.map #[] 0)) w.heap.size []:=⟨IsMap.made w kS vId,fun _ _ h=>by simp [mget] at h,fun _ _ => .inr trivial,(Below.refl _ _).alloc (Nat.le_refl _) _,Nat.le_refl _⟩
 have hwB:=hF0.lo
 obtain ⟨w0',hr0,hM0,hg0,hs0⟩:=hF0.mp.store (P:=Tryz.prog) (mt:=273) (et:=230) keyStr Tryz.underlying273 vb0 (.func (.func 116) #[] #[])
 have hF0':=hF0.put hM0 hg0 (show svcIs (svc vb0) _ _ from .inr (.inl ⟨by decide,rfl⟩))
 simp only [kS,vId] at hr0
 rw [vb0] at hr0
 clear hM0 hg0 hs0
 go_enter Tryz.func84,Tryz.ntmps84
 go_wp2_with fail
 clear hr0
 refine (plain_any _ _).mono ?_
 rintro e w1 ⟨rfl,hBk1,hb1⟩
 have hG1:=hF0'.next hb1
 obtain ⟨w1',hr1,hM1,hg1,hs1⟩:=hG1.mp.store (P:=Tryz.prog) (mt:=273) (et:=230) keyStr Tryz.underlying273 vb1 (.func (.func 167) #[] #[.pointer (some ⟨w0'.heap.size,0,none⟩)])
 have hF1':=hG1.put hM1 hg1 (show svcIs (svc vb1) _ _ from .inr (.inr (.inr (.inr ⟨_,_,rfl,hBk1,.inl ⟨by decide,rfl⟩⟩))))
 simp only [kS,vId] at hr1
 rw [vb1] at hr1
 clear hM1 hg1 hs1 hBk1 hb1 hG1
 go_wp2_with fail
 clear hr1
 refine (plain_any _ _).mono ?_
 rintro e w2 ⟨rfl,hBk2,hb2⟩
 have hG2:=hF1'.next hb2
 obtain ⟨w2',hr2,hM2,hg2,hs2⟩:=hG2.mp.store (P:=Tryz.prog) (mt:=273) (et:=230) keyStr Tryz.underlying273 vb2 (.func (.func 167) #[] #[.pointer (some ⟨w1'.heap.size,0,none⟩)])
 have hF2':=hG2.put hM2 hg2 (show svcIs (svc vb2) _ _ from .inr (.inr (.inr (.inr ⟨_,_,rfl,hBk2,.inl ⟨by decide,rfl⟩⟩))))
 simp only [kS,vId] at hr2
 rw [vb2] at hr2
 clear hM2 hg2 hs2 hBk2 hb2 hG2
 obtain ⟨w3',hr3,hM3,hg3,hs3⟩:=hF2'.mp.store (P:=Tryz.prog) (mt:=273) (et:=230) keyStr Tryz.underlying273 vb3 (.func (.func 120) #[] #[])
 have hF3':=hF2'.put hM3 hg3 (show svcIs (svc vb3) _ _ from .inr (.inr (.inl ⟨by decide,rfl⟩)))
 simp only [kS,vId] at hr3
 rw [vb3] at hr3
 clear hM3 hg3 hs3
 go_wp2_with fail
 clear hr2 hr3
 refine (plain_any _ _).mono ?_
 rintro e w4 ⟨rfl,hBk4,hb4⟩
 have hG4:=hF3'.next hb4
 obtain ⟨w4',hr4,hM4,hg4,hs4⟩:=hG4.mp.store (P:=Tryz.prog) (mt:=273) (et:=230) keyStr Tryz.underlying273 vb4 (.func (.func 167) #[] #[.pointer (some ⟨w3'.heap.size,0,none⟩)])
 have hF4':=hG4.put hM4 hg4 (show svcIs (svc vb4) _ _ from .inr (.inr (.inr (.inr ⟨_,_,rfl,hBk4,.inr (.inl ⟨by decide,rfl⟩)⟩))))
 simp only [kS,vId] at hr4
 rw [vb4] at hr4
 clear hM4 hg4 hs4 hBk4 hb4 hG4
 go_wp2_with fail
 clear hr4
 refine (plain_any _ _).mono ?_
 rintro e w5 ⟨rfl,hBk5,hb5⟩
 have hG5:=hF4'.next hb5
 obtain ⟨w5',hr5,hM5,hg5,hs5⟩:=hG5.mp.store (P:=Tryz.prog) (mt:=273) (et:=230) keyStr Tryz.underlying273 vb5 (.func (.func 167) #[] #[.pointer (some ⟨w4'.heap.size,0,none⟩)])
 have hF5':=hG5.put hM5 hg5 (show svcIs (svc vb5) _ _ from .inr (.inr (.inr (.inr ⟨_,_,rfl,hBk5,.inr (.inr (.inl ⟨by decide,rfl⟩))⟩))))
 simp only [kS,vId] at hr5
 rw [vb5] at hr5
 clear hM5 hg5 hs5 hBk5 hb5 hG5
 go_wp2_with fail
 clear hr5
 refine (plain_any _ _).mono ?_
 rintro e w6 ⟨rfl,hBk6,hb6⟩
 have hG6:=hF5'.next hb6
 obtain ⟨w6',hr6,hM6,hg6,hs6⟩:=hG6.mp.store (P:=Tryz.prog) (mt:=273) (et:=230) keyStr Tryz.underlying273 vb6 (.func (.func 167) #[] #[.pointer (some ⟨w5'.heap.size,0,none⟩)])
 have hF6':=hG6.put hM6 hg6 (show svcIs (svc vb6) _ _ from .inr (.inr (.inr (.inr ⟨_,_,rfl,hBk6,.inr (.inr (.inr (.inl ⟨by decide,rfl⟩)))⟩))))
 simp only [kS,vId] at hr6
 rw [vb6] at hr6
 clear hM6 hg6 hs6 hBk6 hb6 hG6
 go_wp2_with fail
 clear hr6
 refine (plain_any _ _).mono ?_
 rintro e w7 ⟨rfl,hBk7,hb7⟩
 have hG7:=hF6'.next hb7
 obtain ⟨w7',hr7,hM7,hg7,hs7⟩:=hG7.mp.store (P:=Tryz.prog) (mt:=273) (et:=230) keyStr Tryz.underlying273 vb7 (.func (.func 167) #[] #[.pointer (some ⟨w6'.heap.size,0,none⟩)])
 have hF7':=hG7.put hM7 hg7 (show svcIs (svc vb7) _ _ from .inr (.inr (.inr (.inr ⟨_,_,rfl,hBk7,.inr (.inr (.inr (.inl ⟨by decide,rfl⟩)))⟩))))
 simp only [kS,vId] at hr7
 rw [vb7] at hr7
 clear hM7 hg7 hs7 hBk7 hb7 hG7
 obtain ⟨w8',hr8,hM8,hg8,hs8⟩:=hF7'.mp.store (P:=Tryz.prog) (mt:=273) (et:=230) keyStr Tryz.underlying273 vb8 (.func (.func 125) #[] #[])
 have hF8':=hF7'.put hM8 hg8 (show svcIs (svc vb8) _ _ from .inr (.inr (.inr (.inl ⟨by decide,rfl⟩))))
 simp only [kS,vId] at hr8
 rw [vb8] at hr8
 clear hM8 hg8 hs8
 go_wp2_with fail
 clear hr7 hr8
 refine (plain_any _ _).mono ?_
 rintro e w9 ⟨rfl,hBk9,hb9⟩
 have hG9:=hF8'.next hb9
 obtain ⟨w9',hr9,hM9,hg9,hs9⟩:=hG9.mp.store (P:=Tryz.prog) (mt:=273) (et:=230) keyStr Tryz.underlying273 vb9 (.func (.func 167) #[] #[.pointer (some ⟨w8'.heap.size,0,none⟩)])
 have hF9':=hG9.put hM9 hg9 (show svcIs (svc vb9) _ _ from .inr (.inr (.inr (.inr ⟨_,_,rfl,hBk9,.inr (.inr (.inr (.inr (.inl ⟨by decide,rfl⟩))))⟩))))
 simp only [kS,vId] at hr9
 rw [vb9] at hr9
 clear hM9 hg9 hs9 hBk9 hb9 hG9
 go_wp2_with fail
 clear hr9
 refine (plain_any _ _).mono ?_
 rintro e w10 ⟨rfl,hBk10,hb10⟩
 have hG10:=hF9'.next hb10
 obtain ⟨w10',hr10,hM10,hg10,hs10⟩:=hG10.mp.store (P:=Tryz.prog) (mt:=273) (et:=230) keyStr Tryz.underlying273 vb10 (.func (.func 167) #[] #[.pointer (some ⟨w9'.heap.size,0,none⟩)])
 have hF10':=hG10.put hM10 hg10 (show svcIs (svc vb10) _ _ from .inr (.inr (.inr (.inr ⟨_,_,rfl,hBk10,.inr (.inr (.inr (.inr (.inl ⟨by decide,rfl⟩))))⟩))))
 simp only [kS,vId] at hr10
 rw [vb10] at hr10
 clear hM10 hg10 hs10 hBk10 hb10 hG10
 go_wp2_with fail
 clear hr10
 refine (plain_any _ _).mono ?_
 rintro e w11 ⟨rfl,hBk11,hb11⟩
 have hG11:=hF10'.next hb11
 obtain ⟨w11',hr11,hM11,hg11,hs11⟩:=hG11.mp.store (P:=Tryz.prog) (mt:=273) (et:=230) keyStr Tryz.underlying273 vb11 (.func (.func 167) #[] #[.pointer (some ⟨w10'.heap.size,0,none⟩)])
 have hF11':=hG11.put hM11 hg11 (show svcIs (svc vb11) _ _ from .inr (.inr (.inr (.inr ⟨_,_,rfl,hBk11,.inr (.inr (.inr (.inr (.inr (⟨by decide,rfl⟩)))))⟩))))
 simp only [kS,vId] at hr11
 rw [vb11] at hr11
 clear hM11 hg11 hs11 hBk11 hb11 hG11
 have hlk:=hF11'.mp.look keyStr Tryz.underlying273 (zeroSv _) s
 rw [show looked Value.nilFunc vId _ s=looked Value.nilFunc vId _ s from rfl] at hlk
 simp only [kS] at hlk
 have HF:=hid hF11'
 go_wp2_with fail
 clear hr11
 clear hlk
 go_ret
 refine ⟨_,rfl, ?_,HF.out.bel⟩
 unfold looked
 split
 ·rename_i v hv
  exact HF.out.ok s v hv
 ·rename_i hv
  refine .inl ⟨?_,rfl⟩
  simp only [mget_mset] at hv
  unfold svc
  by_cases e0:s=vb0
  ·simp [e0,vb0,vb1,vb2,vb3,vb4,vb5,vb6,vb7,vb8,vb9,vb10,vb11] at hv
  rw [if_neg e0]
  by_cases e1:s=vb1
  ·simp [e1,vb1,vb2,vb3,vb4,vb5,vb6,vb7,vb8,vb9,vb10,vb11] at hv
  rw [if_neg e1]
  by_cases e2:s=vb2
  ·simp [e2,vb2,vb3,vb4,vb5,vb6,vb7,vb8,vb9,vb10,vb11] at hv
  rw [if_neg e2]
  by_cases e3:s=vb3
  ·simp [e3,vb3,vb4,vb5,vb6,vb7,vb8,vb9,vb10,vb11] at hv
  rw [if_neg e3]
  by_cases e4:s=vb4
  ·simp [e4,vb4,vb5,vb6,vb7,vb8,vb9,vb10,vb11] at hv
  rw [if_neg e4]
  by_cases e5:s=vb5
  ·simp [e5,vb5,vb6,vb7,vb8,vb9,vb10,vb11] at hv
  rw [if_neg e5]
  by_cases e6:s=vb6
  ·simp [e6,vb6,vb7,vb8,vb9,vb10,vb11] at hv
  rw [if_neg e6]
  by_cases e7:s=vb7
  ·simp [e7,vb7,vb8,vb9,vb10,vb11] at hv
  rw [if_neg e7]
  by_cases e8:s=vb8
  ·simp [e8,vb8,vb9,vb10,vb11] at hv
  rw [if_neg e8]
  by_cases e9:s=vb9
  ·simp [e9,vb9,vb10,vb11] at hv
  rw [if_neg e9]
  by_cases e10:s=vb10
  ·simp [e10,vb10,vb11] at hv
  rw [if_neg e10]
  by_cases e11:s=vb11
  ·simp [e11,vb11] at hv
  rw [if_neg e11]
end Go.Proofs.YtakaalldbnklcaaGreat
namespace Go.Proofs.YtakaalldbnklcaaGreat
open Go.RowKit
set_option linter.unusedVariables false
theorem eqFields_same {P:Program} {d:Nat} {xs:Array Value}:∀ (fs:List Field),(∀ f ∈ fs,∃ v,(∀ w,(part f.type xs f.offset).run P w = .ok v w)∧∀ w,(Op.equalIn d f.type v v).run P w = .ok true w)→∀ w,(Op.eqFields d xs xs fs).run P w = .ok true w
 | [],_,w=>by simp [Op.eqFields]
 | f :: fs,h,w=>by
  obtain ⟨v,h1,h2⟩:=h f (by simp)
  simp only [Op.eqFields]
  split
  ·simp [h1,h2]
   exact eqFields_same fs (fun g hg=>h g (by simp [hg])) w
  ·exact eqFields_same fs (fun g hg=>h g (by simp [hg])) w
def SameAt (P:Program) (xs:Array Value) (q:TypeId × Nat):Prop:=∃ v,(∀ w,(part q.1 xs q.2).run P w = .ok v w)∧∀ w,(Op.equalIn 9999 q.1 v v).run P w = .ok true w
theorem sameAt_int {P:Program} {xs:Array Value} {t:TypeId} {o:Nat} {k k':IntKind} {n:Int} (hu:P.underlying t=some (.int k')) (ha:∀ w,(isAgg t).run P w = .ok false w) (hx:xs[o]?=some (.int k n)):SameAt P xs (t,o) :=
 ⟨.int k n,fun w=>by unfold part; simp [ha,hx],fun w=>by
  have:=run_equalIn_int (P:=P) w 9998 t k k' n n hu
  simpa using this⟩
theorem sameAt_bool {P:Program} {xs:Array Value} {t:TypeId} {o:Nat} {b:Bool} (hu:P.underlying t=some .bool) (ha:∀ w,(isAgg t).run P w = .ok false w) (hx:xs[o]?=some (.bool b)):SameAt P xs (t,o) :=
 ⟨.bool b,fun w=>by unfold part; simp [ha,hx],fun w=>by
  have:=run_equalIn_bool' (P:=P) w 9998 t b b hu
  simpa using this⟩
theorem agg_same {P:Program} {t:TypeId} {xs:Array Value} {L:List (TypeId × Nat)} (ht:P.underlying t=some (.struct (P.fieldsOf t))) (hp:P.stoodInHeld t=false) (hL:(P.fieldsOf t).toList.map (fun f=>(f.type,f.offset))=L) (h:∀ q ∈ L,SameAt P xs q) (w:World) :
  (Op.equalIn 10000 t (.agg xs) (.agg xs)).run P w = .ok true w:=by
 have:=run_equalIn_struct (P:=P) w 9999 t xs xs ht hp
 rw [this]
 refine eqFields_same _ (fun f hf => ?_) w
 exact h (f.type,f.offset) (by rw [← hL]; exact List.mem_map.2 ⟨f,hf,rfl⟩)
end Go.Proofs.YtakaalldbnklcaaGreat
namespace Go.Proofs
open Go.Shelf
def Tryz.sortHd_ren:Go.Shelf.Ren:=⟨fun | 6=>78 | 15=>113 | 14=>112 | 28=>155 | 29=>156 | 20=>147 | 21=>148 | 22=>149 | 23=>150 | 24=>151 | 25=>152 | 26=>153 | 27=>154 | 46=>209 | 47=>210 | 48=>211 | 49=>212 | 50=>213 | 57=>236 | n=>n,fun | 22=>36 | 24=>51 | 25=>121 | 3=>3 | 39=>265 | 0=>0 | 53=>299 | 55=>301 | 4=>4 | 46=>293 | 45=>292 | 50=>247 | 5=>5 | 9=>9 | 66=>333 | 70=>337 | 76=>352 | 77=>172 | n=>n,fun | n=>n⟩
theorem Tryz.sortHd:SlLaysF0.n6 Tryz.prog Tryz.sortHd_ren:={
 mixed:=by kernel_rfl
 f6:=⟨Tryz.f78.name,by decide,Tryz.func78.trans (congrArg some (by kernel_rfl))⟩
 f14:=⟨Tryz.f112.name,by decide,Tryz.func112.trans (congrArg some (by kernel_rfl))⟩
 f15:=Tryz.func113.trans (congrArg some (by kernel_rfl))
 f20:=⟨Tryz.f147.name,by decide,Tryz.func147.trans (congrArg some (by kernel_rfl))⟩
 f21:=⟨Tryz.f148.name,by decide,Tryz.func148.trans (congrArg some (by kernel_rfl))⟩
 f22:=⟨Tryz.f149.name,by decide,Tryz.func149.trans (congrArg some (by kernel_rfl))⟩
 f23:=⟨Tryz.f150.name,by decide,Tryz.func150.trans (congrArg some (by kernel_rfl))⟩
 f24:=⟨Tryz.f151.name,by decide,Tryz.func151.trans (congrArg some (by kernel_rfl))⟩
 f25:=⟨Tryz.f152.name,by decide,Tryz.func152.trans (congrArg some (by kernel_rfl))⟩
 f26:=⟨Tryz.f153.name,by decide,Tryz.func153.trans (congrArg some (by kernel_rfl))⟩
 f27:=⟨Tryz.f154.name,by decide,Tryz.func154.trans (congrArg some (by kernel_rfl))⟩
 f28:=Tryz.func155.trans (congrArg some (by kernel_rfl))
 f29:=Tryz.func156.trans (congrArg some (by kernel_rfl))
 f46:=⟨Tryz.f209.name,by decide,Tryz.func209.trans (congrArg some (by kernel_rfl))⟩
 f47:=Tryz.func210.trans (congrArg some (by kernel_rfl))
 f48:=Tryz.func211.trans (congrArg some (by kernel_rfl))
 f49:=⟨Tryz.f212.name,by decide,Tryz.func212.trans (congrArg some (by kernel_rfl))⟩
 f50:=⟨Tryz.f213.name,by decide,Tryz.func213.trans (congrArg some (by kernel_rfl))⟩
 f57:=⟨Tryz.f236.name,by decide,Tryz.func236.trans (congrArg some (by kernel_rfl))⟩
 t0:=Tryz.underlying0
 a0:=Tryz.isAgg0
 z0:=Tryz.sizeOf0
 v0:=Tryz.zeroValue0
 t3:=Tryz.underlying3
 a3:=Tryz.isAgg3
 z3:=Tryz.sizeOf3
 v3:=Tryz.zeroValue3
 t4:=Tryz.underlying4
 a4:=Tryz.isAgg4
 z4:=Tryz.sizeOf4
 v4:=Tryz.zeroValue4
 t5:=Tryz.underlying5
 a5:=Tryz.isAgg5
 z5:=Tryz.sizeOf5
 v5:=Tryz.zeroValue5
 t9:=Tryz.underlying9
 a9:=Tryz.isAgg9
 z9:=Tryz.sizeOf9
 v9:=Tryz.zeroValue9
 t22:=Tryz.underlying36
 a22:=Tryz.isAgg36
 z22:=Tryz.sizeOf36
 v22:=Tryz.zeroValue36
 t25:=Tryz.underlying121
 a25:=Tryz.isAgg121
 z25:=Tryz.sizeOf121
 v25:=Tryz.zeroValue121
 t39:=Tryz.underlying265
 a39:=Tryz.isAgg265
 z39:=Tryz.sizeOf265
 v39:=Tryz.zeroValue265
 t45:=Tryz.underlying292
 a45:=Tryz.isAgg292
 z45:=Tryz.sizeOf292
 v45:=Tryz.zeroValue292
 t46:=Tryz.underlying293
 a46:=Tryz.isAgg293
 z46:=Tryz.sizeOf293
 v46:=Tryz.zeroValue293
 t50:=Tryz.underlying247
 a50:=Tryz.isAgg247
 z50:=Tryz.sizeOf247
 v50:=Tryz.zeroValue247
 t53:=Tryz.underlying299
 a53:=Tryz.isAgg299
 z53:=Tryz.sizeOf299
 v53:=Tryz.zeroValue299
 t55:=Tryz.underlying301
 a55:=Tryz.isAgg301
 z55:=Tryz.sizeOf301
 v55:=Tryz.zeroValue301
 t66:=Tryz.underlying333
 a66:=Tryz.isAgg333
 z66:=Tryz.sizeOf333
 v66:=Tryz.zeroValue333
 t70:=Tryz.underlying337
 a70:=Tryz.isAgg337
 z70:=Tryz.sizeOf337
 v70:=Tryz.zeroValue337
 t76:=Tryz.underlying352
 a76:=Tryz.isAgg352
 z76:=Tryz.sizeOf352
 v76:=Tryz.zeroValue352
 t77:=Tryz.underlying172
 a77:=Tryz.isAgg172
 z77:=Tryz.sizeOf172
 v77:=Tryz.zeroValue172
}
end Go.Proofs
namespace Go.Proofs
open Go.Shelf
def Tryz.sortEnt_ren:Go.Shelf.Ren:=⟨fun | 6=>94 | 15=>113 | 14=>133 | 28=>155 | 29=>156 | 20=>195 | 21=>196 | 22=>197 | 23=>198 | 24=>199 | 25=>200 | 26=>201 | 27=>202 | 46=>233 | 47=>210 | 48=>211 | 49=>234 | 50=>235 | 57=>240 | n=>n,fun | 22=>145 | 24=>170 | 25=>244 | 3=>3 | 39=>265 | 0=>0 | 53=>299 | 55=>301 | 4=>4 | 46=>293 | 45=>292 | 50=>247 | 5=>5 | 9=>9 | 66=>333 | 70=>337 | 76=>352 | 77=>172 | n=>n,fun | n=>n⟩
theorem Tryz.sortEnt:SlLaysF0.n6 Tryz.prog Tryz.sortEnt_ren:={
 mixed:=by kernel_rfl
 f6:=⟨Tryz.f94.name,by decide,Tryz.func94.trans (congrArg some (by kernel_rfl))⟩
 f14:=⟨Tryz.f133.name,by decide,Tryz.func133.trans (congrArg some (by kernel_rfl))⟩
 f15:=Tryz.func113.trans (congrArg some (by kernel_rfl))
 f20:=⟨Tryz.f195.name,by decide,Tryz.func195.trans (congrArg some (by kernel_rfl))⟩
 f21:=⟨Tryz.f196.name,by decide,Tryz.func196.trans (congrArg some (by kernel_rfl))⟩
 f22:=⟨Tryz.f197.name,by decide,Tryz.func197.trans (congrArg some (by kernel_rfl))⟩
 f23:=⟨Tryz.f198.name,by decide,Tryz.func198.trans (congrArg some (by kernel_rfl))⟩
 f24:=⟨Tryz.f199.name,by decide,Tryz.func199.trans (congrArg some (by kernel_rfl))⟩
 f25:=⟨Tryz.f200.name,by decide,Tryz.func200.trans (congrArg some (by kernel_rfl))⟩
 f26:=⟨Tryz.f201.name,by decide,Tryz.func201.trans (congrArg some (by kernel_rfl))⟩
 f27:=⟨Tryz.f202.name,by decide,Tryz.func202.trans (congrArg some (by kernel_rfl))⟩
 f28:=Tryz.func155.trans (congrArg some (by kernel_rfl))
 f29:=Tryz.func156.trans (congrArg some (by kernel_rfl))
 f46:=⟨Tryz.f233.name,by decide,Tryz.func233.trans (congrArg some (by kernel_rfl))⟩
 f47:=Tryz.func210.trans (congrArg some (by kernel_rfl))
 f48:=Tryz.func211.trans (congrArg some (by kernel_rfl))
 f49:=⟨Tryz.f234.name,by decide,Tryz.func234.trans (congrArg some (by kernel_rfl))⟩
 f50:=⟨Tryz.f235.name,by decide,Tryz.func235.trans (congrArg some (by kernel_rfl))⟩
 f57:=⟨Tryz.f240.name,by decide,Tryz.func240.trans (congrArg some (by kernel_rfl))⟩
 t0:=Tryz.underlying0
 a0:=Tryz.isAgg0
 z0:=Tryz.sizeOf0
 v0:=Tryz.zeroValue0
 t3:=Tryz.underlying3
 a3:=Tryz.isAgg3
 z3:=Tryz.sizeOf3
 v3:=Tryz.zeroValue3
 t4:=Tryz.underlying4
 a4:=Tryz.isAgg4
 z4:=Tryz.sizeOf4
 v4:=Tryz.zeroValue4
 t5:=Tryz.underlying5
 a5:=Tryz.isAgg5
 z5:=Tryz.sizeOf5
 v5:=Tryz.zeroValue5
 t9:=Tryz.underlying9
 a9:=Tryz.isAgg9
 z9:=Tryz.sizeOf9
 v9:=Tryz.zeroValue9
 t22:=Tryz.underlying145
 a22:=Tryz.isAgg145
 z22:=Tryz.sizeOf145
 v22:=Tryz.zeroValue145
 t25:=Tryz.underlying244
 a25:=Tryz.isAgg244
 z25:=Tryz.sizeOf244
 v25:=Tryz.zeroValue244
 t39:=Tryz.underlying265
 a39:=Tryz.isAgg265
 z39:=Tryz.sizeOf265
 v39:=Tryz.zeroValue265
 t45:=Tryz.underlying292
 a45:=Tryz.isAgg292
 z45:=Tryz.sizeOf292
 v45:=Tryz.zeroValue292
 t46:=Tryz.underlying293
 a46:=Tryz.isAgg293
 z46:=Tryz.sizeOf293
 v46:=Tryz.zeroValue293
 t50:=Tryz.underlying247
 a50:=Tryz.isAgg247
 z50:=Tryz.sizeOf247
 v50:=Tryz.zeroValue247
 t53:=Tryz.underlying299
 a53:=Tryz.isAgg299
 z53:=Tryz.sizeOf299
 v53:=Tryz.zeroValue299
 t55:=Tryz.underlying301
 a55:=Tryz.isAgg301
 z55:=Tryz.sizeOf301
 v55:=Tryz.zeroValue301
 t66:=Tryz.underlying333
 a66:=Tryz.isAgg333
 z66:=Tryz.sizeOf333
 v66:=Tryz.zeroValue333
 t70:=Tryz.underlying337
 a70:=Tryz.isAgg337
 z70:=Tryz.sizeOf337
 v70:=Tryz.zeroValue337
 t76:=Tryz.underlying352
 a76:=Tryz.isAgg352
 z76:=Tryz.sizeOf352
 v76:=Tryz.zeroValue352
 t77:=Tryz.underlying172
 a77:=Tryz.isAgg172
 z77:=Tryz.sizeOf172
 v77:=Tryz.zeroValue172
}
end Go.Proofs
namespace Go.Proofs.YtakaalldbnklcaaGreat
open Go.ChangeShapes Go.WideShapes Go.ChangeAt Go.RowKit Go.Deep
set_option linter.unusedVariables false
section
variable {H:Type} {enc:TypeId × Value→H} {P:Program} {w:World} {base:Nat} {spare:Nat→Bool} {held:Bool}
theorem weightsAll_mem {e:TypeId} {d:DataW H} {y:Nat}:∀ {l:List (DataW H)},d ∈ l→y ∈ d.weights P e→y ∈ DataW.weightsAll P e l
 | [],h,_=>by cases h
 | c :: l,h,hy=>by
  simp only [DataW.weightsAll,List.mem_append]
  rcases List.mem_cons.1 h with rfl | h
  ·exact .inl hy
  ·exact .inr (weightsAll_mem h hy)
theorem weights_elem {t e:TypeId} {elems sp:List (DataW H)} {d:DataW H} {y:Nat} (ht:P.underlying t=some (.slice e)) (hd:d ∈ elems) (hy:y ∈ d.weights P e):y ∈ (DataW.slice elems sp).weights P t:=by
 simp only [DataW.weights,ht,List.mem_cons,List.mem_append]
 exact .inr (.inl (weightsAll_mem hd hy))
theorem weights_len {t e:TypeId} {elems sp:List (DataW H)} (ht:P.underlying t=some (.slice e)):(elems.length + sp.length) * P.bytesOf e ∈ (DataW.slice elems sp).weights P t:=by
 simp [DataW.weights,ht]
theorem weights_field {t:TypeId} {fs:Array Field} {parts:List (DataW H)} {j:Nat} {f:Field} {d:DataW H} {y:Nat} (ht:P.underlying t=some (.struct fs)) (hf:fs[j]?=some f) (hd:parts[j]?=some d) (hy:y ∈ d.weights P f.type):y ∈ (DataW.agg parts).weights P t:=by
 simp only [DataW.weights,ht]
 exact DataW.weights_mem_each (by rw [List.getElem?_map]; simp [hf]) hd y hy
def Reach (P:Program) (t:TypeId) (d:DataW H):Prop:=∀ y ∈ d.weights P t,y≤reachBytes
theorem open_fields {t:TypeId} {fs:Array Field} (ht:P.underlying t=some (.struct fs)) (hone:oneCellFields P fs=true) {fuel:Nat} {cs:List Value} {x:DataW H × List MemPlace} (hl:cs.length=fs.size) (h:DataW.trod enc P w base spare held fuel t cs=some x) :
  ∃ (n:Nat) (ys:List (DataW H × List MemPlace)),x.1 = .agg (ys.map (·.1))∧ys.length=fs.size∧∀ (j:Nat) (f:Field),fs[j]?=some f→∃ u y,cs[j]?=some u∧ys[j]?=some y∧DataW.trod enc P w base spare held n f.type [u]=some y:=by
 obtain ⟨ys,n',hn',hy,hlen,hyl,hf⟩:=DataW.trod_struct ht h
 refine ⟨n',ys,by rw [hy],hyl,fun j f hfj => ?_⟩
 have hjs:j < fs.size:=(Array.getElem?_eq_some_iff.1 hfj).1
 obtain ⟨ho,hk1⟩:=hone_of hone j _ hfj
 have h1:=hf j _ hfj
 rw [ho,hk1] at h1
 have hjl:j < cs.length:=by omega
 have hone':(cs.drop j).take 1=[cs[j]]:=by
  rw [List.drop_eq_getElem_cons hjl]; rfl
 have hjy:j < ys.length:=by omega
 rw [hone',List.getElem?_eq_getElem hjy] at h1
 exact ⟨cs[j],ys[j],List.getElem?_eq_getElem hjl,List.getElem?_eq_getElem hjy,h1⟩
theorem open_rows {α:Type} {en:α→List Value} {Q:α→Prop} {G:DataW H→Prop} {t e:TypeId} {n:Nat} (hn:∀ a,(en a).length=n) (hpos:0 < n) (hC:P.cellsOf e=n) (ht:P.underlying t=some (.slice e))
  (helem:∀ (fuel:Nat) (cs:List Value) (x:DataW H × List MemPlace),cs.length=n→DataW.trod enc P w base spare held fuel e cs=some x→G x.1→∃ a,cs=en a∧Q a)
  {fuel:Nat} {cs:List Value} {x:DataW H × List MemPlace} (h:DataW.trod enc P w base spare held fuel t cs=some x) (hG:∀ elems sp,x.1 = .slice elems sp→∀ d ∈ elems,G d) :
  ∃ (A:Option Addr) (cap:Nat) (l:List α),cs=[.slice A l.length cap]∧Rd w A (l.flatMap en)∧(∀ a ∈ l,Q a)∧(l.length=0∨∃ elems sp,x.1 = .slice elems sp∧elems.length=l.length):=by
 rcases open_slice ht h with ⟨h0,_⟩ | ⟨a,len,cap,m,k,D,Pl,hcs,hb,hl,hm,hmm,hx,hi⟩
 ·exact ⟨none,0,[],h0,.inl rfl,fun a ha=>(by cases ha),.inl rfl⟩
 ·have hlm:len≤m:=by rw [hmm]; split <;> omega
  rw [hC] at hi
  have hx1:x.1 = .slice ((List.range len).map D) ((List.range (m - len)).map fun j=>D (len + j)):=by rw [hx]
  have each:∀ i,i < len→∃ y:α,(∀ j,j < n→w.cell? (a.add (i * n + j))=(en y)[j]?)∧Q y:=by
   intro i hil
   obtain ⟨cs',hc,ht'⟩:=hi i (by omega)
   obtain ⟨_,hcl,hat⟩:=World.cells?_some hc
   obtain ⟨y,rfl,hq⟩:=helem _ _ _ hcl ht' (hG _ _ hx1 _ (List.mem_map.2 ⟨i,List.mem_range.2 hil,rfl⟩))
   exact ⟨y,fun j hj=>by rw [← hat j hj,Go.Deep.add_add],hq⟩
  rcases Nat.eq_zero_or_pos len with h0 | h0
  ·subst h0
   exact ⟨some a,cap,[],by simpa using hcs,.inl rfl,fun a ha=>(by cases ha),.inl rfl⟩
  ·obtain ⟨y0,_⟩:=each 0 h0
   have:Inhabited α:=⟨y0⟩
   obtain ⟨f,hf⟩:=choose_lt (α:=α) each
   refine ⟨some a,cap,(List.range len).map f,by simpa using hcs, ?_, ?_,.inr ⟨_,_,hx1,by simp⟩⟩
   ·right
    obtain ⟨b,off,spot⟩:=a
    have hsp:spot=none:=cells_none (a:=⟨b,off,spot⟩) (n:=n) (cs:=en (f 0)) hpos (fun j hj=>by have:=(hf 0 h0).1 j hj; simpa using this) (hn _)
    subst hsp
    have e0:=(hf 0 h0).1 0 hpos
    rw [List.getElem?_eq_getElem (by rw [hn]; exact hpos)] at e0
    refine ⟨b,off,rfl,by simpa [Addr.add] using World.block_lt_of_cell? _ _ e0,fun j u hu => ?_⟩
    have hjl:j < len * n:=by
     have:=(List.getElem?_eq_some_iff.1 hu).1
     rw [length_flatMap_const en n hn] at this
     simpa using this
    have hq:j / n < len:=Nat.div_lt_of_lt_mul (by rw [Nat.mul_comm]; exact hjl)
    have hr:j % n < n:=Nat.mod_lt _ hpos
    have e1:=getElem?_flatMap en n hn ((List.range len).map f) (j / n) (f (j / n)) (by simp [hq]) (j % n) hr
    rw [Nat.mul_comm,Nat.div_add_mod] at e1
    rw [e1] at hu
    have e2:=(hf (j / n) hq).1 (j % n) hr
    rw [hu,Nat.mul_comm,Nat.div_add_mod] at e2
    simpa [add_plain] using e2
   ·intro y hy
    obtain ⟨i,hi',rfl⟩:=List.mem_map.1 hy
    exact (hf i (List.mem_range.1 hi')).2
end
end Go.Proofs.YtakaalldbnklcaaGreat
