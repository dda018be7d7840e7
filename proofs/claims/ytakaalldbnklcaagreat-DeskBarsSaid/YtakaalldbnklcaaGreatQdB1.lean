/-
  The statement DeskBars: for every input the law returns true. No condition.
-/
import Derived.Test.YtakaalldbnklcaaGreatQd23
import Derived.Test.YtakaalldbnklcaaGreatQd24
namespace Go.Proofs.YtakaalldbnklcaaGreat.lawDeskBars
open Go.ChangeShapes Go.WideShapes Go.ChangeAt Go.RowKit 
set_option linter.unusedVariables false
theorem own:ownKnob Tryz.prog.godebug=none:=by kernel_rfl
theorem laidOut:laidOutB Tryz.prog=true:=by kernel_rfl
set_option maxRecDepth 100000 in
theorem contract (H:Type) (enc:TypeId × Value→H) (W:World) (base:Nat) (args:Array Value) (ds gs:List (DataW H)) (before:List MemPlace)
  (hval:∀ (j:Nat) t v,Tryz.f6.params[j]?=some t→args[j]?=some v→Value.okWide Tryz.prog W .any base t v)
  (hW:DataW.Whole enc Tryz.prog Tryz.f6.params.toList Rows.deskBarsSpec.vars false W args.toList ds gs before)
  (hsz:(DataW.weightsEach Tryz.prog (Tryz.f6.params.toList++Rows.deskBarsSpec.plain.varTypes Tryz.prog) (ds++gs)).all (· ≤ reachBytes)=true) :
  Calls Tryz.prog 6 args W fun e W'=>∃ v,e = .returned v∧Rows.deskBarsSpec.post enc Tryz.prog Tryz.f6 false true false false W args v W':=by
 have fin:∀ e W',Law W e W'→∃ v,e = .returned v∧Rows.deskBarsSpec.post enc Tryz.prog Tryz.f6 false true false false W args v W' :=
  fun e W' h=>law_post laidOut rfl (fun ds hds=>by
   rw [Tryz.params6] at hds
   match ds,hds with
   | [d0,d1],_=>exact ⟨rfl,rfl,rfl⟩) (by rw [Tryz.params6]; intro t ht; simp only [List.mem_cons,List.not_mem_nil,or_false] at ht; rcases ht with rfl | rfl <;> exact ⟨by kernel_rfl,of_decide_eq_true (by kernel_rfl)⟩) (by kernel_rfl) Tryz.underlying4 hW h
 obtain ⟨p,q,hA0,hV,rfl,hfz,hnd⟩:=hW
 have hA:DataW.TrodAll enc Tryz.prog W 0 (fun _=>true) true Tryz.f6.params.toList args.toList ds p:=hA0
 rw [Tryz.params6] at hA hval hsz
 obtain ⟨v0,vs0,d0,ds0,p0,q0,hargs,rfl,rfl,h0,r0⟩:=trodAll_cons hA
 obtain ⟨v1,vs1,d1,ds1,p1,q1,rfl,rfl,rfl,h1,r1⟩:=trodAll_cons r0
 obtain ⟨rfl,rfl,rfl⟩:=trodAll_nil r1
 obtain rfl:args=#[v0,v1]:=by cases args; simp_all
 obtain ⟨rfl,rfl⟩:=trodVars_none hV
 obtain ⟨A0,len0,cap0,rfl⟩:=okWide_slice Tryz.underlying22 (hval 0 22 v0 rfl rfl)
 obtain ⟨fuel0,hf0⟩:=h0
 obtain ⟨A0',cap0',l0,hcs0,hR0,ok0,hr0⟩:=open_dops hf0 (fun y hy=>by simpa using List.all_eq_true.1 hsz _ (DataW.weights_mem_each (j:=0) rfl rfl y hy))
 simp [Value.cells] at hcs0
 obtain ⟨rfl,rfl,rfl⟩:=hcs0
 obtain ⟨cs1,rfl,hcz1⟩:=okWide_struct Tryz.underlying31 (hval 1 31 v1 rfl rfl)
 obtain ⟨fuel1,hf1⟩:=h1
 obtain ⟨x1,hx1,ok1⟩:=open_dop fuel1 cs1.toList _ (Array.length_toList.trans (hcz1.trans (by kernel_rfl))) hf1 (fun y hy=>by simpa using List.all_eq_true.1 hsz _ (DataW.weights_mem_each (j:=1) rfl rfl y hy))
 obtain rfl:cs1=(enDo x1).toArray:=by rw [← hx1]
 exact (deskBars_walk l0 A0 cap0 x1 W hR0 ok0 hr0 ok1).mono fin
set_option maxRecDepth 100000 in
theorem lifted (os:Os) (started:os.Started) (H:Type) (enc:TypeId × Value→H) :
  ReturnsInHanded {} Tryz.checked os 6 .any (Rows.deskBarsSpec.pre6 enc Tryz.prog Tryz.f6 Rows.deskBarsRow.domain false) (Rows.deskBarsSpec.post enc Tryz.prog Tryz.f6 false true false false):=by
 refine returnsInHanded_of_change_sized (C:=Tryz.checked) own started (by kernel_rfl) Tryz.func6
  (ChangeSpec.witness6 (enc:=enc) (C:=Tryz.checked) false ⟨#[],#[.slice none 0 0,.agg #[.int .i64 0,.int .i64 0,.int .i64 0,.int .i64 0,.string ByteArray.empty,.bool false,.slice none 0 0]],[]⟩ 8 (by kernel_rfl) (by kernel_rfl) (by kernel_rfl) (by kernel_rfl)) ?_
 intro W base args ds gs before hval hW _ hsz _
 exact contract H enc W base args ds gs before hval hW hsz
theorem proved:Rows.DeskBarsSaid :=
 OpenClaim.holds_of_wide 6 Tryz.f6 rfl rfl rfl rfl rfl rfl rfl ⟨rfl,rfl,rfl,rfl,rfl⟩ rfl rfl rfl rfl rfl (by kernel_rfl) Tryz.func6 (by kernel_rfl)
  (of_decide_eq_true (by kernel_rfl)) (by unfold Func.isWrapper; rw [if_neg (of_decide_eq_false (by kernel_rfl))]; exact ⟨rfl,rfl⟩)
  (fun os started H enc _=>lifted os started H enc)
#print axioms proved
end Go.Proofs.YtakaalldbnklcaaGreat.lawDeskBars
