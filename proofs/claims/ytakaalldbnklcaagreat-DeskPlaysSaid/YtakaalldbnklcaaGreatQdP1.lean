/-
  The statement DeskPlays: for every input the law returns true. No condition.
-/
import Derived.Test.YtakaalldbnklcaaGreatQd23
namespace Go.Proofs.YtakaalldbnklcaaGreat.lawDeskPlays
open Go.ChangeShapes Go.WideShapes Go.ChangeAt Go.RowKit 
set_option linter.unusedVariables false
theorem own:ownKnob Tryz.prog.godebug=none:=by kernel_rfl
theorem laidOut:laidOutB Tryz.prog=true:=by kernel_rfl
set_option maxRecDepth 100000 in
theorem contract (H:Type) (enc:TypeId × Value→H) (W:World) (base:Nat) (args:Array Value) (ds gs:List (DataW H)) (before:List MemPlace)
  (hval:∀ (j:Nat) t v,Tryz.f4.params[j]?=some t→args[j]?=some v→Value.okWide Tryz.prog W .any base t v)
  (hW:DataW.Whole enc Tryz.prog Tryz.f4.params.toList Rows.deskPlaysSpec.vars false W args.toList ds gs before)
  (hsz:(DataW.weightsEach Tryz.prog (Tryz.f4.params.toList++Rows.deskPlaysSpec.plain.varTypes Tryz.prog) (ds++gs)).all (· ≤ reachBytes)=true) :
  Calls Tryz.prog 4 args W fun e W'=>∃ v,e = .returned v∧Rows.deskPlaysSpec.post enc Tryz.prog Tryz.f4 false true false false W args v W':=by
 have fin:∀ e W',Law W e W'→∃ v,e = .returned v∧Rows.deskPlaysSpec.post enc Tryz.prog Tryz.f4 false true false false W args v W' :=
  fun e W' h=>law_post laidOut rfl (fun ds hds=>by
   rw [Tryz.params4] at hds
   match ds,hds with
   | [d0],_=>exact ⟨rfl,rfl,rfl⟩) (by rw [Tryz.params4]; intro t ht; simp only [List.mem_cons,List.not_mem_nil,or_false] at ht; rcases ht with rfl <;> exact ⟨by kernel_rfl,of_decide_eq_true (by kernel_rfl)⟩) (by kernel_rfl) Tryz.underlying4 hW h
 obtain ⟨p,q,hA0,hV,rfl,hfz,hnd⟩:=hW
 have hA:DataW.TrodAll enc Tryz.prog W 0 (fun _=>true) true Tryz.f4.params.toList args.toList ds p:=hA0
 rw [Tryz.params4] at hA hval hsz
 obtain ⟨v0,vs0,d0,ds0,p0,q0,hargs,rfl,rfl,h0,r0⟩:=trodAll_cons hA
 obtain ⟨rfl,rfl,rfl⟩:=trodAll_nil r0
 obtain rfl:args=#[v0]:=by cases args; simp_all
 obtain ⟨rfl,rfl⟩:=trodVars_none hV
 obtain ⟨A0,len0,cap0,rfl⟩:=okWide_slice Tryz.underlying22 (hval 0 22 v0 rfl rfl)
 obtain ⟨fuel0,hf0⟩:=h0
 obtain ⟨A0',cap0',l0,hcs0,hR0,ok0,hr0⟩:=open_dops hf0 (fun y hy=>by simpa using List.all_eq_true.1 hsz _ (DataW.weights_mem_each (j:=0) rfl rfl y hy))
 simp [Value.cells] at hcs0
 obtain ⟨rfl,rfl,rfl⟩:=hcs0
 exact (deskPlays_walk l0 A0 cap0 W hR0 ok0 hr0).mono fin
set_option maxRecDepth 100000 in
theorem lifted (os:Os) (started:os.Started) (H:Type) (enc:TypeId × Value→H) :
  ReturnsInHanded {} Tryz.checked os 4 .any (Rows.deskPlaysSpec.pre6 enc Tryz.prog Tryz.f4 Rows.deskPlaysRow.domain false) (Rows.deskPlaysSpec.post enc Tryz.prog Tryz.f4 false true false false):=by
 refine returnsInHanded_of_change_sized (C:=Tryz.checked) own started (by kernel_rfl) Tryz.func4
  (ChangeSpec.witness6 (enc:=enc) (C:=Tryz.checked) false ⟨#[],#[.slice none 0 0],[]⟩ 8 (by kernel_rfl) (by kernel_rfl) (by kernel_rfl) (by kernel_rfl)) ?_
 intro W base args ds gs before hval hW _ hsz _
 exact contract H enc W base args ds gs before hval hW hsz
theorem proved:Rows.DeskPlaysSaid :=
 OpenClaim.holds_of_wide 4 Tryz.f4 rfl rfl rfl rfl rfl rfl rfl ⟨rfl,rfl,rfl,rfl,rfl⟩ rfl rfl rfl rfl rfl (by kernel_rfl) Tryz.func4 (by kernel_rfl)
  (of_decide_eq_true (by kernel_rfl)) (by unfold Func.isWrapper; rw [if_neg (of_decide_eq_false (by kernel_rfl))]; exact ⟨rfl,rfl⟩)
  (fun os started H enc _=>lifted os started H enc)
#print axioms proved
end Go.Proofs.YtakaalldbnklcaaGreat.lawDeskPlays
