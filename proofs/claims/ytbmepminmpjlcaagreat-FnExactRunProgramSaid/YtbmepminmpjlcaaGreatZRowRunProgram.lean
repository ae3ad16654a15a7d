/- The row of the law FnExactRunProgram: the program returns true for all arguments that can be read, which are left as they were. No further condition. -/
import Derived.Test.YtbmepminmpjlcaaGreatRows
import Derived.WalkKit
import Derived.ProofKit
import Derived.OpenShut
import Derived.ShutString
import Derived.ChangeOld
import Derived.Below
import Derived.SizedLaws
import Derived.Test.YtbmepminmpjlcaaGreatZhRowRunProgram
namespace Go.Proofs.YtbmepminmpjlcaaGreat.fnExactRunProgram
open Go.ChangeShapes Go.WideShapes Go.ChangeAt Go.RowKit
open Go.ChangeMaps (open_string shut_string)
open Go.TL (Qe.row GM.all)
set_option linter.unusedVariables false
theorem own:ownKnob Tryz.prog.godebug=none:=by kernel_rfl
theorem laidOut:laidOutB Tryz.prog=true:=by kernel_rfl
def tys:Tys Tryz.prog where
 tI:=3
 tB:=4
 tL:=22
 tLB:=23
 tC:=47
 tT:=28
 tK:=26
 tS:=25
 fT:=_
 fS:=_
 hI:=Tryz.underlying3
 hB:=Tryz.underlying4
 hL:=Tryz.underlying22
 hLB:=Tryz.underlying23
 hC:=Tryz.underlying47
 hT:=Tryz.underlying28
 hK:=Tryz.underlying26
 hS:=Tryz.underlying25
 cI:=by kernel_rfl
 cB:=by kernel_rfl
 cL:=by kernel_rfl
 cLB:=by kernel_rfl
 cT:=by kernel_rfl
 cK:=by kernel_rfl
 cS:=by kernel_rfl
 T0:=rfl
 T1:=rfl
 T2:=rfl
 T3:=rfl
 S0:=rfl
 S1:=rfl
 S2:=rfl
 S3:=rfl
set_option maxRecDepth 100000 in
theorem lifted (os:Os) (started:os.Started) (H:Type) (enc:TypeId×Value→H) :
  ReturnsInHanded {} Tryz.checked os 3 .any (Rows.fnExactRunProgramSpec.pre6 enc Tryz.prog Tryz.f3 Rows.fnExactRunProgramRow.domain false) (Rows.fnExactRunProgramSpec.post enc Tryz.prog Tryz.f3 false true false false):=by
 refine returnsInHanded_of_change_sized (C:=Tryz.checked) own started (by kernel_rfl) Tryz.func3
  (ChangeSpec.witness6 (enc:=enc) (C:=Tryz.checked) false ⟨#[],#[.agg #[.int .i64 0,.slice none 0 0,.slice none 0 0,.slice none 0 0],.agg #[.int .i64 0,.int .i64 0,.slice none 0 0,.slice none 0 0]],[]⟩ 8 (by kernel_rfl) (by kernel_rfl) (by kernel_rfl) (by kernel_rfl)) ?_
 intro W base args ds gs before hval0 hW hcnd hsz0 _
 have hval:∀ (j:Nat) t v,Tryz.f3.params[j]?=some t→args[j]?=some v→Value.okWide Tryz.prog W .any base t v:=hval0
 have hW':=hW
 obtain ⟨p,q,hA0,hV,rfl,hfz,hnd⟩:=hW
 have hA:DataW.TrodAll enc Tryz.prog W 0 (fun _=>true) true Tryz.f3.params.toList args.toList ds p:=hA0
 rw [Tryz.params3] at hA hval
 obtain ⟨v0,vs0,d0,ds0,p0,q0,hargs,rfl,rfl,h0,r0⟩:=trodAll_cons hA
 obtain ⟨v1,vs1,d1,ds1,p1,q1,rfl,rfl,rfl,h1,r1⟩:=trodAll_cons r0
 obtain ⟨rfl,rfl,rfl⟩:=trodAll_nil r1
 obtain rfl:args=#[v0,v1]:=by cases args;simp_all
 obtain ⟨rfl,rfl⟩:=trodVars_none hV
 have ok0:=hval 0 25 v0 rfl rfl
 have ok1:=hval 1 28 v1 rfl rfl
 obtain ⟨cs0,rfl⟩:∃ cs,v0=.agg cs:=by
  simp only [Value.okWide,Tryz.underlying25] at ok0
  obtain ⟨cs,h,_⟩:=ok0
  exact ⟨cs,h⟩
 obtain ⟨cs1,rfl⟩:∃ cs,v1=.agg cs:=by
  simp only [Value.okWide,Tryz.underlying28] at ok1
  obtain ⟨cs,h,_⟩:=ok1
  exact ⟨cs,h⟩
 have k0:=h0
 have k1:=h1
 have lt0:∀ x∈p0,x.block < W.heap.size:=by obtain ⟨m,hm⟩:=k0;exact DataW.trod_lt m _ _ _ hm
 have lt1:∀ x∈p1,x.block < W.heap.size:=by obtain ⟨m,hm⟩:=k1;exact DataW.trod_lt m _ _ _ hm
 obtain ⟨x0,raw0,w0⟩:∃ s:GSys,s.raw∧Zi W s.cells cs0.toList:=by
  obtain ⟨fuel,hf⟩:=h0
  exact rd_sys tys hf
 obtain ⟨x1,raw1,w1⟩:∃ t:GTerm,t.raw∧Zi W t.cells cs1.toList:=by
  obtain ⟨fuel,hf⟩:=h1
  exact rd_term tys _ hf
 clear hA0 hval0 hsz0
 have hg:=Qe.row (Zkv x0 x1 raw0 raw1) W [.agg cs0,.agg cs1] (by
  simp only [TL.RepVals]
  exact ⟨_,_,[],[],rfl,rfl,ZqK w0,_,_,[],[],rfl,rfl,ZqK w1,rfl,rfl⟩)
 refine hg.mono fun e W' ⟨he,hst,hsz,hblk⟩=>?_
 have bel:Below W.heap.size W W':=⟨hst.1,hst.2.1,hst.2.2,hsz,hblk⟩
 subst he
 exact ⟨_,rfl,_,_,_,[],_,[],hW',trodAll_mk1 (shut_bool Tryz.underlying4 _),(trodAll_cons_mk (Below.trod laidOut (by kernel_rfl) (of_decide_eq_true (by kernel_rfl)) k0 bel lt0) (trodAll_cons_mk (Below.trod laidOut (by kernel_rfl) (of_decide_eq_true (by kernel_rfl)) k1 bel lt1) trodAll_mk0)),rfl,bel.frame _,fun h=>by cases h⟩
theorem j0:(Rows.fnExactRunProgramRow.wf (OpenSpec.ofChange Rows.fnExactRunProgramSpec))=true:=by kernel_rfl
theorem j1:(laidOutB Tryz.pinned.checked.prog)=true:=by kernel_rfl
theorem j2:(mapsRowed Tryz.pinned.checked.prog)=true:=by kernel_rfl
theorem j3:(Tryz.f3.params.all (Tryz.pinned.checked.prog.readableRec ·))=true:=by kernel_rfl
theorem j4:(namedTie Tryz.pinned.checked.prog Rows.fnExactRunProgramRow.named Rows.fnExactRunProgramSpec.vars)=true:=by kernel_rfl
theorem j5:((Rows.fnExactRunProgramRow.stops == []))=true:=by kernel_rfl
theorem j6:((Tryz.pinned.checked.prog.stops == []))=true:=by kernel_rfl
theorem j7:((Rows.fnExactRunProgramRow.knobs == []))=true:=by kernel_rfl
theorem j8:((Tryz.pinned.checked.prog.stopKnobs == []))=true:=by kernel_rfl
theorem j9:((Rows.fnExactRunProgramRow.inPlace == Tryz.pinned.checked.prog.inPlace 3))=true:=by kernel_rfl
theorem j10:((Rows.fnExactRunProgramRow.unfollowed == Tryz.pinned.checked.prog.unfollowed 3))=true:=by kernel_rfl
theorem j11:((Rows.fnExactRunProgramRow.recurses == Tryz.pinned.checked.prog.recurses 3))=true:=by kernel_rfl
theorem j12:((Rows.fnExactRunProgramRow.named == Tryz.pinned.checked.prog.varsNamed 3))=true:=by kernel_rfl
theorem j13:((Rows.fnExactRunProgramRow.maps == (Tryz.f3.params.toList++Rows.fnExactRunProgramSpec.plain.varTypes Tryz.pinned.checked.prog).any (Tryz.pinned.checked.prog.mapsRec ·)))=true:=by kernel_rfl
theorem j14:((Rows.fnExactRunProgramRow.ifaces == (Tryz.f3.params.toList++Rows.fnExactRunProgramSpec.plain.varTypes Tryz.pinned.checked.prog).any (Tryz.pinned.checked.prog.ifacesRec ·)))=true:=by kernel_rfl
theorem j15:((Rows.fnExactRunProgramRow.mapsOut == Tryz.pinned.checked.prog.mapsAmong Tryz.f3.resultTypes.toList))=true:=by kernel_rfl
theorem j16:((Rows.fnExactRunProgramRow.loops == (Tryz.f3.params.toList++Rows.fnExactRunProgramSpec.plain.varTypes Tryz.pinned.checked.prog).any (Tryz.pinned.checked.prog.loopsFrom ·)))=true:=by kernel_rfl
theorem j17:((Rows.fnExactRunProgramRow.wideKeys == (Tryz.f3.params.toList++Rows.fnExactRunProgramSpec.plain.varTypes Tryz.pinned.checked.prog++Tryz.f3.resultTypes.toList).any (Tryz.pinned.checked.prog.wideKeysFrom ·)))=true:=by kernel_rfl
theorem j18:(Rows.fnExactRunProgramSpec.vars.all (Tryz.pinned.checked.prog.varReadable ·))=true:=by kernel_rfl
theorem j19:(Tryz.f3.resultTypes.all (fun t=>Tryz.pinned.checked.prog.readableRec t && decide (t < Tryz.pinned.checked.prog.types.size)))=true:=by kernel_rfl
theorem j20:((Rows.fnExactRunProgramRow.ifacesOut == Tryz.f3.resultTypes.toList.any (Tryz.pinned.checked.prog.ifacesRec ·)))=true:=by kernel_rfl
theorem j21:((Rows.fnExactRunProgramRow.loopsOut == Tryz.f3.resultTypes.toList.any (Tryz.pinned.checked.prog.loopsFrom ·)))=true:=by kernel_rfl
theorem j22:((Rows.fnExactRunProgramRow.plainKeys == Tryz.pinned.checked.prog.plainKeys))=true:=by kernel_rfl
theorem j23:(Rows.fnExactRunProgramRow.shortTexts.isNone)=true:=by kernel_rfl
theorem j24:(Tryz.pinned.checked.prog.stopsHeard)=true:=by kernel_rfl
theorem j25:(Tryz.pinned.checked.prog.mayEnter)=true:=by kernel_rfl
theorem j26:((Rows.fnExactRunProgramRow.lifted == Tryz.pinned.checked.prog.liftsFinal))=true:=by kernel_rfl
theorem j27:((Tryz.pinned.checked.prog.make == some Rows.fnExactRunProgramRow.make))=true:=by kernel_rfl
theorem j28:((Rows.fnExactRunProgramRow.kinds == (if Rows.fnExactRunProgramRow.domain.isEmpty then [] else Tryz.f3.params.toList.map fun t=>match Tryz.pinned.checked.prog.underlying t with | some (.int k)=>some k | _=>none)))=true:=by kernel_rfl
theorem j29:((Rows.fnExactRunProgramRow.pinned == Rows.fnExactRunProgramRow.pinnedBy))=true:=by kernel_rfl
theorem j30:((Rows.fnExactRunProgramRow.veiled == (Tryz.f3.params.toList++Rows.fnExactRunProgramSpec.plain.varTypes Tryz.pinned.checked.prog++Tryz.f3.resultTypes.toList).any (Tryz.pinned.checked.prog.veiledRec ·)))=true:=by kernel_rfl
theorem j31:(Rows.fnExactRunProgramRow.veiledFits Tryz.pinned.checked.prog Tryz.f3.params.toList (Tryz.f3.params.toList++Rows.fnExactRunProgramSpec.plain.varTypes Tryz.pinned.checked.prog++Tryz.f3.resultTypes.toList))=true:=by kernel_rfl
theorem named:Tryz.pinned.checked.prog.funcNamed Rows.fnExactRunProgramRow.func=some 3:=by kernel_rfl
set_option maxRecDepth 100000 in
theorem closed:joinedFacts Tryz.pinned.checked.prog 3 Tryz.f3 Rows.fnExactRunProgramSpec Rows.fnExactRunProgramRow=true:=by
 simp only [joinedFacts,Bool.and_eq_true]
 exact ⟨⟨⟨⟨⟨⟨⟨⟨⟨⟨⟨⟨⟨⟨⟨⟨⟨⟨⟨⟨⟨⟨⟨⟨⟨⟨⟨⟨⟨⟨⟨j0,j1⟩,j2⟩,j3⟩,j4⟩,j5⟩,j6⟩,j7⟩,j8⟩,j9⟩,j10⟩,j11⟩,j12⟩,j13⟩,j14⟩,j15⟩,j16⟩,j17⟩,j18⟩,j19⟩,j20⟩,j21⟩,j22⟩,j23⟩,j24⟩,j25⟩,j26⟩,j27⟩,j28⟩,j29⟩,j30⟩,j31⟩
theorem inst:Tryz.f3.isInstance Tryz.pinned.checked.prog Rows.fnExactRunProgramRow.origin Rows.fnExactRunProgramRow.targs:=of_decide_eq_true (by kernel_rfl)
theorem over:Rows.fnExactRunProgramRow.holds Tryz.pinned (OpenSpec.ofChange Rows.fnExactRunProgramSpec) :=
 OpenClaim.holds_of_wide 3 Tryz.f3 rfl rfl rfl rfl rfl rfl rfl ⟨rfl,rfl,rfl,rfl,rfl⟩ rfl rfl rfl rfl rfl named Tryz.func3 closed
  inst (by unfold Func.isWrapper;first | (rw [if_pos (by decide +kernel)];kernel_rfl) | (rw [if_neg (by decide +kernel)];exact ⟨rfl,rfl⟩))
  (fun os started H enc _=>lifted os started H enc)
theorem proved:Rows.FnExactRunProgramSaid:=over
end Go.Proofs.YtbmepminmpjlcaaGreat.fnExactRunProgram
namespace Go.Proofs.YtbmepminmpjlcaaGreat
theorem fnExactRunProgram_holds:Rows.FnExactRunProgramSaid:=fnExactRunProgram.proved
#print axioms fnExactRunProgram_holds
end Go.Proofs.YtbmepminmpjlcaaGreat
