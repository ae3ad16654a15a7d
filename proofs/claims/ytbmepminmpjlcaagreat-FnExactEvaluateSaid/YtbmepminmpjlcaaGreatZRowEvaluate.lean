/- The row of the law FnExactEvaluate: the program returns true for all arguments that can be read, which are left as they were. No further condition. -/
import Derived.Test.YtbmepminmpjlcaaGreatRows
import Derived.WalkKit
import Derived.ProofKit
import Derived.OpenShut
import Derived.ShutString
import Derived.ChangeOld
import Derived.Below
import Derived.SizedLaws
import Derived.Test.YtbmepminmpjlcaaGreatZhRowEvaluate
namespace Go.Proofs.YtbmepminmpjlcaaGreat.fnExactEvaluate
open Go.ChangeShapes Go.WideShapes Go.ChangeAt Go.RowKit
open Go.ChangeMaps (open_string shut_string)
open Go.TL (Qe.row GM.all)
set_option linter.unusedVariables false
theorem own:ownKnob Tryz.prog.godebug=none:=by kernel_rfl
theorem laidOut:laidOutB Tryz.prog=true:=by kernel_rfl
def tys:Tys Tryz.prog where
 tI:=3
 tB:=4
 tL:=22
 tLB:=23
 tC:=47
 tT:=28
 tK:=26
 tS:=25
 fT:=_
 fS:=_
 hI:=Tryz.underlying3
 hB:=Tryz.underlying4
 hL:=Tryz.underlying22
 hLB:=Tryz.underlying23
 hC:=Tryz.underlying47
 hT:=Tryz.underlying28
 hK:=Tryz.underlying26
 hS:=Tryz.underlying25
 cI:=by kernel_rfl
 cB:=by kernel_rfl
 cL:=by kernel_rfl
 cLB:=by kernel_rfl
 cT:=by kernel_rfl
 cK:=by kernel_rfl
 cS:=by kernel_rfl
 T0:=rfl
 T1:=rfl
 T2:=rfl
 T3:=rfl
 S0:=rfl
 S1:=rfl
 S2:=rfl
 S3:=rfl
set_option maxRecDepth 100000 in
theorem lifted (os:Os) (started:os.Started) (H:Type) (enc:TypeId×Value->H) :
  ReturnsInHanded {} Tryz.checked os 4 .any (Rows.fnExactEvaluateSpec.pre6 enc Tryz.prog Tryz.f4 Rows.fnExactEvaluateRow.domain false) (Rows.fnExactEvaluateSpec.post enc Tryz.prog Tryz.f4 false true false false):=by
 refine returnsInHanded_of_change_sized (C:=Tryz.checked) own started (by kernel_rfl) Tryz.func4
  (ChangeSpec.witness6 (enc:=enc) (C:=Tryz.checked) false ⟨#[],#[.agg #[.int .i64 0,.slice none 0 0,.slice none 0 0,.slice none 0 0],.slice none 0 0,.agg #[.int .i64 0,.int .i64 0,.slice none 0 0,.slice none 0 0],.slice none 0 0],[]⟩ 8 (by kernel_rfl) (by kernel_rfl) (by kernel_rfl) (by kernel_rfl)) ?_
 intro W base args ds gs before hval0 hW hcnd hsz0 _
 have hval:∀ (j:Nat) t v,Tryz.f4.params[j]?=some t->args[j]?=some v->Value.okWide Tryz.prog W .any base t v:=hval0
 have hW':=hW
 obtain ⟨p,q,hA0,hV,rfl,hfz,hnd⟩:=hW
 have hA:DataW.TrodAll enc Tryz.prog W 0 (fun _=>true) true Tryz.f4.params.toList args.toList ds p:=hA0
 rw [Tryz.params4] at hA hval
 obtain ⟨v0,vs0,d0,ds0,p0,q0,hargs,rfl,rfl,h0,r0⟩:=trodAll_cons hA
 obtain ⟨v1,vs1,d1,ds1,p1,q1,rfl,rfl,rfl,h1,r1⟩:=trodAll_cons r0
 obtain ⟨v2,vs2,d2,ds2,p2,q2,rfl,rfl,rfl,h2,r2⟩:=trodAll_cons r1
 obtain ⟨v3,vs3,d3,ds3,p3,q3,rfl,rfl,rfl,h3,r3⟩:=trodAll_cons r2
 obtain ⟨rfl,rfl,rfl⟩:=trodAll_nil r3
 obtain rfl:args=#[v0,v1,v2,v3]:=by cases args;simp_all
 obtain ⟨rfl,rfl⟩:=trodVars_none hV
 have ok0:=hval 0 25 v0 rfl rfl
 have ok1:=hval 1 47 v1 rfl rfl
 have ok2:=hval 2 28 v2 rfl rfl
 have ok3:=hval 3 26 v3 rfl rfl
 obtain ⟨cs0,rfl⟩:∃ cs,v0=.agg cs:=by
  simp only [Value.okWide,Tryz.underlying25] at ok0
  obtain ⟨cs,h,_⟩:=ok0
  exact ⟨cs,h⟩
 obtain ⟨a1,len1,cap1,rfl⟩:=okWide_slice Tryz.underlying47 ok1
 obtain ⟨cs2,rfl⟩:∃ cs,v2=.agg cs:=by
  simp only [Value.okWide,Tryz.underlying28] at ok2
  obtain ⟨cs,h,_⟩:=ok2
  exact ⟨cs,h⟩
 obtain ⟨a3,len3,cap3,rfl⟩:=okWide_slice Tryz.underlying26 ok3
 have k0:=h0
 have k1:=h1
 have k2:=h2
 have k3:=h3
 have lt0:∀ x∈p0,x.block < W.heap.size:=by obtain ⟨m,hm⟩:=k0;exact DataW.trod_lt m _ _ _ hm
 have lt1:∀ x∈p1,x.block < W.heap.size:=by obtain ⟨m,hm⟩:=k1;exact DataW.trod_lt m _ _ _ hm
 have lt2:∀ x∈p2,x.block < W.heap.size:=by obtain ⟨m,hm⟩:=k2;exact DataW.trod_lt m _ _ _ hm
 have lt3:∀ x∈p3,x.block < W.heap.size:=by obtain ⟨m,hm⟩:=k3;exact DataW.trod_lt m _ _ _ hm
 obtain ⟨x0,raw0,w0⟩:∃ s:GSys,s.raw∧Za W s.cells cs0.toList:=by
  obtain ⟨fuel,hf⟩:=h0
  exact rd_sys tys hf
 obtain ⟨n1,x1,raw1,w1⟩:∃ (nl:Bool) (c:Wk),c.raw∧Za W [LC nl c] [.slice a1 len1 cap1]:=by
  obtain ⟨fuel,hf⟩:=h1
  exact rd_ctx tys.hI tys.cI tys.hL tys.cL tys.hC hf
 obtain ⟨x2,raw2,w2⟩:∃ t:GTerm,t.raw∧Za W t.cells cs2.toList:=by
  obtain ⟨fuel,hf⟩:=h2
  exact Zsv tys _ hf
 obtain ⟨n3,x3,raw3,w3⟩:∃ (nl:Bool) (ks:List GTerm),((∀ k∈ks,k.raw)∧ks.length<=9223372036854775807)∧Za W [.sl false nl 4 (ks.map GTerm.cells)] [.slice a3 len3 cap3]:=by
  obtain ⟨fuel,hf⟩:=h3
  obtain ⟨nl,l,hq,hl,hv⟩:=ZeN GTerm.cells GTerm.raw tys.cT (by omega) tys.hK (fun n cs y _ hy=>by
   obtain ⟨t,h1,h2⟩:=Zsv tys _ hy
   exact ⟨t,h1,h2,by simp⟩) hf
  exact ⟨nl,l,⟨hq,hl⟩,hv⟩
 clear hA0 hval0 hsz0
 have hg:=Qe.row (ZqC x0 n1 x1 x2 n3 x3 raw0 raw1 raw2 raw3) W [.agg cs0,.slice a1 len1 cap1,.agg cs2,.slice a3 len3 cap3] (by
  have e1:=w1.1
  simp only [TL.RepVals] at e1
  obtain ⟨y1,ys1,O11,O21,hx1,hO1,hr1,hxs1,hO21⟩:=e1
  simp only [List.cons.injEq] at hx1
  obtain ⟨rfl,rfl⟩:=hx1
  obtain ⟨rfl,rfl⟩:=List.append_eq_nil_iff.1 hO1.symm
  have e3:=w3.1
  simp only [TL.RepVals] at e3
  obtain ⟨y3,ys3,O13,O23,hx3,hO3,hr3,hxs3,hO23⟩:=e3
  simp only [List.cons.injEq] at hx3
  obtain ⟨rfl,rfl⟩:=hx3
  obtain ⟨rfl,rfl⟩:=List.append_eq_nil_iff.1 hO3.symm
  simp only [TL.RepVals]
  exact ⟨_,_,[],[],rfl,rfl,ZsA w0,_,_,[],[],rfl,rfl,hr1,_,_,[],[],rfl,rfl,ZsA w2,_,_,[],[],rfl,rfl,hr3,rfl,rfl⟩)
 refine hg.mono fun e W' ⟨he,hst,hsz,hblk⟩=>?_
 have bel:Below W.heap.size W W':=⟨hst.1,hst.2.1,hst.2.2,hsz,hblk⟩
 subst he
 exact ⟨_,rfl,_,_,_,[],_,[],hW',trodAll_mk1 (shut_bool Tryz.underlying4 _),(trodAll_cons_mk (Below.trod laidOut (by kernel_rfl) (of_decide_eq_true (by kernel_rfl)) k0 bel lt0) (trodAll_cons_mk (Below.trod laidOut (by kernel_rfl) (of_decide_eq_true (by kernel_rfl)) k1 bel lt1) (trodAll_cons_mk (Below.trod laidOut (by kernel_rfl) (of_decide_eq_true (by kernel_rfl)) k2 bel lt2) (trodAll_cons_mk (Below.trod laidOut (by kernel_rfl) (of_decide_eq_true (by kernel_rfl)) k3 bel lt3) trodAll_mk0)))),rfl,bel.frame _,fun h=>by cases h⟩
theorem j0:(Rows.fnExactEvaluateRow.wf (OpenSpec.ofChange Rows.fnExactEvaluateSpec))=true:=by kernel_rfl
theorem j1:(laidOutB Tryz.pinned.checked.prog)=true:=by kernel_rfl
theorem j2:(mapsRowed Tryz.pinned.checked.prog)=true:=by kernel_rfl
theorem j3:(Tryz.f4.params.all (Tryz.pinned.checked.prog.readableRec ·))=true:=by kernel_rfl
theorem j4:(namedTie Tryz.pinned.checked.prog Rows.fnExactEvaluateRow.named Rows.fnExactEvaluateSpec.vars)=true:=by kernel_rfl
theorem j5:((Rows.fnExactEvaluateRow.stops == []))=true:=by kernel_rfl
theorem j6:((Tryz.pinned.checked.prog.stops == []))=true:=by kernel_rfl
theorem j7:((Rows.fnExactEvaluateRow.knobs == []))=true:=by kernel_rfl
theorem j8:((Tryz.pinned.checked.prog.stopKnobs == []))=true:=by kernel_rfl
theorem j9:((Rows.fnExactEvaluateRow.inPlace == Tryz.pinned.checked.prog.inPlace 4))=true:=by kernel_rfl
theorem j10:((Rows.fnExactEvaluateRow.unfollowed == Tryz.pinned.checked.prog.unfollowed 4))=true:=by kernel_rfl
theorem j11:((Rows.fnExactEvaluateRow.recurses == Tryz.pinned.checked.prog.recurses 4))=true:=by kernel_rfl
theorem j12:((Rows.fnExactEvaluateRow.named == Tryz.pinned.checked.prog.varsNamed 4))=true:=by kernel_rfl
theorem j13:((Rows.fnExactEvaluateRow.maps == (Tryz.f4.params.toList++Rows.fnExactEvaluateSpec.plain.varTypes Tryz.pinned.checked.prog).any (Tryz.pinned.checked.prog.mapsRec ·)))=true:=by kernel_rfl
theorem j14:((Rows.fnExactEvaluateRow.ifaces == (Tryz.f4.params.toList++Rows.fnExactEvaluateSpec.plain.varTypes Tryz.pinned.checked.prog).any (Tryz.pinned.checked.prog.ifacesRec ·)))=true:=by kernel_rfl
theorem j15:((Rows.fnExactEvaluateRow.mapsOut == Tryz.pinned.checked.prog.mapsAmong Tryz.f4.resultTypes.toList))=true:=by kernel_rfl
theorem j16:((Rows.fnExactEvaluateRow.loops == (Tryz.f4.params.toList++Rows.fnExactEvaluateSpec.plain.varTypes Tryz.pinned.checked.prog).any (Tryz.pinned.checked.prog.loopsFrom ·)))=true:=by kernel_rfl
theorem j17:((Rows.fnExactEvaluateRow.wideKeys == (Tryz.f4.params.toList++Rows.fnExactEvaluateSpec.plain.varTypes Tryz.pinned.checked.prog++Tryz.f4.resultTypes.toList).any (Tryz.pinned.checked.prog.wideKeysFrom ·)))=true:=by kernel_rfl
theorem j18:(Rows.fnExactEvaluateSpec.vars.all (Tryz.pinned.checked.prog.varReadable ·))=true:=by kernel_rfl
theorem j19:(Tryz.f4.resultTypes.all (fun t=>Tryz.pinned.checked.prog.readableRec t && decide (t < Tryz.pinned.checked.prog.types.size)))=true:=by kernel_rfl
theorem j20:((Rows.fnExactEvaluateRow.ifacesOut == Tryz.f4.resultTypes.toList.any (Tryz.pinned.checked.prog.ifacesRec ·)))=true:=by kernel_rfl
theorem j21:((Rows.fnExactEvaluateRow.loopsOut == Tryz.f4.resultTypes.toList.any (Tryz.pinned.checked.prog.loopsFrom ·)))=true:=by kernel_rfl
theorem j22:((Rows.fnExactEvaluateRow.plainKeys == Tryz.pinned.checked.prog.plainKeys))=true:=by kernel_rfl
theorem j23:(Rows.fnExactEvaluateRow.shortTexts.isNone)=true:=by kernel_rfl
theorem j24:(Tryz.pinned.checked.prog.stopsHeard)=true:=by kernel_rfl
theorem j25:(Tryz.pinned.checked.prog.mayEnter)=true:=by kernel_rfl
theorem j26:((Rows.fnExactEvaluateRow.lifted == Tryz.pinned.checked.prog.liftsFinal))=true:=by kernel_rfl
theorem j27:((Tryz.pinned.checked.prog.make == some Rows.fnExactEvaluateRow.make))=true:=by kernel_rfl
theorem j28:((Rows.fnExactEvaluateRow.kinds == (if Rows.fnExactEvaluateRow.domain.isEmpty then [] else Tryz.f4.params.toList.map fun t=>match Tryz.pinned.checked.prog.underlying t with | some (.int k)=>some k | _=>none)))=true:=by kernel_rfl
theorem j29:((Rows.fnExactEvaluateRow.pinned == Rows.fnExactEvaluateRow.pinnedBy))=true:=by kernel_rfl
theorem j30:((Rows.fnExactEvaluateRow.veiled == (Tryz.f4.params.toList++Rows.fnExactEvaluateSpec.plain.varTypes Tryz.pinned.checked.prog++Tryz.f4.resultTypes.toList).any (Tryz.pinned.checked.prog.veiledRec ·)))=true:=by kernel_rfl
theorem j31:(Rows.fnExactEvaluateRow.veiledFits Tryz.pinned.checked.prog Tryz.f4.params.toList (Tryz.f4.params.toList++Rows.fnExactEvaluateSpec.plain.varTypes Tryz.pinned.checked.prog++Tryz.f4.resultTypes.toList))=true:=by kernel_rfl
theorem named:Tryz.pinned.checked.prog.funcNamed Rows.fnExactEvaluateRow.func=some 4:=by kernel_rfl
set_option maxRecDepth 100000 in
theorem closed:joinedFacts Tryz.pinned.checked.prog 4 Tryz.f4 Rows.fnExactEvaluateSpec Rows.fnExactEvaluateRow=true:=by
 simp only [joinedFacts,Bool.and_eq_true]
 exact ⟨⟨⟨⟨⟨⟨⟨⟨⟨⟨⟨⟨⟨⟨⟨⟨⟨⟨⟨⟨⟨⟨⟨⟨⟨⟨⟨⟨⟨⟨⟨j0,j1⟩,j2⟩,j3⟩,j4⟩,j5⟩,j6⟩,j7⟩,j8⟩,j9⟩,j10⟩,j11⟩,j12⟩,j13⟩,j14⟩,j15⟩,j16⟩,j17⟩,j18⟩,j19⟩,j20⟩,j21⟩,j22⟩,j23⟩,j24⟩,j25⟩,j26⟩,j27⟩,j28⟩,j29⟩,j30⟩,j31⟩
theorem inst:Tryz.f4.isInstance Tryz.pinned.checked.prog Rows.fnExactEvaluateRow.origin Rows.fnExactEvaluateRow.targs:=of_decide_eq_true (by kernel_rfl)
theorem over:Rows.fnExactEvaluateRow.holds Tryz.pinned (OpenSpec.ofChange Rows.fnExactEvaluateSpec) :=
 OpenClaim.holds_of_wide 4 Tryz.f4 rfl rfl rfl rfl rfl rfl rfl ⟨rfl,rfl,rfl,rfl,rfl⟩ rfl rfl rfl rfl rfl named Tryz.func4 closed
  inst (by unfold Func.isWrapper;first | (rw [if_pos (by decide +kernel)];kernel_rfl) | (rw [if_neg (by decide +kernel)];exact ⟨rfl,rfl⟩))
  (fun os started H enc _=>lifted os started H enc)
theorem proved:Rows.FnExactEvaluateSaid:=over
end Go.Proofs.YtbmepminmpjlcaaGreat.fnExactEvaluate
namespace Go.Proofs.YtbmepminmpjlcaaGreat
theorem fnExactEvaluate_holds:Rows.FnExactEvaluateSaid:=fnExactEvaluate.proved
#print axioms fnExactEvaluate_holds
end Go.Proofs.YtbmepminmpjlcaaGreat
