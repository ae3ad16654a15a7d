/- Part 5 of the proof of the row of the text YtbmepminmpjlcaaGreatZRowEvaluate: texts joined. No conditions. -/
import Derived.ProofKit
import Derived.RowKit
import Derived.ChangeArms
import Derived.Test.YtbmepminmpjlcaaGreatZdRowEvaluate
set_option linter.unusedSimpArgs false
set_option linter.unusedVariables false
set_option linter.unusedSectionVars false
namespace Go.Proofs.YtbmepminmpjlcaaGreat
open Go Go.TL
set_option linter.unusedSimpArgs false
set_option linter.unusedVariables false
set_option maxRecDepth 20000
set_option maxHeartbeats 4000000
mutual
def GTerm.raw:GTerm->Prop
 | .mk op n _ ty _ ks=>I64 op∧I64 n∧(ty.length<=9223372036854775807∧∀ c∈ty,I64 c)∧ks.length<=9223372036854775807∧raws ks
def raws:List GTerm->Prop
 | []=>True
 | k::ks=>k.raw∧raws ks
end
theorem Zlk:∀ {ks:List GTerm},raws ks ↔ ∀ k∈ks,k.raw
 | []=>by simp [raws]
 | k::ks=>by simp [raws,Zlk (ks:=ks)]
mutual
def GTerm.w:GTerm->Nat
 | .mk _ _ _ ty _ ks=>ty.length+(ks.length+tws ks)
def tws:List GTerm->Nat
 | []=>0
 | k::ks=>k.w+tws ks
end
theorem ZqU {ks:List GTerm} {i:Nat} (h:i < ks.length):tws (ks.drop i)=ks[i].w+tws (ks.drop (i+1)):=by
 rw [List.drop_eq_getElem_cons h,tws]
mutual
theorem wf_of:∀ (t:GTerm),t.raw->t.w<=1099511627776->t.wf
 | .mk op n nl1 ty nl2 ks,h,hw=>by
  simp only [GTerm.raw,GTerm.w,GTerm.wf] at *
  exact ⟨h.1,h.2.1,⟨by omega,h.2.2.1.2⟩,by omega,ZrG ks h.2.2.2.2 (by omega)⟩
theorem ZrG:∀ (ks:List GTerm),raws ks->tws ks<=1099511627776->wfs ks
 | [],_,_=>by simp [wfs]
 | k::ks,h,hw=>by
  simp only [raws,tws,wfs] at *
  exact ⟨wf_of k h.1 (by omega),ZrG ks h.2 (by omega)⟩
end
mutual
def GTerm.norm:GTerm->GTerm
 | .mk op n _ ty _ ks=>.mk op n false ty false (Yn ks)
def Yn:List GTerm->List GTerm
 | []=>[]
 | k::ks=>k.norm::Yn ks
end
mutual
def GTerm.own:GTerm->List LV
 | .mk op n _ ty _ ks=>[N op,N n,OU true false ty,.sl true false 4 (Zbu ks)]
def Zbu:List GTerm->List (List LV)
 | []=>[]
 | k::ks=>k.own::Zbu ks
end
theorem Zjz:∀ ks:List GTerm,Zbu ks=ks.map GTerm.own
 | []=>by simp [Zbu]
 | k::ks=>by simp [Zbu,Zjz ks]
mutual
theorem Zgw:∀ t:GTerm,shareAll t.own=t.norm.cells
 | .mk op n nl1 ty nl2 ks=>by
  simp only [GTerm.own,GTerm.norm,GTerm.cells,shareAll,share,ZcK ks]
  congr 3
  simp
theorem ZcK:∀ ks:List GTerm,Qv (Zbu ks)=Q9 (Yn ks)
 | []=>by simp [Zbu,Yn,Q9,Qv]
 | k::ks=>by simp only [Zbu,Yn,Q9,Qv,Zgw k,ZcK ks]
end
attribute [simp] Zgw ZcK
@[simp] theorem own_length (t:GTerm):t.own.length=4:=by cases t;simp [GTerm.own]
@[simp] theorem take_own (t:GTerm):t.own.take 4=t.own:=List.take_of_length_le (by simp)
@[simp] theorem alive_own (t:GTerm):WK t.own=true:=by cases t;simp [GTerm.own]
mutual
theorem Zqp (k:Nat):∀ t:GTerm,QI k t.own
 | .mk op n nl1 ty nl2 ks=>by
  have:=Zll k ks
  simp [GTerm.own,this]
theorem Zll (k:Nat):∀ ks:List GTerm,WV k (Zbu ks)
 | []=>by simp [Zbu]
 | t::ks=>by simp [Zbu,Zqp k t,Zll k ks]
end
attribute [simp] Zqp Zll
mutual
def GTerm.same:GTerm->GTerm->Bool
 | .mk op n _ ty _ ks,.mk op' n' _ ty' _ ks'=>eqB op op' && (eqB n n' && ((ty == ty') && Va ks ks'))
def Va:List GTerm->List GTerm->Bool
 | [],[]=>true
 | a::a',b::b'=>a.same b && Va a' b'
 | _,_=>false
end
theorem ZnH:∀ {a b:List GTerm},a.length≠b.length->Va a b=false
 | [],[],h=>by simp at h
 | [],_::_,_=>by simp [Va]
 | _::_,[],_=>by simp [Va]
 | a::a',b::b',h=>by simp only [Va,ZnH (a:=a') (b:=b') (by simpa using h),Bool.and_false]
mutual
theorem same_refl:∀ a:GTerm,a.same a=true
 | .mk op n nl1 ty nl2 ks=>by simp [GTerm.same,ZfY ks]
theorem ZfY:∀ a:List GTerm,Va a a=true
 | []=>by simp [Va]
 | a::a'=>by simp [Va,same_refl a,ZfY a']
end
mutual
theorem norm_wf:∀ t:GTerm,t.wf->t.norm.wf
 | .mk op n nl1 ty nl2 ks,h=>by
  simp only [GTerm.wf,GTerm.norm] at *
  exact ⟨h.1,h.2.1,h.2.2.1,by rw [ZcM];exact h.2.2.2.1,Zkn ks h.2.2.2.2⟩
theorem Zkn:∀ ks:List GTerm,wfs ks->wfs (Yn ks)
 | [],_=>by simp [Yn,wfs]
 | k::ks,h=>by
  simp only [wfs,Yn] at *
  exact ⟨norm_wf k h.1,Zkn ks h.2⟩
theorem ZcM:∀ ks:List GTerm,(Yn ks).length=ks.length
 | []=>by simp [Yn]
 | k::ks=>by simp [Yn,ZcM ks]
end
theorem Zke (nl:Bool) (ks:List GTerm) (hl:ks.length<=9223372036854775807) (left:Int) (h0:0<=left) (h1:left<=1099511627776)
  (hk:∀ k∈ks,∀ m:Int,0<=m->m<=1099511627776->Qe Tryz.prog Km [k.lv,N m] (·=N (Xi k.w m))) :
  Qe Tryz.prog Vd [.sl false nl 4 (Q9 ks),N left] (·=N (Xi (ks.length+tws ks) left)):=by
 refine Qe.of_codeOf Zka Qx (by simp) ⟨_,rfl,by simp⟩ ?_
 simp (disch:=omega) [Zeu,Qg]
 (with_reducible first | refine Qk (fun h2=>?_) (fun h2=>?_) | refine Ql (fun h2=>?_) (fun h2=>?_))
 ·simp (disch:=omega) [h2]
  simp only [Qf,Qd,Qi,Qh,Qc,Qb,Bool.not_true,Bool.not_false] at h2
  unfold Xi;rw [if_neg (by omega)]
 ·simp (disch:=omega) [h2]
  simp only [Qf,Qd,Qi,Qh,Qc,Qb,Bool.not_true,Bool.not_false] at h2
  have e1:Xi (ks.length+tws ks) left=Xi (tws ks) (left - ks.length):=by
   rw [J4 h0];congr 1;unfold Xi;rw [if_pos (by omega)]
  rw [e1]
  refine Wf ks.length 0 (fun i t _=>∃ m:Int,t 5=N i∧t 1=N m∧0<=m∧m<=left∧Xi (tws ks) (left - ks.length)=Xi (tws (ks.drop i)) m) ⟨left - ks.length,by simp,by simp,by omega,by omega,by simp⟩ (by omega) ?_
  rintro i t1 hh hf hi ⟨m,e5,e1',hm,hm2,he⟩
  (have e0:=hf 0 (by kernel_rfl);clear hf;simp [] at e0)
  simp (disch:=omega) [e0,e1',e5]
  (with_reducible first | refine Qk (fun h6=>?_) (fun h6=>?_) | refine Ql (fun h6=>?_) (fun h6=>?_))
  ·simp only [Qf,Qd,Qi,Qh,Qc,Qb,Bool.not_true,Bool.not_false] at h6
   have hs:=hk (ks[i]'(by omega)) (List.getElem_mem _) m hm (by omega)
   simp (disch:=omega) [e0,e1',e5,Wq]
   repeat' (first
  | with_reducible refine Qa (hs) (by simp) ?_
  | (with_reducible (first | refine Qk (fun hb_=>?_) (fun hb_=>?_) | refine Ql (fun hb_=>?_) (fun hb_=>?_))<;>simp (disch:=omega) [hb_,e0,e1',e5,Qg])
  | simp (disch:=omega) [e0,e1',e5,Qg])
   all_goals simp only [Qf,Qd,Qi,Qh,Qc,Qb,Bool.not_true,Bool.not_false] at hb_
   ·rw [he,ZqU (by omega),J4 hm,Zcv hb_]
   ·refine ⟨by omega,hb_,?_,?_⟩
    ·have:=X1 (a:=(ks[i]'(by omega)).w) hm;omega
    ·rw [he,ZqU (by omega),J4 hm]
  ·simp only [Qf,Qd,Qi,Qh,Qc,Qb,Bool.not_true,Bool.not_false] at h6
   simp (disch:=omega) [e1']
   rw [he,show i=ks.length by omega,List.drop_length,tws,Zlj hm]
theorem Znf:∀ (d:Nat) (t:GTerm),t.size<=d->t.raw->∀ left:Int,0<=left->left<=1099511627776->Qe Tryz.prog Km [t.lv,N left] (·=N (Xi t.w left)):=by
 intro d
 induction d with
 | zero=>intro t h;have:=t.size_pos;omega
 | succ d ih =>
  rintro ⟨op,n,nl1,ty,nl2,ks⟩ hd hw left h0 h1
  simp only [GTerm.raw] at hw
  obtain ⟨hop,hn,hty,hk,hks⟩:=hw
  simp only [GTerm.size,GTerm.lv,GTerm.cells,GTerm.w] at hd ⊢
  refine Qe.of_codeOf ZlW Qx (by simp) ⟨_,rfl,by simp⟩ ?_
  have hi:=ZeY nl1 ty hty.1 left h0 h1
  simp (disch:=omega) [Zfn,Qt,Qo]
  refine Qa hi (by simp) ?_
  simp (disch:=omega)
  rw [J4 h0]
  (with_reducible first | refine Qk (fun h2=>?_) (fun h2=>?_) | refine Ql (fun h2=>?_) (fun h2=>?_))
  ·simp only [Qf,Qd,Qi,Qh,Qc,Qb,Bool.not_true,Bool.not_false] at h2
   simp (disch:=omega)
   rw [Zcv h2]
  ·simp only [Qf,Qd,Qi,Qh,Qc,Qb,Bool.not_true,Bool.not_false] at h2
   have hr:=X1 (a:=ty.length) h0
   have ht:=Zke nl2 ks hk (Xi ty.length left) h2 (by omega) (fun k hk' m hm hm2=>ih k (by
    obtain ⟨i,hi,rfl⟩:=List.getElem_of_mem hk'
    have:=YM hi;omega) (Zlk.1 hks k hk') m hm hm2)
   simp (disch:=omega)
   repeat' (first
  | with_reducible refine Qa (ht) (by simp) ?_
  | (with_reducible (first | refine Qk (fun hb_=>?_) (fun hb_=>?_) | refine Ql (fun hb_=>?_) (fun hb_=>?_))<;>simp (disch:=omega) [hb_])
  | simp (disch:=omega))
   all_goals simp only [Qf,Qd,Qi,Qh,Qc,Qb,Bool.not_true,Bool.not_false] at hb_
   all_goals have:=X1 (a:=ks.length+tws ks) h2
   all_goals omega
theorem Zkq (nl:Bool) (ks:List GTerm) (hl:ks.length<=1099511627776) (hk:∀ k∈ks,Qe Tryz.prog Yj [k.lv] (·=.agg k.own)) :
  Qe Tryz.prog Yr [.sl false nl 4 (Q9 ks)] (·=.sl true false 4 (Zbu ks)):=by
 refine Qe.of_codeOf Zkl Qx (by simp) ⟨_,rfl,by simp⟩ ?_
 have hm:(ks.length:Int)<=(WX:Nat):=by unfold WX;omega
 have he:∀ x:GTerm,x.own.length=4:=by simp
 simp (disch:=omega) [Zec,hm]
 refine Wf ks.length 0 (fun i t h=>t 4=N i∧h=[some (fill GTerm.own [N 0,N 0,.sl true true 1 [],.sl true true 1 []] ks i)]) (by simp [ZaR]) (by omega) ?_
 rintro i t1 hh hf hi ⟨e4,rfl⟩
 (have e0:=hf 0 (by kernel_rfl);have e3:=hf 3 (by kernel_rfl);clear hf;simp [] at e0 e3)
 simp (disch:=omega) [e0,e3,e4]
 (with_reducible first | refine Qk (fun h6=>?_) (fun h6=>?_) | refine Ql (fun h6=>?_) (fun h6=>?_))
 ·simp only [Qf,Qd,Qi,Qh,Qc,Qb,Bool.not_true,Bool.not_false] at h6
  have hlen:=Zcy (z:=[N 0,N 0,.sl true true 1 [],.sl true true 1 []]) (l:=ks) he rfl hi
  have hst:=ZaS (z:=[N 0,N 0,.sl true true 1 [],.sl true true 1 []]) (l:=ks) he rfl (i:=i) (by omega)
  have hto:=hk (ks[i]'(by omega)) (List.getElem_mem _)
  simp (disch:=omega) [e0,e3,e4,Wq,Zy,Qg,hlen,hst]
  repeat' (first
  | with_reducible refine Qa (hto) (by simp) ?_
  | (with_reducible (first | refine Qk (fun hb_=>?_) (fun hb_=>?_) | refine Ql (fun hb_=>?_) (fun hb_=>?_))<;>simp (disch:=omega) [hb_,e0,e3,e4,Wq,Zy,Qg,hlen,hst])
  | simp (disch:=omega) [e0,e3,e4,Wq,Zy,Qg,hlen,hst])
  exact ⟨by omega,by omega,by simpa [splice] using hst⟩
 ·simp only [Qf,Qd,Qi,Qh,Qc,Qb,Bool.not_true,Bool.not_false] at h6
  rw [show i=ks.length by omega,Zd5]
  simp (disch:=omega) [e0,e3,e4]
  rw [ZgC he]
  simp [Zjz]
theorem ZnB:∀ (d:Nat) (t:GTerm),t.size<=d->t.wf->Qe Tryz.prog Yj [t.lv] (·=.agg t.own):=by
 intro d
 induction d with
 | zero=>intro t h;have:=t.size_pos;omega
 | succ d ih =>
  rintro ⟨op,n,nl1,ty,nl2,ks⟩ hd hw
  simp only [GTerm.wf] at hw
  obtain ⟨hop,hn,hty,hk,hks⟩:=hw
  simp only [GTerm.size,GTerm.lv,GTerm.cells,GTerm.own] at hd ⊢
  have h1:=Ze9 nl1 ty hty.1
  have h2:=Zkq nl2 ks hk (fun k hk'=>ih k (by
    obtain ⟨i,hi,rfl⟩:=List.getElem_of_mem hk'
    have:=YM hi;omega) (ZbM.1 hks k hk'))
  refine Qe.of_codeOf Zl7 Qx (by simp) ⟨_,rfl,by simp⟩ ?_
  simp (disch:=omega) [Zfk,Qt,Qo]
  repeat' (first
  | with_reducible refine Qa (h1) (by simp) ?_
  | with_reducible refine Qa (h2) (by simp) ?_
  | (with_reducible (first | refine Qk (fun hb_=>?_) (fun hb_=>?_) | refine Ql (fun hb_=>?_) (fun hb_=>?_))<;>simp (disch:=omega) [hb_])
  | simp (disch:=omega))
theorem Zk7 (n1 n2:Bool) (a b:List GTerm) (ha:a.length<=1099511627776) (hk:∀ x∈a,∀ y:GTerm,Qe Tryz.prog Ym [x.lv,y.lv] (·=B (x.same y))) :
  Qe Tryz.prog K0 [.sl false n1 4 (Q9 a),.sl false n2 4 (Q9 b)] (·=B (Va a b)):=by
 refine Qe.of_codeOf Zkc Qx (by simp) ⟨_,rfl,by simp⟩ ?_
 simp (disch:=omega) [Zeo]
 (with_reducible first | refine Qk (fun h1=>?_) (fun h1=>?_) | refine Ql (fun h1=>?_) (fun h1=>?_))
 ·simp (disch:=omega) [h1]
  simp only [Qf,Qd,Qi,Qh,Qc,Qb,Bool.not_true,Bool.not_false] at h1
  refine Wf a.length 0 (fun i t _=>t 5=N i∧Va a b=Va (a.drop i) (b.drop i)) (by simp) (by omega) ?_
  rintro i t1 hh hf hi ⟨e5,hj⟩
  (have e0:=hf 0 (by kernel_rfl);have e1:=hf 1 (by kernel_rfl);clear hf;simp [] at e0 e1)
  simp (disch:=omega) [e0,e1,e5]
  (with_reducible first | refine Qk (fun h6=>?_) (fun h6=>?_) | refine Ql (fun h6=>?_) (fun h6=>?_))
  ·simp only [Qf,Qd,Qi,Qh,Qc,Qb,Bool.not_true,Bool.not_false] at h6
   have hd1:=List.drop_eq_getElem_cons (l:=a) (i:=i) (by omega)
   have hd2:=List.drop_eq_getElem_cons (l:=b) (i:=i) (by omega)
   have hq2:Va a b=((a[i]'(by omega)).same (b[i]'(by omega)) && Va (a.drop (i+1)) (b.drop (i+1))):=by rw [hj,hd1,hd2,Va]
   clear hd1 hd2 hj
   have hc:=hk (a[i]'(by omega)) (List.getElem_mem _) (b[i]'(by omega))
   simp (disch:=omega) [e0,e1,e5,Wq]
   repeat' (first
  | with_reducible refine Qa (hc) (by simp) ?_
  | (with_reducible (first | refine Qk (fun hb_=>?_) (fun hb_=>?_) | refine Ql (fun hb_=>?_) (fun hb_=>?_))<;>simp (disch:=omega) [hb_,e0,e1,e5,Wq,Qg])
  | simp (disch:=omega) [e0,e1,e5,Wq,Qg])
   ·exact ⟨by omega,by rw [hq2,hb_,Bool.true_and]⟩
   ·rw [hq2,hb_,Bool.false_and]
  ·simp only [Qf,Qd,Qi,Qh,Qc,Qb,Bool.not_true,Bool.not_false] at h6
   simp (disch:=omega)
   rw [hj,List.drop_of_length_le (by omega),List.drop_of_length_le (by omega),Va]
 ·simp (disch:=omega) [h1]
  simp only [Qf,Qd,Qi,Qh,Qc,Qb,Bool.not_true,Bool.not_false] at h1
  exact ZnH (by omega)
theorem Ze1:∀ (d:Nat) (a:GTerm),a.size<=d->a.wf->∀ b:GTerm,Qe Tryz.prog Ym [a.lv,b.lv] (·=B (a.same b)):=by
 intro d
 induction d with
 | zero=>intro t h;have:=t.size_pos;omega
 | succ d ih =>
  rintro ⟨op,n,nl1,ty,nl2,ks⟩ hd hw ⟨op',n',nl1',ty',nl2',ks'⟩
  simp only [GTerm.wf] at hw
  obtain ⟨hop,hn,hty,hk,hks⟩:=hw
  simp only [GTerm.size,GTerm.lv,GTerm.cells] at hd ⊢
  have h1:=ZaT nl1 nl1' ty ty' hty.1
  have h2:=Zk7 nl2 nl2' ks ks' hk (fun k hk'=>ih k (by
    obtain ⟨i,hi,rfl⟩:=List.getElem_of_mem hk'
    have:=YM hi;omega) (ZbM.1 hks k hk'))
  refine Qe.of_codeOf ZlG Qx (by simp) ⟨_,rfl,by simp⟩ ?_
  rw [GTerm.same]
  generalize (ty == ty')=q1 at *
  simp (disch:=omega) [ZfI,Qt,Qo]
  repeat' (first
  | with_reducible refine Qa (h1) (by simp) ?_
  | with_reducible refine Qa (h2) (by simp) ?_
  | (with_reducible (first | refine Qk (fun hb_=>?_) (fun hb_=>?_) | refine Ql (fun hb_=>?_) (fun hb_=>?_))<;>simp (disch:=omega) [hb_])
  | simp (disch:=omega))
  all_goals simp_all
theorem GSys.isJoin_n {s:GSys} {n:Nat} (hn:s.size=n) (a b g:Int):s.isJoin a b g=(s.le a g && s.le b g && Zl (fun h=>s.jn a b g h) n):=by
 simp [GSys.isJoin,hn]
section
variable {s:GSys} (t:s.Tab) {a b:Int} (ha:s.G a) (hb:s.G b)
include t ha hb
theorem Znp:Qe Tryz.prog VQ [s.lv,N a,N b] (·=N (s.join a b)):=by
 refine Qe.of_codeOf ZmR Qx (by simp) ⟨_,rfl,by simp⟩ ?_
 have h2:=t.lo;have h16:=t.hi
 obtain ⟨n,hn⟩:∃ n:Nat,s.size=n:=⟨s.size.toNat,by omega⟩
 simp (disch:=omega) [Zft,Qt,Qo]
 refine Wf n 0 (fun g t _=>t 7=N g∧s.join a b=Yy (s.isJoin a b) g (n - g)) (by simp [GSys.join,hn]) (by omega) ?_
 rintro g t1 hh hf hg ⟨e7,hj⟩
 (have e1:=hf 1 (by kernel_rfl);have e2:=hf 2 (by kernel_rfl);have e3:=hf 3 (by kernel_rfl);clear hf;simp [] at e1 e2 e3)
 simp (disch:=omega) [e1,e2,e3,e7]
 (with_reducible first | refine Qk (fun h1=>?_) (fun h1=>?_) | refine Ql (fun h1=>?_) (fun h1=>?_))
 ·have hGg:=GSys.Glt h1
  simp (disch:=omega) [e1,e2,e3,e7]
  refine Qa (Zx t ha hGg) (by simp) ?_
  refine Zgz (fun t h=>t 8=B (s.le a g && s.le b g)) ?_ ?_
  ·repeat' (first
  | with_reducible refine Qa (Zx t (by first | assumption | exact GSys.Gpl t _ _ | exact GSys.Gtm t _ _ | exact GSys.Glt (by assumption) | exact GSys.G0 t | exact GSys.G1 t) (by first | assumption | exact GSys.Gpl t _ _ | exact GSys.Gtm t _ _ | exact GSys.Glt (by assumption) | exact GSys.G0 t | exact GSys.G1 t)) (by simp) ?_
  | (with_reducible (first | refine Qk (fun hb_=>?_) (fun hb_=>?_) | refine Ql (fun hb_=>?_) (fun hb_=>?_))<;>simp (disch:=omega) [hb_,e1,e2,e3,e7])
  | simp (disch:=omega) [e1,e2,e3,e7])
  ·rintro t2 hh hf2 e8
   (have f1:=hf2 1 (by kernel_rfl);have f2:=hf2 2 (by kernel_rfl);have f3:=hf2 3 (by kernel_rfl);have f7:=hf2 7 (by kernel_rfl);clear hf2;simp [e1,e2,e3,e7] at f1 f2 f3 f7)
   simp (disch:=omega)
   refine WS n 0 (fun i t _=>t 9=N i∧t 8=B (s.le a g && s.le b g && Zl (fun h=>s.jn a b g h) i)) (fun t h=>t 8=B (s.isJoin a b g)) (by simp [e8]) (by omega) ?_ ?_
   ·rintro i t3 hh hf3 hi ⟨g9,g8⟩
    (have q1:=hf3 1 (by kernel_rfl);have q2:=hf3 2 (by kernel_rfl);have q3:=hf3 3 (by kernel_rfl);have q7:=hf3 7 (by kernel_rfl);clear hf3;simp [f1,f2,f3,f7] at q1 q2 q3 q7)
    simp (disch:=omega) [q1,q2,q3,q7,g8,g9]
    repeat' (first
  | with_reducible refine Qa (Zx t (by first | assumption | exact GSys.Gpl t _ _ | exact GSys.Gtm t _ _ | exact GSys.Glt (by assumption) | exact GSys.G0 t | exact GSys.G1 t) (by first | assumption | exact GSys.Gpl t _ _ | exact GSys.Gtm t _ _ | exact GSys.Glt (by assumption) | exact GSys.G0 t | exact GSys.G1 t)) (by simp) ?_
  | (with_reducible (first | refine Qk (fun hb_=>?_) (fun hb_=>?_) | refine Ql (fun hb_=>?_) (fun hb_=>?_))<;>simp (disch:=omega) [hb_,q1,q2,q3,q7,g8,g9])
  | simp (disch:=omega) [q1,q2,q3,q7,g8,g9])
    all_goals (try simp only [Qf,Qd,Qi,Qh,Qc,Qb,Bool.not_true,Bool.not_false] at *)
    ·refine ⟨by omega,Qg (by omega),?_⟩
     simp_all [WG,GSys.jn]
    ·refine ⟨by omega,Qg (by omega),?_⟩
     simp_all [WG,GSys.jn]
    ·refine ⟨by omega,Qg (by omega),?_⟩
     simp_all [WG,GSys.jn]
    ·rw [GSys.isJoin_n hn]
     cases h:Zl (fun h=>s.jn a b g h) i with
     | false=>simp [Zj5 hi h]
     | true=>simp_all
    ·rw [GSys.isJoin_n hn,show i=n by omega]
   ·rintro t4 hh hf4 g8
    (have q1:=hf4 1 (by kernel_rfl);have q2:=hf4 2 (by kernel_rfl);have q3:=hf4 3 (by kernel_rfl);have q7:=hf4 7 (by kernel_rfl);clear hf4;simp [f1,f2,f3,f7] at q1 q2 q3 q7)
    repeat' (first
  | (with_reducible (first | refine Qk (fun hb_=>?_) (fun hb_=>?_) | refine Ql (fun hb_=>?_) (fun hb_=>?_))<;>simp (disch:=omega) [hb_,q1,q2,q3,q7,g8])
  | simp (disch:=omega) [q1,q2,q3,q7,g8])
    all_goals (try simp only [Qf,Qd,Qi,Qh,Qc,Qb,Bool.not_true,Bool.not_false] at *)
    ·rw [hj,show n - g=(n - (g+1))+1 by omega,Yy,if_pos hb_]
    ·rw [hj,show n - g=(n - (g+1))+1 by omega,Yy,if_neg (by simp [hb_])]
     exact ⟨by omega,Qg (by omega),by simp⟩
 ·all_goals (try simp only [Qf,Qd,Qi,Qh,Qc,Qb,Bool.not_true,Bool.not_false] at *)
  have:g=n:=by omega
  simp_all [Yy]
theorem ZsH : Qe Tryz.prog Xb [s.lv, N a, N b] (· = N (s.join a b)) := by
  refine Qe.of_codeOf ZdV Qx (by simp) ⟨_, rfl, by simp⟩ ?_
  have h2 := t.lo; have h16 := t.hi
  obtain ⟨n, hn⟩ : ∃ n : Nat, s.size = n := ⟨s.size.toNat, by omega⟩
  simp (disch := omega) [Zab, Qt, Qo]
  refine Wf n 0 (fun g t _ => t 7 = N g ∧ s.join a b = Yy (s.isJoin a b) g (n - g)) (by simp [GSys.join, hn]) (by omega) ?_
  rintro g t1 hh hf hg ⟨e7, hj⟩
  (have e1 := hf 1 (by kernel_rfl); have e2 := hf 2 (by kernel_rfl); have e3 := hf 3 (by kernel_rfl); clear hf; simp [] at e1 e2 e3)
  simp (disch := omega) [e1, e2, e3, e7]
  (with_reducible first | refine Qk (fun h1 => ?_) (fun h1 => ?_) | refine Ql (fun h1 => ?_) (fun h1 => ?_))
  · have hGg := GSys.Glt h1
    simp (disch := omega) [e1, e2, e3, e7]
    refine Qa (Zaa t ha hGg) (by simp) ?_
    refine Zgz (fun t h => t 27 = B (!s.le a g || !s.le b g)) ?_ ?_
    · repeat' (first
    | with_reducible refine Qa (Zaa t (by first | assumption | exact GSys.Gpl t _ _ | exact GSys.Gtm t _ _ | exact GSys.Glt (by assumption) | exact GSys.G0 t | exact GSys.G1 t) (by first | assumption | exact GSys.Gpl t _ _ | exact GSys.Gtm t _ _ | exact GSys.Glt (by assumption) | exact GSys.G0 t | exact GSys.G1 t)) (by simp) ?_
    | (with_reducible (first | refine Qk (fun hb_ => ?_) (fun hb_ => ?_) | refine Ql (fun hb_ => ?_) (fun hb_ => ?_)) <;> simp (disch := omega) [hb_, e1, e2, e3, e7])
    | simp (disch := omega) [e1, e2, e3, e7])
    · rintro t2 hh hf2 e8
      (have f1 := hf2 1 (by kernel_rfl); have f2 := hf2 2 (by kernel_rfl); have f3 := hf2 3 (by kernel_rfl); have f7 := hf2 7 (by kernel_rfl); clear hf2; simp [e1, e2, e3, e7] at f1 f2 f3 f7)
      simp (disch := omega) [e8]
      (with_reducible first | refine Qk (fun h3 => ?_) (fun h3 => ?_) | refine Ql (fun h3 => ?_) (fun h3 => ?_))
      · simp (disch := omega) [f7]
        all_goals (try simp only [Qf, Qd, Qi, Qh, Qc, Qb, Bool.not_true, Bool.not_false] at *)
        rw [hj, show n - g = (n - (g + 1)) + 1 by omega, Yy, if_neg (by rw [GSys.isJoin_n hn]; simp at h3; rcases h3 with h3 | h3 <;> simp [h3])]
        exact ⟨by omega, Qg (by omega), by simp⟩
      · simp (disch := omega) [f1, f2, f3, f7]
        refine WS n 0 (fun i t _ => t 9 = N i ∧ t 8 = B (Zl (fun h => s.jn a b g h) i)) (fun t h => t 8 = B (s.isJoin a b g)) (by simp) (by omega) ?_ ?_
        · rintro i t3 hh hf3 hi ⟨g9, g8⟩
          (have q1 := hf3 1 (by kernel_rfl); have q2 := hf3 2 (by kernel_rfl); have q3 := hf3 3 (by kernel_rfl); have q7 := hf3 7 (by kernel_rfl); clear hf3; simp [f1, f2, f3, f7] at q1 q2 q3 q7)
          simp (disch := omega) [q1, q2, q3, q7, g8, g9]
          repeat' (first
    | with_reducible refine Qa (Zaa t (by first | assumption | exact GSys.Gpl t _ _ | exact GSys.Gtm t _ _ | exact GSys.Glt (by assumption) | exact GSys.G0 t | exact GSys.G1 t) (by first | assumption | exact GSys.Gpl t _ _ | exact GSys.Gtm t _ _ | exact GSys.Glt (by assumption) | exact GSys.G0 t | exact GSys.G1 t)) (by simp) ?_
    | (with_reducible (first | refine Qk (fun hb_ => ?_) (fun hb_ => ?_) | refine Ql (fun hb_ => ?_) (fun hb_ => ?_)) <;> simp (disch := omega) [hb_, q1, q2, q3, q7, g8, g9])
    | simp (disch := omega) [q1, q2, q3, q7, g8, g9])
          all_goals (try simp only [Qf, Qd, Qi, Qh, Qc, Qb, Bool.not_true, Bool.not_false] at *)
          · refine ⟨by omega, Qg (by omega), ?_⟩
            simp_all [WG, GSys.jn]
          · refine ⟨by omega, Qg (by omega), ?_⟩
            simp_all [WG, GSys.jn]
          · refine ⟨by omega, Qg (by omega), ?_⟩
            simp_all [WG, GSys.jn]
          · refine ⟨by omega, Qg (by omega), ?_⟩
            simp_all [WG]
          · rw [GSys.isJoin_n hn, show i = n by omega]
            simp_all
        · rintro t4 hh hf4 g8
          (have q1 := hf4 1 (by kernel_rfl); have q2 := hf4 2 (by kernel_rfl); have q3 := hf4 3 (by kernel_rfl); have q7 := hf4 7 (by kernel_rfl); clear hf4; simp [f1, f2, f3, f7] at q1 q2 q3 q7)
          repeat' (first
    | (with_reducible (first | refine Qk (fun hb_ => ?_) (fun hb_ => ?_) | refine Ql (fun hb_ => ?_) (fun hb_ => ?_)) <;> simp (disch := omega) [hb_, q1, q2, q3, q7, g8])
    | simp (disch := omega) [q1, q2, q3, q7, g8])
          all_goals (try simp only [Qf, Qd, Qi, Qh, Qc, Qb, Bool.not_true, Bool.not_false] at *)
          · rw [hj, show n - g = (n - (g + 1)) + 1 by omega, Yy, if_pos hb_]
          · rw [hj, show n - g = (n - (g + 1)) + 1 by omega, Yy, if_neg (by simp [hb_])]
            exact ⟨by omega, Qg (by omega), by simp⟩
  · all_goals (try simp only [Qf, Qd, Qi, Qh, Qc, Qb, Bool.not_true, Bool.not_false] at *)
    have : g = n := by omega
    simp_all [Yy]
end
def GSys.one (s:GSys) (a:Int):Bool:=eqB (s.pl 0 a) a && eqB (s.tm 1 a) a && eqB (s.tm a 1) a && eqB (s.tm 0 a) 0 && eqB (s.tm a 0) 0 && s.le a a
def GSys.two (s:GSys) (a b:Int):Bool:=eqB (s.pl a b) (s.pl b a) && (eqB a b || !s.le a b || !s.le b a) && leB 0 (s.join a b)
section
variable {s:GSys} (t:s.Tab) {a b:Int} (ha:s.G a) (hb:s.G b)
include t ha
theorem l1One_ok:Qe Tryz.prog Zdd [s.lv,N a] (·=B (s.one a)):=by
 refine Qe.of_codeOf Zok Qx (by simp) ⟨_,rfl,by simp⟩ ?_
 simp (disch:=omega) [Zhw,Qt,Qo]
 repeat' (first
  | with_reducible refine Qa (ZeL t (by first | assumption | exact GSys.Gpl t _ _ | exact GSys.Gtm t _ _ | exact GSys.Glt (by assumption) | exact GSys.G0 t | exact GSys.G1 t) (by first | assumption | exact GSys.Gpl t _ _ | exact GSys.Gtm t _ _ | exact GSys.Glt (by assumption) | exact GSys.G0 t | exact GSys.G1 t)) (by simp) ?_
  | with_reducible refine Qa (KW t (by first | assumption | exact GSys.Gpl t _ _ | exact GSys.Gtm t _ _ | exact GSys.Glt (by assumption) | exact GSys.G0 t | exact GSys.G1 t) (by first | assumption | exact GSys.Gpl t _ _ | exact GSys.Gtm t _ _ | exact GSys.Glt (by assumption) | exact GSys.G0 t | exact GSys.G1 t)) (by simp) ?_
  | with_reducible refine Qa (Zx t (by first | assumption | exact GSys.Gpl t _ _ | exact GSys.Gtm t _ _ | exact GSys.Glt (by assumption) | exact GSys.G0 t | exact GSys.G1 t) (by first | assumption | exact GSys.Gpl t _ _ | exact GSys.Gtm t _ _ | exact GSys.Glt (by assumption) | exact GSys.G0 t | exact GSys.G1 t)) (by simp) ?_
  | (with_reducible (first | refine Qk (fun hb_=>?_) (fun hb_=>?_) | refine Ql (fun hb_=>?_) (fun hb_=>?_))<;>simp (disch:=omega) [hb_])
  | simp (disch:=omega))
 all_goals simp_all [GSys.one]
include hb
theorem l1Two_ok:Qe Tryz.prog ZcL [s.lv,N a,N b] (·=B (s.two a b)):=by
 refine Qe.of_codeOf ZoU Qx (by simp) ⟨_,rfl,by simp⟩ ?_
 simp (disch:=omega) [ZhC,Qt,Qo]
 repeat' (first
  | with_reducible refine Qa (ZeL t (by first | assumption | exact GSys.Gpl t _ _ | exact GSys.Gtm t _ _ | exact GSys.Glt (by assumption) | exact GSys.G0 t | exact GSys.G1 t) (by first | assumption | exact GSys.Gpl t _ _ | exact GSys.Gtm t _ _ | exact GSys.Glt (by assumption) | exact GSys.G0 t | exact GSys.G1 t)) (by simp) ?_
  | with_reducible refine Qa (Zx t (by first | assumption | exact GSys.Gpl t _ _ | exact GSys.Gtm t _ _ | exact GSys.Glt (by assumption) | exact GSys.G0 t | exact GSys.G1 t) (by first | assumption | exact GSys.Gpl t _ _ | exact GSys.Gtm t _ _ | exact GSys.Glt (by assumption) | exact GSys.G0 t | exact GSys.G1 t)) (by simp) ?_
  | with_reducible refine Qa (Znp t (by first | assumption | exact GSys.Gpl t _ _ | exact GSys.Gtm t _ _ | exact GSys.Glt (by assumption) | exact GSys.G0 t | exact GSys.G1 t) (by first | assumption | exact GSys.Gpl t _ _ | exact GSys.Gtm t _ _ | exact GSys.Glt (by assumption) | exact GSys.G0 t | exact GSys.G1 t)) (by simp) ?_
  | (with_reducible (first | refine Qk (fun hb_=>?_) (fun hb_=>?_) | refine Ql (fun hb_=>?_) (fun hb_=>?_))<;>simp (disch:=omega) [hb_])
  | simp (disch:=omega))
 all_goals simp_all [GSys.two]
end
def GSys.cell (s:GSys) (i:Nat):Bool:=Wc (s.plus.getD i 0) 0 (s.size - 1) && Wc (s.times.getD i 0) 0 (s.size - 1)
def GSys.tabB (s:GSys):Bool:=Wc s.size 2 16 && eqB s.plus.length (s.size * s.size) && eqB s.times.length (s.size * s.size) && eqB s.below.length (s.size * s.size) && Zl s.cell s.plus.length
theorem GSys.tab_iff {s:GSys}:s.tabB=true ↔ s.Tab:=by
 simp only [GSys.tabB,Bool.and_eq_true,Wb,Qc,Zb,GSys.cell]
 constructor
 ·rintro ⟨⟨⟨⟨h1,h2⟩,h3⟩,h4⟩,h5⟩
  refine ⟨h1.1,h1.2,h2,h3,h4,fun i=>?_,fun i=>?_⟩
  ·by_cases hi:i < s.plus.length
   ·have:=(h5 i hi).1;omega
   ·rw [List.getD_eq_getElem?_getD,List.getElem?_eq_none (by omega)];simp;omega
  ·by_cases hi:i < s.plus.length
   ·have:=(h5 i hi).2;omega
   ·rw [List.getD_eq_getElem?_getD,List.getElem?_eq_none (by omega)];simp;omega
 ·intro t
  refine ⟨⟨⟨⟨⟨t.lo,t.hi⟩,t.lp⟩,t.lt⟩,t.lb⟩,fun i _=>?_⟩
  have:=t.rp i;have:=t.rt i
  omega
theorem GSys.sq {s:GSys} (h:Wc s.size 2 16=true):0<=s.size * s.size∧s.size * s.size<=256∧2<=s.size∧s.size<=16:=by
 rw [Wb] at h
 have h4:s.size * s.size<=16 * 16:=Int.mul_le_mul h.2 h.2 (by omega) (by omega)
 exact ⟨Int.mul_nonneg (by omega) (by omega),by omega,h⟩
theorem Zqo (s:GSys) (hw:s.wf):Qe Tryz.prog Zat [s.lv] (·=B s.tabB):=by
 refine Qe.of_codeOf Zi1 Qx (by simp) ⟨_,rfl,by simp⟩ ?_
 simp (disch:=omega) [Zdp,Qt,Qo]
 refine Qa (Zky _ _ _) (by simp) ?_
 simp (disch:=omega)
 (with_reducible first | refine Qk (fun h1=>?_) (fun h1=>?_) | refine Ql (fun h1=>?_) (fun h1=>?_))
 ·obtain ⟨h2,h3,h4,h5⟩:=GSys.sq (s:=s) h1
  simp (disch:=omega) [h1,Qg]
  repeat' (first
  | (with_reducible (first | refine Qk (fun hb_=>?_) (fun hb_=>?_) | refine Ql (fun hb_=>?_) (fun hb_=>?_))<;>simp (disch:=omega) [hb_,h1,Qg])
  | simp (disch:=omega) [h1,Qg])
  all_goals try (simp_all [GSys.tabB];done)
  ·rename_i g1 g2
   have e0:s.tabB=Zl s.cell s.plus.length:=by simp [GSys.tabB,h1,g1,g2,hb_]
   rw [e0]
   all_goals (try simp only [Qf,Qd,Qi,Qh,Qc,Qb,Bool.not_true,Bool.not_false] at *)
   refine Wf s.plus.length 0 (fun i t _=>t 3=N i∧Zl s.cell i=true) (by simp) (by omega) ?_
   rintro i t1 hh hf hi ⟨e3,hj⟩
   (have e1:=hf 1 (by kernel_rfl);clear hf;simp [] at e1)
   simp (disch:=omega) [e1,e3]
   (with_reducible first | refine Qk (fun h6=>?_) (fun h6=>?_) | refine Ql (fun h6=>?_) (fun h6=>?_))
   ·simp only [Qf,Qd,Qi,Qh,Qc,Qb,Bool.not_true,Bool.not_false] at h6
    simp (disch:=omega) [e1,e3,Qg,Xv]
    have ec:s.cell i=(Wc (s.plus[i]'(by omega)) 0 (s.size - 1) && Wc (s.times[i]'(by omega)) 0 (s.size - 1)):=by
     simp [GSys.cell,show i < s.plus.length by omega,show i < s.times.length by omega]
    repeat' (first
  | with_reducible refine Qa (Zky _ _ _) (by simp) ?_
  | (with_reducible (first | refine Qk (fun hb_=>?_) (fun hb_=>?_) | refine Ql (fun hb_=>?_) (fun hb_=>?_))<;>simp (disch:=omega) [hb_,e1,e3,Qg,Xv])
  | simp (disch:=omega) [e1,e3,Qg,Xv])
    ·refine ⟨by omega,by simp_all [WG]⟩
    ·exact XR (p:=s.cell) (i:=i) (by omega) (by simp_all)
    ·exact XR (p:=s.cell) (i:=i) (by omega) (by simp_all)
   ·simp only [Qf,Qd,Qi,Qh,Qc,Qb,Bool.not_true,Bool.not_false] at h6
    simp (disch:=omega) [e1,e3]
    rw [<- hj,show i=s.plus.length by omega]
 ·simp_all [GSys.tabB]
def GSys.sysC (s:GSys) (n:Nat) (a b:Int):Bool:=s.two a b && Zl (fun c=>s.three a b c) n
def GSys.sysB (s:GSys) (n:Nat) (a:Int):Bool:=s.one a && Zl (fun b=>s.sysC n a b) n
def GSys.sys (s:GSys):Bool:=s.tabB && Zl (fun a=>s.sysB s.size.toNat a) s.size.toNat
theorem GSys.sys_n {s:GSys} {n:Nat} (hn:s.size=n):s.sys=(s.tabB && Zl (fun a=>s.sysB n a) n):=by simp [GSys.sys,hn]
theorem GSys.sys_of {s:GSys} (h:s.sys=true):s.Tab:=GSys.tab_iff.1 (by simp [GSys.sys] at h;exact h.1)
theorem Zal (s : GSys) (hw : s.wf) : Qe Tryz.prog ZJ [s.lv] (· = B s.sys) := by
  refine Qe.of_codeOf ZiW Qx (by simp) ⟨_, rfl, by simp⟩ ?_
  simp (disch := omega) [ZdC, Qt, Qo]
  refine Qa (Zqo s hw) (by simp) ?_
  simp (disch := omega)
  (with_reducible first | refine Qk (fun h1 => ?_) (fun h1 => ?_) | refine Ql (fun h1 => ?_) (fun h1 => ?_))
  · have t := GSys.tab_iff.1 h1
    have h2 := t.lo; have h16 := t.hi
    obtain ⟨n, hn⟩ : ∃ n : Nat, s.size = n := ⟨s.size.toNat, by omega⟩
    rw [GSys.sys_n hn, h1, Bool.true_and]
    simp (disch := omega) [h1]
    refine Wf n 0 (fun a t _ => t 3 = N a ∧ Zl (fun a => s.sysB n a) a = true) (by simp) (by omega) ?_
    rintro a t1 hh hf ha ⟨e3, hj⟩
    (have e1 := hf 1 (by kernel_rfl); clear hf; simp [] at e1)
    simp (disch := omega) [e1, e3]
    (with_reducible first | refine Qk (fun h3 => ?_) (fun h3 => ?_) | refine Ql (fun h3 => ?_) (fun h3 => ?_))
    · have hGa := GSys.Glt h3
      simp only [Qf, Qd, Qi, Qh, Qc, Qb, Bool.not_true, Bool.not_false] at h3
      simp (disch := omega) [e1, e3]
      refine Qa (l1One_ok t hGa) (by simp) ?_
      simp (disch := omega) [e1, e3]
      (with_reducible first | refine Qk (fun h4 => ?_) (fun h4 => ?_) | refine Ql (fun h4 => ?_) (fun h4 => ?_))
      · simp (disch := omega) [e1, e3]
        refine WS n 0 (fun b t _ => t 4 = N b ∧ Zl (fun b => s.sysC n a b) b = true) (fun t h => Zl (fun b => s.sysC n a b) n = true) (by simp) (by omega) ?_ ?_
        · rintro b t2 hh hf2 hb ⟨e4, hj2⟩
          (have f1 := hf2 1 (by kernel_rfl); have f3 := hf2 3 (by kernel_rfl); clear hf2; simp [e1, e3] at f1 f3)
          simp (disch := omega) [f1, f3, e4]
          (with_reducible first | refine Qk (fun h5 => ?_) (fun h5 => ?_) | refine Ql (fun h5 => ?_) (fun h5 => ?_))
          · have hGb := GSys.Glt h5
            simp only [Qf, Qd, Qi, Qh, Qc, Qb, Bool.not_true, Bool.not_false] at h5
            simp (disch := omega) [f1, f3, e4]
            refine Qa (l1Two_ok t hGa hGb) (by simp) ?_
            simp (disch := omega) [f1, f3, e4]
            (with_reducible first | refine Qk (fun h6 => ?_) (fun h6 => ?_) | refine Ql (fun h6 => ?_) (fun h6 => ?_))
            · simp (disch := omega) [f1, f3, e4]
              refine WS n 0 (fun c t _ => t 5 = N c ∧ Zl (fun c => s.three a b c) c = true) (fun t h => Zl (fun c => s.three a b c) n = true) (by simp) (by omega) ?_ ?_
              · rintro c t3 hh hf3 hc ⟨e5, hj3⟩
                (have g1 := hf3 1 (by kernel_rfl); have g3 := hf3 3 (by kernel_rfl); have g4 := hf3 4 (by kernel_rfl); clear hf3; simp [f1, f3, e4] at g1 g3 g4)
                simp (disch := omega) [g1, g3, g4, e5]
                (with_reducible first | refine Qk (fun h7 => ?_) (fun h7 => ?_) | refine Ql (fun h7 => ?_) (fun h7 => ?_))
                · have hGc := GSys.Glt h7
                  simp only [Qf, Qd, Qi, Qh, Qc, Qb, Bool.not_true, Bool.not_false] at h7
                  simp (disch := omega) [g1, g3, g4, e5]
                  repeat' (first
    | with_reducible refine Qa (ZqZ t hGa hGb hGc) (by simp) ?_
    | (with_reducible (first | refine Qk (fun hb_ => ?_) (fun hb_ => ?_) | refine Ql (fun hb_ => ?_) (fun hb_ => ?_)) <;> simp (disch := omega) [hb_, g1, g3, g4, e5])
    | simp (disch := omega) [g1, g3, g4, e5])
                  · refine ⟨by omega, Qg (by omega), by simp [WG, hj3, hb_]⟩
                  · exact XR (i := a) (by omega) (by simp [GSys.sysB, h4, XR (p := fun b => s.sysC n a b) (i := b) (n := n) (by omega) (by simp [GSys.sysC, h6, XR (p := fun c => s.three a b c) (i := c) (n := n) (by omega) (by simpa using hb_)])])
                · simp only [Qf, Qd, Qi, Qh, Qc, Qb, Bool.not_true, Bool.not_false] at h7
                  simp (disch := omega) [g1, g3, g4, e5]
                  rw [<- hj3, show c = n by omega]
              · rintro t4 hh hf4 hj3
                (have g1 := hf4 1 (by kernel_rfl); have g3 := hf4 3 (by kernel_rfl); have g4 := hf4 4 (by kernel_rfl); clear hf4; simp [f1, f3, e4] at g1 g3 g4)
                simp (disch := omega) [g1, g3, g4]
                exact ⟨by omega, Qg (by omega), by simp [WG, hj2, show s.sysC n a b = true by simp [GSys.sysC, h6, hj3]]⟩
            · simp (disch := omega)
              exact XR (i := a) (by omega) (by simp [GSys.sysB, h4, XR (p := fun b => s.sysC n a b) (i := b) (n := n) (by omega) (by simp_all [GSys.sysC])])
          · simp only [Qf, Qd, Qi, Qh, Qc, Qb, Bool.not_true, Bool.not_false] at h5
            simp (disch := omega) [f1, f3, e4]
            rw [<- hj2, show b = n by omega]
        · rintro t2 hh hf2 hj2
          (have f1 := hf2 1 (by kernel_rfl); have f3 := hf2 3 (by kernel_rfl); clear hf2; simp [e1, e3] at f1 f3)
          simp (disch := omega) [f1, f3]
          exact ⟨by omega, Qg (by omega), by simp [WG, hj, show s.sysB n a = true by simp [GSys.sysB, h4, hj2]]⟩
      · simp (disch := omega)
        exact XR (i := a) (by omega) (by simp_all [GSys.sysB])
    · simp only [Qf, Qd, Qi, Qh, Qc, Qb, Bool.not_true, Bool.not_false] at h3
      simp (disch := omega) [e1, e3]
      rw [<- hj, show a = n by omega]
  · simp_all [GSys.sys]
theorem ZiZ (s : GSys) (hw : s.wf) : Qe Tryz.prog Zar [s.lv] (· = B s.sys) := by
  refine Qe.of_codeOf ZiU Qx (by simp) ⟨_, rfl, by simp⟩ ?_
  simp (disch := omega) [Zdn, Qt, Qo]
  refine Qa (J3 _ _ _) (by simp) ?_
  simp (disch := omega)
  (with_reducible first | refine Qk (fun h1 => ?_) (fun h1 => ?_) | refine Ql (fun h1 => ?_) (fun h1 => ?_))
  · obtain ⟨h2, h3, h4, h5⟩ := GSys.sq (s := s) h1
    simp (disch := omega) [h1, Qg]
    repeat' (first
    | (with_reducible (first | refine Qk (fun hb_ => ?_) (fun hb_ => ?_) | refine Ql (fun hb_ => ?_) (fun hb_ => ?_)) <;> simp (disch := omega) [hb_, h1, Qg])
    | simp (disch := omega) [h1, Qg])
    all_goals try (simp_all [GSys.tabB, GSys.sys]; done)
    · rename_i g1 g2
      have e0 : s.tabB = Zl s.cell s.plus.length := by simp [GSys.tabB, h1, g1, g2, hb_]
      all_goals (try simp only [Qf, Qd, Qi, Qh, Qc, Qb, Bool.not_true, Bool.not_false] at *)
      refine WS s.plus.length 0 (fun i t _ => t 43 = N i ∧ Zl s.cell i = true) (fun _ _ => s.tabB = true) (by simp) (by omega) ?_ ?_
      · rintro i t1 hh hf hi ⟨e3, hj⟩
        (have e1 := hf 1 (by kernel_rfl); have e42 := hf 42 (by kernel_rfl); clear hf; simp [] at e1 e42)
        simp (disch := omega) [e1, e42, e3]
        (with_reducible first | refine Qk (fun h6 => ?_) (fun h6 => ?_) | refine Ql (fun h6 => ?_) (fun h6 => ?_))
        · simp only [Qf, Qd, Qi, Qh, Qc, Qb, Bool.not_true, Bool.not_false] at h6
          simp (disch := omega) [e1, e3, e42, Qg, Xv]
          have ec : s.cell i = (Wc (s.plus[i]'(by omega)) 0 (s.size - 1) && Wc (s.times[i]'(by omega)) 0 (s.size - 1)) := by
            simp [GSys.cell, show i < s.plus.length by omega, show i < s.times.length by omega]
          have hlo : -9223372036854775808 < s.size := by omega
          have hI : I64 s.size := hw.1
          repeat' (first
    | with_reducible refine Qa (Zre s hI hlo _) (by simp) ?_
    | (with_reducible (first | refine Qk (fun hb_ => ?_) (fun hb_ => ?_) | refine Ql (fun hb_ => ?_) (fun hb_ => ?_)) <;> simp (disch := omega) [hb_, e1, e3, e42, Qg, Xv])
    | simp (disch := omega) [e1, e3, e42, Qg, Xv])
          · refine ⟨by omega, by simp_all [WG]⟩
          · simp only [GSys.sys, e0, XR (p := s.cell) (i := i) (n := s.plus.length) (by omega) (by simp_all)]; simp
          · simp only [GSys.sys, e0, XR (p := s.cell) (i := i) (n := s.plus.length) (by omega) (by simp_all)]; simp
        · simp only [Qf, Qd, Qi, Qh, Qc, Qb, Bool.not_true, Bool.not_false] at h6
          simp (disch := omega) [e1, e3, e42]
          rw [e0, <- hj, show i = s.plus.length by omega]
      · rintro t0 hh hf0 ht
        (have d1 := hf0 1 (by kernel_rfl); have d3 := hf0 3 (by kernel_rfl); clear hf0; simp [] at d1 d3)
        simp (disch := omega) [d1, d3]
        have t := GSys.tab_iff.1 ht
        obtain ⟨n, hn⟩ : ∃ n : Nat, s.size = n := ⟨s.size.toNat, by omega⟩
        rw [GSys.sys_n hn, ht, Bool.true_and]
        refine Wf n 0 (fun a t _ => t 5 = N a ∧ Zl (fun a => s.sysB n a) a = true) (by simp) (by omega) ?_
        rintro a t1 hh hf ha ⟨e5, hj⟩
        (have e1 := hf 1 (by kernel_rfl); have e3 := hf 3 (by kernel_rfl); clear hf; simp [d1, d3] at e1 e3)
        simp (disch := omega) [e1, e3, e5]
        (with_reducible first | refine Qk (fun h6 => ?_) (fun h6 => ?_) | refine Ql (fun h6 => ?_) (fun h6 => ?_))
        · have hGa := GSys.Glt h6
          simp only [Qf, Qd, Qi, Qh, Qc, Qb, Bool.not_true, Bool.not_false] at h6
          simp (disch := omega) [e1, e3, e5]
          refine Qa (Ze4 t (GSys.G0 t) hGa) (by simp) ?_
          refine Zgz (fun t h => t 107 = B (!s.one a)) ?_ ?_
          · repeat' (first
    | with_reducible refine Qa (Kh t (by first | assumption | exact GSys.Gpl t _ _ | exact GSys.Gtm t _ _ | exact GSys.Glt (by assumption) | exact GSys.G0 t | exact GSys.G1 t) (by first | assumption | exact GSys.Gpl t _ _ | exact GSys.Gtm t _ _ | exact GSys.Glt (by assumption) | exact GSys.G0 t | exact GSys.G1 t)) (by simp) ?_
    | with_reducible refine Qa (Zaa t (by first | assumption | exact GSys.Gpl t _ _ | exact GSys.Gtm t _ _ | exact GSys.Glt (by assumption) | exact GSys.G0 t | exact GSys.G1 t) (by first | assumption | exact GSys.Gpl t _ _ | exact GSys.Gtm t _ _ | exact GSys.Glt (by assumption) | exact GSys.G0 t | exact GSys.G1 t)) (by simp) ?_
    | (with_reducible (first | refine Qk (fun hb_ => ?_) (fun hb_ => ?_) | refine Ql (fun hb_ => ?_) (fun hb_ => ?_)) <;> simp (disch := omega) [hb_, e1, e3, e5])
    | simp (disch := omega) [e1, e3, e5])
            all_goals simp_all [GSys.one]
          · rintro t2 hh hf e107
            (have f1 := hf 1 (by kernel_rfl); have f3 := hf 3 (by kernel_rfl); have f5 := hf 5 (by kernel_rfl); clear hf; simp [e1, e3, e5] at f1 f3 f5)
            simp (disch := omega) [e107]
            (with_reducible first | refine Qk (fun h7 => ?_) (fun h7 => ?_) | refine Ql (fun h7 => ?_) (fun h7 => ?_))
            · simp (disch := omega)
              refine WS n 0 (fun b t _ => t 6 = N b ∧ Zl (fun b => s.sysC n a b) b = true) (fun t h => Zl (fun b => s.sysC n a b) n = true) (by simp) (by omega) ?_ ?_
              · rintro b t3 hh hf hb ⟨g6, hj2⟩
                (have g1 := hf 1 (by kernel_rfl); have g3 := hf 3 (by kernel_rfl); have g5 := hf 5 (by kernel_rfl); clear hf; simp [f1, f3, f5] at g1 g3 g5)
                simp (disch := omega) [g1, g3, g5, g6]
                (with_reducible first | refine Qk (fun h8 => ?_) (fun h8 => ?_) | refine Ql (fun h8 => ?_) (fun h8 => ?_))
                · have hGb := GSys.Glt h8
                  simp only [Qf, Qd, Qi, Qh, Qc, Qb, Bool.not_true, Bool.not_false] at h8
                  simp (disch := omega) [g1, g3, g5, g6]
                  refine Qa (Ze4 t hGa hGb) (by simp) ?_
                  refine Zgz (fun t h => t 145 = B (!s.two a b)) ?_ ?_
                  · repeat' (first
    | with_reducible refine Qa (Ze4 t (by first | assumption | exact GSys.Gpl t _ _ | exact GSys.Gtm t _ _ | exact GSys.Glt (by assumption) | exact GSys.G0 t | exact GSys.G1 t) (by first | assumption | exact GSys.Gpl t _ _ | exact GSys.Gtm t _ _ | exact GSys.Glt (by assumption) | exact GSys.G0 t | exact GSys.G1 t)) (by simp) ?_
    | with_reducible refine Qa (Zaa t (by first | assumption | exact GSys.Gpl t _ _ | exact GSys.Gtm t _ _ | exact GSys.Glt (by assumption) | exact GSys.G0 t | exact GSys.G1 t) (by first | assumption | exact GSys.Gpl t _ _ | exact GSys.Gtm t _ _ | exact GSys.Glt (by assumption) | exact GSys.G0 t | exact GSys.G1 t)) (by simp) ?_
    | with_reducible refine Qa (ZsH t (by first | assumption | exact GSys.Gpl t _ _ | exact GSys.Gtm t _ _ | exact GSys.Glt (by assumption) | exact GSys.G0 t | exact GSys.G1 t) (by first | assumption | exact GSys.Gpl t _ _ | exact GSys.Gtm t _ _ | exact GSys.Glt (by assumption) | exact GSys.G0 t | exact GSys.G1 t)) (by simp) ?_
    | (with_reducible (first | refine Qk (fun hb_ => ?_) (fun hb_ => ?_) | refine Ql (fun hb_ => ?_) (fun hb_ => ?_)) <;> simp (disch := omega) [hb_, g1, g3, g5, g6])
    | simp (disch := omega) [g1, g3, g5, g6])
                    all_goals simp_all [GSys.two, Zdh]
                  · rintro t4 hh hf e145
                    (have q1 := hf 1 (by kernel_rfl); have q3 := hf 3 (by kernel_rfl); have q5 := hf 5 (by kernel_rfl); have q6 := hf 6 (by kernel_rfl); clear hf; simp [g1, g3, g5, g6] at q1 q3 q5 q6)
                    simp (disch := omega) [e145]
                    (with_reducible first | refine Qk (fun h9 => ?_) (fun h9 => ?_) | refine Ql (fun h9 => ?_) (fun h9 => ?_))
                    · simp (disch := omega)
                      refine WS n 0 (fun c t _ => t 7 = N c ∧ Zl (fun c => s.three a b c) c = true) (fun t h => Zl (fun c => s.three a b c) n = true) (by simp) (by omega) ?_ ?_
                      · rintro c t3 hh hf hc ⟨r7, hj3⟩
                        (have r1 := hf 1 (by kernel_rfl); have r3 := hf 3 (by kernel_rfl); have r5 := hf 5 (by kernel_rfl); have r6 := hf 6 (by kernel_rfl); clear hf; simp [q1, q3, q5, q6] at r1 r3 r5 r6)
                        simp (disch := omega) [r1, r3, r5, r6, r7]
                        (with_reducible first | refine Qk (fun h10 => ?_) (fun h10 => ?_) | refine Ql (fun h10 => ?_) (fun h10 => ?_))
                        · have hGc := GSys.Glt h10
                          simp only [Qf, Qd, Qi, Qh, Qc, Qb, Bool.not_true, Bool.not_false] at h10
                          simp (disch := omega) [r1, r3, r5, r6, r7]
                          repeat' (first
    | with_reducible refine Qa (Zts t hGa hGb hGc) (by simp) ?_
    | (with_reducible (first | refine Qk (fun hb_ => ?_) (fun hb_ => ?_) | refine Ql (fun hb_ => ?_) (fun hb_ => ?_)) <;> simp (disch := omega) [hb_, r1, r3, r5, r6, r7])
    | simp (disch := omega) [r1, r3, r5, r6, r7])
                          · refine ⟨by omega, Qg (by omega), by simp [WG, hj3, hb_]⟩
                          · exact XR (i := a) (by omega) (by simp [GSys.sysB, h7, XR (p := fun b => s.sysC n a b) (i := b) (n := n) (by omega) (by simp [GSys.sysC, h9, XR (p := fun c => s.three a b c) (i := c) (n := n) (by omega) (by simpa using hb_)])])
                        · simp only [Qf, Qd, Qi, Qh, Qc, Qb, Bool.not_true, Bool.not_false] at h10
                          simp (disch := omega)
                          rw [<- hj3, show c = n by omega]
                      · rintro t4 hh hf hj3
                        (have r1 := hf 1 (by kernel_rfl); have r3 := hf 3 (by kernel_rfl); have r5 := hf 5 (by kernel_rfl); have r6 := hf 6 (by kernel_rfl); clear hf; simp [q1, q3, q5, q6] at r1 r3 r5 r6)
                        simp (disch := omega) [r1, r3, r5, r6]
                        exact ⟨by omega, Qg (by omega), by simp [WG, hj2, show s.sysC n a b = true by simp [GSys.sysC, h9, hj3]]⟩
                    · simp (disch := omega)
                      exact XR (i := a) (by omega) (by simp [GSys.sysB, h7, XR (p := fun b => s.sysC n a b) (i := b) (n := n) (by omega) (by simp_all [GSys.sysC])])
                · simp only [Qf, Qd, Qi, Qh, Qc, Qb, Bool.not_true, Bool.not_false] at h8
                  simp (disch := omega)
                  rw [<- hj2, show b = n by omega]
              · rintro t4 hh hf hj2
                (have r1 := hf 1 (by kernel_rfl); have r3 := hf 3 (by kernel_rfl); have r5 := hf 5 (by kernel_rfl); clear hf; simp [f1, f3, f5] at r1 r3 r5)
                simp (disch := omega) [r1, r3, r5]
                exact ⟨by omega, Qg (by omega), by simp [WG, hj, show s.sysB n a = true by simp [GSys.sysB, h7, hj2]]⟩
            · simp (disch := omega)
              exact XR (i := a) (by omega) (by simp_all [GSys.sysB])
        · simp only [Qf, Qd, Qi, Qh, Qc, Qb, Bool.not_true, Bool.not_false] at h6
          simp (disch := omega)
          rw [<- hj, show a = n by omega]
  · simp_all [GSys.tabB, GSys.sys]
open Go.Proofs.YtbmepminmpjlcaaGreat.Ty
def Zdk (nv size:Int) (closed:Bool) (op n:Int):Bool :=
 if eqB op 0=true then Wc n 0 (nv - 1) else if eqB op 1=true then Wc n 0 2 else if XH op=true then ltB n size && (leB (-1) n && (!closed || leB 0 n)) else eqB n 0
def tyB (size:Int) (closed:Bool) (op:Int) (ty:List Int):Bool:=if Xa op=true then wty ty && J5 size closed ty else eqB ty.length 0
def ZaC (nv size:Int) (closed:Bool) (op n:Int) (ty:List Int) (len:Nat):Bool:=eqB len (W1 op) && (Zdk nv size closed op n && tyB size closed op ty)
mutual
def XC (nv size:Int) (closed:Bool):GTerm->Bool
 | .mk op n _ ty _ ks=>ZaC nv size closed op n ty ks.length && X8 nv size closed op 0 ks
def X8 (nv size:Int) (closed:Bool) (op:Int) (k:Nat):List GTerm->Bool
 | []=>true
 | t::ts=>XC (nv+Qy op k) size closed t && X8 nv size closed op (k+1) ts
end
theorem ZsV (nv size:Int) (closed:Bool) (t:GTerm) (hw:t.wf) (hs:I64 size) (hv:0<=nv∧nv<=1000000) :
  Qe Tryz.prog ZbU [t.lv,N nv,N size,B closed] (·=B (match t with | .mk op n _ ty _ ks=>ZaC nv size closed op n ty ks.length)):=by
 obtain ⟨op,n,nl1,ty,nl2,ks⟩:=t
 simp only [GTerm.wf] at hw
 obtain ⟨hop,hn,hty,hk,hks⟩:=hw
 refine Qe.of_codeOf Zmv Qx (by simp) ⟨_,rfl,by simp⟩ ?_
 simp (disch:=omega) [ZfP,Qt,Qo,GTerm.cells]
 repeat' (first
  | with_reducible refine Qa (ZsZ op) (by simp) ?_
  | with_reducible refine Qa (Zky _ _ _) (by simp) ?_
  | with_reducible refine Qa (Zqg op) (by simp) ?_
  | with_reducible refine Qa (Zra op) (by simp) ?_
  | with_reducible refine Qa (Zid nl1 ty hty) (by simp) ?_
  | with_reducible refine Qa (Zep nl1 ty hty size hs _) (by simp) ?_
  | (with_reducible (first | refine Qk (fun hb_=>?_) (fun hb_=>?_) | refine Ql (fun hb_=>?_) (fun hb_=>?_))<;>simp (disch:=omega) [hb_,Qg])
  | simp (disch:=omega) [Qg])
 all_goals simp_all [ZaC,Zdk,tyB,Zdh]
theorem ZsI:∀ (d:Nat) (t:GTerm),t.size<=d->t.wf->∀ left:Int,0<=left->left<=1000000->Qe Tryz.prog VT [t.lv,N left] (·=N (Xi t.size left)):=by
 intro d
 induction d with
 | zero=>intro t h;have:=t.size_pos;omega
 | succ d ih =>
  rintro ⟨op,n,nl1,ty,nl2,ks⟩ hd hw left h0 h1
  simp only [GTerm.wf] at hw
  obtain ⟨hop,hn,hty,hk,hks⟩:=hw
  simp only [GTerm.size,GTerm.lv,GTerm.cells] at hd ⊢
  refine Qe.of_codeOf ZlN Qx (by simp) ⟨_,rfl,by simp⟩ ?_
  simp (disch:=omega) [ZfT,Qt,Qo,GTerm.cells,Qg]
  refine Wf ks.length 0 (fun i t _=>∃ m:Int,t 5=N i∧t 1=N m∧-1<=m∧m<=left∧Xi (WB ks+1) left=Xi (WB (ks.drop i)) m) ⟨left - 1,by simp,by simp,by omega,by omega,by unfold Xi;simp;split<;>split<;>omega⟩ (by omega) ?_
  rintro i t1 hh hf hi ⟨m,e5,e1,hm,hml,he⟩
  (have e2:=hf 2 (by kernel_rfl);clear hf;simp [] at e2)
  simp (disch:=omega) [e1,e2,e5]
  (with_reducible first | refine Qk (fun h6=>?_) (fun h6=>?_) | refine Ql (fun h6=>?_) (fun h6=>?_))
  ·simp (disch:=omega) [e1,e2,e5,h6]
   simp only [Qf,Qd,Qi,Qh,Qc,Qb,Bool.not_true,Bool.not_false] at h6
   have hsd:=Zgu (ks:=ks) (i:=i) (by omega)
   have hsk:=YM (ks:=ks) (i:=i) (by omega)
   have hwk:(ks[i]'(by omega)).wf:=ZbM.1 hks _ (List.getElem_mem _)
   (with_reducible first | refine Qk (fun h7=>?_) (fun h7=>?_) | refine Ql (fun h7=>?_) (fun h7=>?_))
   ·simp only [Qf,Qd,Qi,Qh,Qc,Qb,Bool.not_true,Bool.not_false] at h7
    have hc:=ih (ks[i]'(by omega)) (by omega) hwk m h7 (by omega)
    simp (disch:=omega) [e1,e2,e5,Wq]
    repeat' (first
  | with_reducible refine Qa (hc) (by simp) ?_
  | (with_reducible (first | refine Qk (fun hb_=>?_) (fun hb_=>?_) | refine Ql (fun hb_=>?_) (fun hb_=>?_))<;>simp (disch:=omega) [hb_,e1,e2,e5])
  | simp (disch:=omega) [e1,e2,e5])
    rw [he,hsd]
    refine ⟨by omega,Qg (by omega),?_⟩
    unfold Xi;repeat' split
    all_goals omega
   ·simp only [Qf,Qd,Qi,Qh,Qc,Qb,Bool.not_true,Bool.not_false] at h7
    simp (disch:=omega) [e1,e2,e5]
    rw [he,show m=-1 by omega];unfold Xi;split<;>omega
  ·simp (disch:=omega) [e1,e2,e5,h6]
   simp only [Qf,Qd,Qi,Qh,Qc,Qb,Bool.not_true,Bool.not_false] at h6
   rw [he,show i=ks.length by omega,List.drop_length];simp [WB,Xi];try omega
theorem Ztd (size:Int) (closed:Bool) (hs:I64 size):∀ (d:Nat) (t:GTerm),t.size<=d->t.wf->∀ nv:Int,0<=nv->nv+2 * t.size<=1000000->Qe Tryz.prog VW [t.lv,N nv,N size,B closed] (·=B (XC nv size closed t)):=by
 intro d
 induction d with
 | zero=>intro t h;have:=t.size_pos;omega
 | succ d ih =>
  rintro ⟨op,n,nl1,ty,nl2,ks⟩ hd hw nv h0 h1
  have hN:=ZsV nv size closed (.mk op n nl1 ty nl2 ks) hw hs ⟨h0,by omega⟩
  simp only [GTerm.wf] at hw
  obtain ⟨hop,hn,hty,hk,hks⟩:=hw
  simp only [GTerm.size,GTerm.lv,GTerm.cells] at hd h1 hN ⊢
  refine Qe.of_codeOf Zmm Qx (by simp) ⟨_,rfl,by simp⟩ ?_
  simp (disch:=omega) [ZfG,Qt,Qo,GTerm.cells]
  refine Qa hN (by simp) ?_
  simp (disch:=omega)
  (with_reducible first | refine Qk (fun h3=>?_) (fun h3=>?_) | refine Ql (fun h3=>?_) (fun h3=>?_))
  ·simp (disch:=omega)
   refine Wf ks.length 0 (fun i t _=>t 9=N i∧XC nv size closed (.mk op n nl1 ty nl2 ks)=X8 nv size closed op i (ks.drop i)) (by simp [XC,h3]) (by omega) ?_
   rintro i t1 hh hf hi ⟨e9,he⟩
   (have e1:=hf 1 (by kernel_rfl);have e2:=hf 2 (by kernel_rfl);have e3:=hf 3 (by kernel_rfl);have e4:=hf 4 (by kernel_rfl);clear hf;simp [] at e1 e2 e3 e4)
   simp (disch:=omega) [e1,e2,e3,e4,e9]
   (with_reducible first | refine Qk (fun h6=>?_) (fun h6=>?_) | refine Ql (fun h6=>?_) (fun h6=>?_))
   ·simp only [Qf,Qd,Qi,Qh,Qc,Qb,Bool.not_true,Bool.not_false] at h6
    have hsk:=YM (ks:=ks) (i:=i) (by omega)
    have hwk:(ks[i]'(by omega)).wf:=ZbM.1 hks _ (List.getElem_mem _)
    have hA:0<=Qy op i∧Qy op i<=2:=by (unfold Qy;repeat' split)<;>omega
    have hc:=ih (ks[i]'(by omega)) (by omega) hwk (nv+Qy op i) (by omega) (by omega)
    have hfd:X8 nv size closed op i (ks.drop i)=(XC (nv+Qy op i) size closed (ks[i]'(by omega)) && X8 nv size closed op (i+1) (ks.drop (i+1))):=by
     rw [List.drop_eq_getElem_cons (by omega),X8]
    simp (disch:=omega) [e1,e2,e3,e4,e9,Wq]
    repeat' (first
  | with_reducible refine Qa (Ztf op i) (by simp) ?_
  | with_reducible refine Qa (hc) (by simp) ?_
  | (with_reducible (first | refine Qk (fun hb_=>?_) (fun hb_=>?_) | refine Ql (fun hb_=>?_) (fun hb_=>?_))<;>simp (disch:=omega) [hb_,e1,e2,e3,e4,e9,Qg])
  | simp (disch:=omega) [e1,e2,e3,e4,e9,Qg])
    ·exact ⟨by omega,by rw [he,hfd,hb_,Bool.true_and]⟩
    ·rw [he,hfd,hb_,Bool.false_and]
   ·simp only [Qf,Qd,Qi,Qh,Qc,Qb,Bool.not_true,Bool.not_false] at h6
    simp (disch:=omega) [e1,e2]
    rw [he,show i=ks.length by omega,List.drop_length];simp [X8]
  ·simp (disch:=omega)
   simp [XC,h3]
set_option linter.unusedSectionVars false
def FnB (P:Program) (f v:LV) (b:Bool):Prop:=∃ fid vals,ZW f [v]=some (fid,vals)∧QI 0 vals∧Qe P fid vals (·=B b)
theorem Zlm {P:Program} {f v:LV} {b:Bool} {d:Nat} {K:St->Prop} {s:St} (h:FnB P f v b) (hk:K { t:=upd s.t d (B b),h:=s.h }):onFn P .no f [v] (some d) K s:=by
 obtain ⟨fid,vals,h1,h2,h3⟩:=h
 exact ⟨fid,vals,h1,Qa (rw:=.no) h3 h2 hk⟩
def numG (pg:Int->Bool) (nv:Int) (op n:Int):Bool :=
 if eqB op 0=true then Wc n 0 (nv - 1) else if eqB op 1=true then Wc n 0 2 else if XH op=true then pg n else eqB n 0
def tyG (pt:List Int->Bool) (op:Int) (ty:List Int):Bool:=if Xa op=true then pt ty else eqB ty.length 0
def Zlo (pg:Int->Bool) (pt:List Int->Bool) (nv:Int) (op n:Int) (ty:List Int) (len:Nat):Bool:=eqB len (W1 op) && (numG pg nv op n && tyG pt op ty)
mutual
def ZfE (pg:Int->Bool) (pt:List Int->Bool) (nv:Int):GTerm->Bool
 | .mk op n _ ty _ ks=>Zlo pg pt nv op n ty ks.length && Zb5 pg pt nv op 0 ks
def Zb5 (pg:Int->Bool) (pt:List Int->Bool) (nv:Int) (op:Int) (k:Nat):List GTerm->Bool
 | []=>true
 | t::ts=>ZfE pg pt (nv+Qy op k) t && Zb5 pg pt nv op (k+1) ts
end
section
variable {pg:Int->Bool} {pt:List Int->Bool} {size:Int} {closed:Bool} (hg:∀ n,pg n=(ltB n size && (leB (-1) n && (!closed || leB 0 n)))) (ht:∀ ty,pt ty=(wty ty && J5 size closed ty))
include hg ht
mutual
theorem ZqG:∀ (t:GTerm) (nv:Int),ZfE pg pt nv t=XC nv size closed t
 | .mk op n nl1 ty nl2 ks,nv=>by
  simp only [ZfE,XC,Zno ks,Zlo,ZaC,numG,Zdk,tyG,tyB,hg,ht]
theorem Zno:∀ (ks:List GTerm) (nv op:Int) (k:Nat),Zb5 pg pt nv op k ks=X8 nv size closed op k ks
 | [],_,_,_=>by simp [Zb5,X8]
 | t::ts,nv,op,k=>by simp only [Zb5,X8,ZqG t,Zno ts]
end
end
def ZhQ (f:Bool) (nodes:Int) (sz:Nat):Int:=if f=true∧nodes+sz<=400 then nodes+sz else 401
theorem Znc {op:Int} (h:Wc op 0 12=false):W1 op=-1:=by
 rw [ZgV] at h
 unfold W1;repeat' split
 all_goals omega
theorem Zrv {op:Int} {n:Nat} (h:eqB n (W1 op)=true):Wc op 0 12=true:=by
 cases hc:Wc op 0 12 with
 | true=>rfl
 | false=>rw [Znc hc,Qc] at h;omega
theorem check_ok (fg ft : LV) (pg : Int -> Bool) (pt : List Int -> Bool) (sg : share fg = fg) (st : share ft = ft) (lg : Low 0 fg) (lt : Low 0 ft)
    (hg : ∀ n, I64 n -> FnB Tryz.prog fg (N n) (pg n)) (ht : ∀ nl ty, Lok ty -> FnB Tryz.prog ft (L nl ty) (pt ty)) : ∀ (d : Nat) (t : GTerm), t.size <= d -> t.wf -> ∀ nv nodes : Int, 0 <= nodes -> nodes <= 400 -> 0 <= nv -> nv <= 8 + 2 * nodes ->
    Qe Tryz.prog ZaF [t.lv, N nv, fg, ft, N nodes] (· = N (ZhQ (ZfE pg pt nv t) nodes t.size)) := by
  intro d
  induction d with
  | zero => intro t h; have := t.size_pos; omega
  | succ d ih =>
    rintro ⟨op, n, nl1, ty, nl2, ks⟩ hd hw nv nodes h0 h1 h2 h3
    simp only [GTerm.wf] at hw
    obtain ⟨hop, hn, hty, hk, hks⟩ := hw
    simp only [GTerm.size, GTerm.lv, GTerm.cells] at hd ⊢
    refine Qe.of_codeOf Zoh Qx (by simp) ⟨_, rfl, by simp⟩ ?_
    simp (disch := omega) [Zhu, Qt, Qo, GTerm.cells, Qg, sg, st]
    refine Qa (ZsP op) (by simp) ?_
    by_cases hf : Wc op 0 12 = true
    · rw [Zku, if_pos hf]
      simp (disch := omega) [sg, st]
      (with_reducible first | refine Qk (fun h4 => ?_) (fun h4 => ?_) | refine Ql (fun h4 => ?_) (fun h4 => ?_))
      · simp (disch := omega) [h4]
        simp only [Qf, Qd, Qi, Qh, Qc, Qb, Bool.not_true, Bool.not_false] at h4
        unfold ZhQ; rw [if_neg (by omega)]
      · simp (disch := omega) [h4]
        simp only [Qf, Qd, Qi, Qh, Qc, Qb, Bool.not_true, Bool.not_false] at h4
        (with_reducible first | refine Qk (fun h5 => ?_) (fun h5 => ?_) | refine Ql (fun h5 => ?_) (fun h5 => ?_))
        · simp only [wpC_skip, Zpk]
          refine ZcZ (fun t h => t 12 = B (numG pg nv op n) ∧ h[1]? = some (some [wordV op, N (W1 op), B (XH op), B (Xa op)])) ?_ ?_
          · repeat' (first
    | with_reducible refine Qa (J3 _ _ _) (by simp) ?_
    | with_reducible refine Zlm (hg n hn) ?_
    | (with_reducible (first | refine Qk (fun hb_ => ?_) (fun hb_ => ?_) | refine Ql (fun hb_ => ?_) (fun hb_ => ?_)) <;> simp (disch := omega) [hb_, sg, st, Qg])
    | simp (disch := omega) [sg, st, Qg])
            all_goals simp_all [numG]
          · rintro t1 hh hf1 ⟨e12, eh⟩
            (have e1 := hf1 1 (by kernel_rfl); have e2 := hf1 2 (by kernel_rfl); have e3 := hf1 3 (by kernel_rfl); have e4 := hf1 4 (by kernel_rfl); have e5 := hf1 5 (by kernel_rfl); have e11 := hf1 11 (by kernel_rfl); clear hf1; simp [sg, st] at e1 e2 e3 e4 e5 e11)
            obtain ⟨q, hq⟩ : ∃ q, (numG pg nv op n && tyG pt op ty) = q := ⟨_, rfl⟩
            refine ZcZ (fun t h => t 12 = B q) ?_ ?_
            · repeat' (first
    | with_reducible refine Zlm (ht nl1 ty hty) ?_
    | (with_reducible (first | refine Qk (fun hb_ => ?_) (fun hb_ => ?_) | refine Ql (fun hb_ => ?_) (fun hb_ => ?_)) <;> simp (disch := omega) [hb_, sg, st, e1, e2, e3, e4, e5, e11, e12, eh])
    | simp (disch := omega) [sg, st, e1, e2, e3, e4, e5, e11, e12, eh])
              all_goals rw [<- hq]
              all_goals simp_all [tyG]
            · rintro t2 hh hf1 f12
              (have f1 := hf1 1 (by kernel_rfl); have f2 := hf1 2 (by kernel_rfl); have f3 := hf1 3 (by kernel_rfl); have f4 := hf1 4 (by kernel_rfl); have f5 := hf1 5 (by kernel_rfl); clear hf1; simp [e1, e2, e3, e4, e5] at f1 f2 f3 f4 f5)
              simp (disch := omega) [f12]
              (with_reducible first | refine Qk (fun h6 => ?_) (fun h6 => ?_) | refine Ql (fun h6 => ?_) (fun h6 => ?_))
              · have hN : Zlo pg pt nv op n ty ks.length = true := by simp only [Zlo, h5, hq, h6, Bool.true_and]
                simp (disch := omega) [f1, f2, f3, f4, f5]
                refine Wf ks.length 0 (fun i t _ => ∃ nd : Int, t 84 = N i ∧ t 4 = N nd ∧ nodes + 1 <= nd ∧ nd <= 400 ∧ ZhQ (ZfE pg pt nv (.mk op n nl1 ty nl2 ks)) nodes (WB ks + 1) = ZhQ (Zb5 pg pt nv op i (ks.drop i)) nd (WB (ks.drop i)))
                  ⟨nodes + 1, by simp, by simp [f4], by omega, by omega, ?_⟩ (by omega) ?_
                · simp only [ZfE, hN, Bool.true_and, List.drop_zero, ZhQ]
                  congr 1 <;> grind
                rintro i t3 hh hf1 hi ⟨nd, g84, g4, hnd, hnd2, he⟩
                (have g1 := hf1 1 (by kernel_rfl); have g2 := hf1 2 (by kernel_rfl); have g3 := hf1 3 (by kernel_rfl); have g5 := hf1 5 (by kernel_rfl); have g82 := hf1 82 (by kernel_rfl); have g83 := hf1 83 (by kernel_rfl); clear hf1; simp [f1, f2, f3, f5] at g1 g2 g3 g5 g82 g83)
                simp (disch := omega) [g1, g2, g3, g4, g5, g82, g83, g84]
                (with_reducible first | refine Qk (fun h7 => ?_) (fun h7 => ?_) | refine Ql (fun h7 => ?_) (fun h7 => ?_))
                · simp only [Qf, Qd, Qi, Qh, Qc, Qb, Bool.not_true, Bool.not_false] at h7
                  have hsd := Zgu (ks := ks) (i := i) (by omega)
                  have hsk := YM (ks := ks) (i := i) (by omega)
                  have hwk : (ks[i]'(by omega)).wf := ZbM.1 hks _ (List.getElem_mem _)
                  have hA : 0 <= Qy op i ∧ Qy op i <= 2 := by (unfold Qy; repeat' split) <;> omega
                  have hc := ih (ks[i]'(by omega)) (by omega) hwk (nv + Qy op i) nd (by omega) (by omega) (by omega) (by omega)
                  have hfd : Zb5 pg pt nv op i (ks.drop i) = (ZfE pg pt (nv + Qy op i) (ks[i]'(by omega)) && Zb5 pg pt nv op (i + 1) (ks.drop (i + 1))) := by
                    rw [List.drop_eq_getElem_cons (by omega), Zb5]
                  simp (disch := omega) [g1, g2, g3, g4, g5, g82, g83, g84, Wq, sg, st]
                  repeat' (first
    | with_reducible refine Qa (Zph op i) (by simp) ?_
    | with_reducible refine Qa hc (by simp [lg, lt]) ?_
    | (with_reducible (first | refine Qk (fun hb_ => ?_) (fun hb_ => ?_) | refine Ql (fun hb_ => ?_) (fun hb_ => ?_)) <;> simp (disch := omega) [hb_, g1, g2, g3, g4, g5, g82, g83, g84, Qg, sg, st])
    | simp (disch := omega) [g1, g2, g3, g4, g5, g82, g83, g84, Qg, sg, st])
                  all_goals simp only [Qf, Qd, Qi, Qh, Qc, Qb, Bool.not_true, Bool.not_false] at hb_
                  all_goals rw [he, hfd, hsd]
                  · unfold ZhQ at hb_ ⊢
                    grind
                  · refine ⟨by omega, ?_⟩
                    unfold ZhQ at hb_ ⊢
                    grind
                · simp only [Qf, Qd, Qi, Qh, Qc, Qb, Bool.not_true, Bool.not_false] at h7
                  simp (disch := omega) [g4]
                  rw [he, show i = ks.length by omega, List.drop_length]; simp [Zb5, ZhQ, WB]; omega
              · simp (disch := omega)
                unfold ZhQ ZfE Zlo; rw [hq]; simp [h5, h6]
        · simp (disch := omega)
          unfold ZhQ ZfE Zlo; simp [h5]
    · simp only [Bool.not_eq_true] at hf
      rw [Zku, if_neg (by simp [hf])]
      simp (disch := omega) [sg, st]
      unfold ZhQ ZfE Zlo
      rw [Znc hf, show eqB (ks.length : Int) (-1) = false by rw [Qb]; omega]
      simp
def GTerm.writ (t:GTerm):Bool:=decide (t.size<=400) && XC 8 16 false t
def okT (size:Int) (c:Bool×List Int):Bool:=wty c.2 && J5 size true c.2
def okAt (size:Int) (ctx:Wk) (i:Nat):Bool:=okT size (ctx.getD i (true,[]))
theorem Zob {size:Int} {ctx:Wk} {i:Nat} (h:i < ctx.length):okAt size ctx i=okT size ctx[i]:=by simp [okAt,h]
def ZhL (size:Int) (ctx:Wk):Bool:=leB ctx.length 8 && Zl (okAt size ctx) ctx.length
theorem Zpg (s:GSys) (t:s.Tab) (nl:Bool) (ctx:Wk) (hw:ctx.wf):Qe Tryz.prog VG [s.lv,LC nl ctx] (·=B (ZhL s.size ctx)):=by
 refine Qe.of_codeOf Zik Qx (by simp) ⟨_,rfl,by simp⟩ ?_
 have h2:=t.lo;have h16:=t.hi
 have hlen:=hw.1
 have hI:I64 s.size:=⟨by omega,by omega⟩
 simp (disch:=omega) [Zcn,Qt,Qo]
 (with_reducible first | refine Qk (fun h1=>?_) (fun h1=>?_) | refine Ql (fun h1=>?_) (fun h1=>?_))
 ·simp (disch:=omega)
  rw [Zdh] at h1;simp at h1;simp [ZhL,h1]
 ·simp (disch:=omega)
  have e8:ZhL s.size ctx=Zl (okAt s.size ctx) ctx.length:=by rw [Zdh] at h1;simp at h1;simp [ZhL,h1]
  rw [e8]
  refine Wf ctx.length 0 (fun i t _=>t 5=N i∧Zl (okAt s.size ctx) i=true) (by simp) (by omega) ?_
  rintro i t1 hh hf hi ⟨e5,hj⟩
  (have e1:=hf 1 (by kernel_rfl);have e2:=hf 2 (by kernel_rfl);clear hf;simp [] at e1 e2)
  simp (disch:=omega) [e1,e2,e5]
  (with_reducible first | refine Qk (fun h6=>?_) (fun h6=>?_) | refine Ql (fun h6=>?_) (fun h6=>?_))
  ·simp only [Qf,Qd,Qi,Qh,Qc,Qb,Bool.not_true,Bool.not_false] at h6
   have hL:Lok (ctx[i]'(by omega)).2:=hw.2 _ (List.getElem_mem _)
   have ha:=Zob (size:=s.size) (ctx:=ctx) (i:=i) (by omega)
   simp (disch:=omega) [e1,e2,e5,Kl]
   rcases h:ctx[i]'(by omega) with ⟨nl1,ty⟩
   rw [h] at hL ha
   simp only at hL
   repeat' (first
  | with_reducible refine Qa (Zid nl1 ty hL) (by simp) ?_
  | with_reducible refine Qa (Zep nl1 ty hL s.size hI true) (by simp) ?_
  | (with_reducible (first | refine Qk (fun hb_=>?_) (fun hb_=>?_) | refine Ql (fun hb_=>?_) (fun hb_=>?_))<;>simp (disch:=omega) [hb_,e1,e2,e5,Kl,h])
  | simp (disch:=omega) [e1,e2,e5,Kl,h])
   all_goals first
    | exact ⟨by omega,Qg (by omega),by simp_all [WG,okT]⟩
    | exact (XR (p:=okAt s.size ctx) (i:=i) (by omega) (by simp_all [okT]))
  ·simp only [Qf,Qd,Qi,Qh,Qc,Qb,Bool.not_true,Bool.not_false] at h6
   simp (disch:=omega)
   rw [show i=ctx.length by omega] at hj
   rw [hj]
theorem ZjQ (s:GSys) (t:s.Tab) (c:Bool×List Int) (hL:Lok c.2):FnB Tryz.prog (.fn Yv [.rp s.cells]) (eC c) (!okT s.size c):=by
 refine ⟨Yv,[eC c,.rp s.cells],by simp [ZW],by simp,?_⟩
 refine Qe.of_codeOf Zf1 Qx (by simp) ⟨_,rfl,by simp⟩ ?_
 obtain ⟨nl1,ty⟩:=c
 simp (disch:=omega) [Za0]
 repeat' (first
  | with_reducible refine Qa (ZeO t nl1 ty hL) (by simp) ?_
  | (with_reducible (first | refine Qk (fun hb_=>?_) (fun hb_=>?_) | refine Ql (fun hb_=>?_) (fun hb_=>?_))<;>simp (disch:=omega) [hb_])
  | simp (disch:=omega))
 all_goals simp [okT]
theorem Zo7 (f:LV) (p:Bool×List Int->Bool) (sf:share f=f) (lf:Low 0 f) (nl:Bool) (ctx:Wk) (hw:ctx.wf) (hp:∀ c∈ctx,FnB Tryz.prog f (eC c) (p c)) :
  Qe Tryz.prog Xt [LC nl ctx,f] (fun r=>∃ n:Int,r=N n∧leB 0 n=ctx.any p):=by
 have hlen:=hw.1
 refine Qe.of_codeOf KM Qx (by simp) ⟨N (if ctx.any p=true then 0 else -1),⟨_,rfl,by split<;>simp_all [leB]⟩,by simp⟩ ?_
 simp (disch:=omega) [YB]
 refine Wf ctx.length 0 (fun i t _=>t 8=N i∧ctx.any p=(ctx.drop i).any p) (by simp) (by omega) ?_
 rintro i t1 hh hf hi ⟨e8,hj⟩
 (have e0:=hf 0 (by kernel_rfl);have e1:=hf 1 (by kernel_rfl);have e6:=hf 6 (by kernel_rfl);have e7:=hf 7 (by kernel_rfl);clear hf;simp [sf] at e0 e1 e6 e7)
 simp (disch:=omega) [e0,e1,e6,e7,e8]
 (with_reducible first | refine Qk (fun h6=>?_) (fun h6=>?_) | refine Ql (fun h6=>?_) (fun h6=>?_))
 ·simp only [Qf,Qd,Qi,Qh,Qc,Qb,Bool.not_true,Bool.not_false] at h6
  have hd:=List.drop_eq_getElem_cons (l:=ctx) (i:=i) (by omega)
  have hpc:=hp (ctx[i]'(by omega)) (List.getElem_mem _)
  simp (disch:=omega) [e0,e1,e6,e7,e8,Kl,sf]
  repeat' (first
  | with_reducible refine Zlm hpc ?_
  | (with_reducible (first | refine Qk (fun hb_=>?_) (fun hb_=>?_) | refine Ql (fun hb_=>?_) (fun hb_=>?_))<;>simp (disch:=omega) [hb_,e0,e1,e6,e7,e8,Kl,sf])
  | simp (disch:=omega) [e0,e1,e6,e7,e8,Kl,sf])
  ·rw [hj,hd,List.any_cons,hb_,Bool.true_or,Qi];omega
  ·exact ⟨by omega,Qg (by omega),by rw [hj,hd,List.any_cons,hb_,Bool.false_or]⟩
 ·simp only [Qf,Qd,Qi,Qh,Qc,Qb,Bool.not_true,Bool.not_false] at h6
  simp (disch:=omega)
  rw [hj,show i=ctx.length by omega,List.drop_length];simp [leB]
theorem ZkE {P:Program} {K:St->Prop} {s:St} {rw:Rw} {d:Nat} {f:FuncId} {vals:List LV} {R:LV->Prop} (c:Qe P f vals R) (hl:QI 0 vals) (hk:∀ r,R r->K { t:=upd s.t d r,h:=s.h }) (hrw:rw≠.fr∧rw.isAp=false:=by simp [Rw.isAp]):Jf P rw f vals (some d) K s:=Qp c hl hk hrw
theorem Zdm (f:LV) (p:Bool×List Int->Bool) (sf:share f=f) (lf:Low 0 f) (nl:Bool) (ctx:Wk) (hw:ctx.wf) (hp:∀ c∈ctx,FnB Tryz.prog f (eC c) (p c)) :
  Qe Tryz.prog WC [LC nl ctx,f] (·=B (ctx.any p)):=by
 refine Qe.of_codeOf Kd Qx (by simp) ⟨_,rfl,by simp⟩ ?_
 simp (disch:=omega) [Ya,sf]
 refine ZkE (Zo7 f p sf lf nl ctx hw hp) (by simp [lf]) ?_
 rintro r ⟨n,rfl,hn⟩
 simp (disch:=omega) [sf,hn]
theorem ZqS {ctx:Wk} {size:Int}:∀ n,n<=ctx.length->Zl (okAt size ctx) n=!((ctx.take n).any fun c=>!okT size c)
 | 0,_=>by simp
 | n+1,h=>by
  rw [WG,ZqS n (by omega),Zob (by omega),List.take_succ_eq_append_getElem (by omega),List.any_append]
  simp [Bool.not_or]
theorem ZoM (s:GSys) (t:s.Tab) (nl:Bool) (ctx:Wk) (hw:ctx.wf):Qe Tryz.prog Vz [s.lv,LC nl ctx] (·=B (ZhL s.size ctx)):=by
 refine Qe.of_codeOf ZhW Qx (by simp) ⟨_,rfl,by simp⟩ ?_
 have hlen:=hw.1
 have hc:=Zdm (.fn Yv [.rp s.cells]) (fun c=>!okT s.size c) (by simp) (by simp) nl ctx hw (fun c hc=>ZjQ s t c (hw.2 c hc))
 have ha:=ZqS (ctx:=ctx) (size:=s.size) ctx.length (by omega)
 rw [List.take_length] at ha
 simp (disch:=omega) [Zcp,Qt,Qo]
 repeat' (first
  | with_reducible refine Qa (hc) (by simp) ?_
  | (with_reducible (first | refine Qk (fun hb_=>?_) (fun hb_=>?_) | refine Ql (fun hb_=>?_) (fun hb_=>?_))<;>simp (disch:=omega) [hb_])
  | simp (disch:=omega))
 all_goals simp_all [ZhL]
structure GSes where
 sys:GSys
 nl:Bool
 ctx:Wk
 term:GTerm
def GSes.cells (x:GSes):List LV:=x.sys.cells++(LC x.nl x.ctx::x.term.cells)
abbrev GSes.lv (x:GSes):LV:=.agg x.cells
def GSes.wf (x:GSes):Prop:=x.sys.wf∧x.ctx.wf∧x.term.wf
def GSes.ok (x:GSes):Bool:=x.sys.sys && (ZhL x.sys.size x.ctx && x.term.writ)
def Rok (l:List Int):Prop:=l.length<=9223372036854775807∧∀ n∈l,I64 n
def GSys.raw (s:GSys):Prop:=I64 s.size∧Rok s.plus∧Rok s.times∧s.below.length<=9223372036854775807
def GSys.w (s:GSys):Nat:=s.plus.length+(s.times.length+s.below.length)
theorem GSys.wf_of {s:GSys} (h:s.raw) (hw:s.w<=1099511627776):s.wf:=by
 obtain ⟨h1,⟨h2,h3⟩,⟨h4,h5⟩,h6⟩:=h
 unfold GSys.w at hw
 exact ⟨h1,by omega,by omega,by omega,h3,h5⟩
def GSys.norm (s:GSys):GSys:={ s with n1:=false,n2:=false,n3:=false }
def GSys.own (s:GSys):List LV:=[N s.size,OU true false s.plus,OU true false s.times,OB true false s.below]
@[simp] theorem GSys.share_own (s:GSys):shareAll s.own=s.norm.cells:=by simp [GSys.own,GSys.norm]
@[simp] theorem GSys.low_own (s:GSys) (k:Nat):QI k s.own:=by simp [GSys.own]
@[simp] theorem GSys.own_length (s:GSys):s.own.length=4:=rfl
def GSys.same (a b:GSys):Bool:=eqB a.size b.size && ((a.plus == b.plus) && ((a.times == b.times) && (a.below == b.below)))
theorem GSys.same_refl (a:GSys):a.same a=true:=by simp [GSys.same]
theorem ZqN (s:GSys) (hr:s.raw) (left:Int) (h0:0<=left) (h1:left<=1099511627776):Qe Tryz.prog Zao [s.lv,N left] (·=N (Xi s.w left)):=by
 refine Qe.of_codeOf ZiS Qx (by simp) ⟨_,rfl,by simp⟩ ?_
 obtain ⟨_,⟨hp,_⟩,⟨ht,_⟩,hb⟩:=hr
 have r1:=X1 (a:=s.plus.length) h0
 simp (disch:=omega) [Zdl,Qt,Qo]
 refine Qa (ZeY _ _ hp left h0 h1) (by simp) ?_
 simp (disch:=omega)
 rw [GSys.w,J4 h0]
 (with_reducible first | refine Qk (fun h2=>?_) (fun h2=>?_) | refine Ql (fun h2=>?_) (fun h2=>?_))
 ·simp only [Qf,Qd,Qi,Qh,Qc,Qb,Bool.not_true,Bool.not_false] at h2
  simp (disch:=omega)
  rw [Zcv h2]
 simp only [Qf,Qd,Qi,Qh,Qc,Qb,Bool.not_true,Bool.not_false] at h2
 have r2:=X1 (a:=s.times.length) h2
 simp (disch:=omega)
 refine Qa (ZeY _ _ ht _ h2 (by omega)) (by simp) ?_
 simp (disch:=omega)
 rw [J4 h2]
 (with_reducible first | refine Qk (fun h3=>?_) (fun h3=>?_) | refine Ql (fun h3=>?_) (fun h3=>?_))
 ·simp only [Qf,Qd,Qi,Qh,Qc,Qb,Bool.not_true,Bool.not_false] at h3
  simp (disch:=omega)
  rw [Zcv h3]
 simp only [Qf,Qd,Qi,Qh,Qc,Qb,Bool.not_true,Bool.not_false] at h3
 have r3:=X1 (a:=s.below.length) h3
 simp (disch:=omega)
 refine Qa (Zr7 _ _ hb _ h3 (by omega)) (by simp) ?_
 repeat' (first
  | (with_reducible (first | refine Qk (fun hb_=>?_) (fun hb_=>?_) | refine Ql (fun hb_=>?_) (fun hb_=>?_))<;>simp (disch:=omega) [hb_])
  | simp (disch:=omega))
 all_goals simp only [Qf,Qd,Qi,Qh,Qc,Qb,Bool.not_true,Bool.not_false] at hb_
 all_goals omega
theorem Zqw (s:GSys) (hw:s.wf):Qe Tryz.prog YJ [s.lv] (·=.agg s.own):=by
 refine Qe.of_codeOf Zjc Qx (by simp) ⟨_,rfl,by simp⟩ ?_
 obtain ⟨hs,h1,h2,h3,h4,h5⟩:=hw
 have t1:=Ze9 s.n1 s.plus h1
 have t2:=Ze9 s.n2 s.times h2
 have t3:=ZrK s.n3 s.below h3
 simp (disch:=omega) [Zdq,Qt,Qo]
 repeat' (first
  | with_reducible refine Qa (t1) (by simp) ?_
  | with_reducible refine Qa (t2) (by simp) ?_
  | with_reducible refine Qa (t3) (by simp) ?_
  | (with_reducible (first | refine Qk (fun hb_=>?_) (fun hb_=>?_) | refine Ql (fun hb_=>?_) (fun hb_=>?_))<;>simp (disch:=omega) [hb_])
  | simp (disch:=omega))
 all_goals simp [GSys.own]
theorem Zqv (a b:GSys) (hw:a.wf):Qe Tryz.prog Zaw [a.lv,b.lv] (·=B (a.same b)):=by
 refine Qe.of_codeOf Zi5 Qx (by simp) ⟨_,rfl,by simp⟩ ?_
 obtain ⟨hs,h1,h2,h3,h4,h5⟩:=hw
 have t1:=ZaT a.n1 b.n1 a.plus b.plus h1
 have t2:=ZaT a.n2 b.n2 a.times b.times h2
 have t3:=Zrd a.n3 b.n3 a.below b.below h3
 rw [GSys.same]
 generalize (a.plus == b.plus)=q1 at *
 generalize (a.times == b.times)=q2 at *
 generalize (a.below == b.below)=q3 at *
 simp (disch:=omega) [Zdx,Qt,Qo]
 repeat' (first
  | with_reducible refine Qa (t1) (by simp) ?_
  | with_reducible refine Qa (t2) (by simp) ?_
  | with_reducible refine Qa (t3) (by simp) ?_
  | (with_reducible (first | refine Qk (fun hb_=>?_) (fun hb_=>?_) | refine Ql (fun hb_=>?_) (fun hb_=>?_))<;>simp (disch:=omega) [hb_])
  | simp (disch:=omega))
 all_goals simp_all
def GSes.raw (x:GSes):Prop:=x.sys.raw∧x.ctx.raw∧x.term.raw
def GSes.w (x:GSes):Nat:=x.sys.w+((x.ctx.length+cws x.ctx)+x.term.w)
theorem GSes.wf_of {x:GSes} (h:x.raw) (hw:x.w<=1099511627776):x.wf:=by
 obtain ⟨h1,h2,h3⟩:=h
 unfold GSes.w at hw
 exact ⟨GSys.wf_of h1 (by omega),⟨by omega,fun c hc=>⟨by have:=Zjx hc;omega,(h2.2 c hc).2⟩⟩,Go.Proofs.YtbmepminmpjlcaaGreat.wf_of x.term h3 (by omega)⟩
def GSes.norm (x:GSes):GSes:=⟨x.sys.norm,false,x.ctx.norm,x.term.norm⟩
def GSes.own (x:GSes):List LV:=x.sys.own++(x.ctx.own::x.term.own)
@[simp] theorem Zhz:∀ a b:List LV,shareAll (a++b)=shareAll a++shareAll b
 | [],b=>by simp [shareAll]
 | x::a,b=>by simp [shareAll,Zhz a b]
@[simp] theorem Zle (k:Nat):∀ a b:List LV,QI k (a++b) ↔ QI k a∧QI k b
 | [],b=>by simp
 | x::a,b=>by simp [Zle k a b,and_assoc]
@[simp] theorem GSes.share_own (x:GSes):shareAll x.own=x.norm.cells:=by
 simp [GSes.own,GSes.norm,GSes.cells,Wk.norm]
@[simp] theorem GSes.low_own (x:GSes) (k:Nat):QI k x.own:=by simp [GSes.own]
@[simp] theorem GSes.low_cells (x:GSes) (k:Nat):QI k x.cells:=by simp [GSes.cells]
@[simp] theorem GSes.share_cells (x:GSes):shareAll x.cells=x.cells:=by simp [GSes.cells]
@[simp] theorem GSes.cells_length (x:GSes):x.cells.length=9:=by simp [GSes.cells]
@[simp] theorem GSes.own_length (x:GSes):x.own.length=9:=by simp [GSes.own]
@[simp] theorem GSes.take_cells (x:GSes):x.cells.take 9=x.cells:=List.take_of_length_le (by simp)
@[simp] theorem GSes.take_own (x:GSes):x.own.take 9=x.own:=List.take_of_length_le (by simp)
@[simp] theorem GSes.alive_own (x:GSes):WK x.own=true:=by simp [GSes.own,GSys.own]
@[simp] theorem GSes.alive_cells (x:GSes):WK x.cells=true:=by simp [GSes.cells]
theorem Wk.norm_wf {c:Wk} (h:c.wf):c.norm.wf:=by
 refine ⟨by simpa [Wk.norm] using h.1,fun d hd=>?_⟩
 simp only [Wk.norm,List.mem_map] at hd
 obtain ⟨e,he,rfl⟩:=hd
 exact h.2 e he
theorem GSes.norm_wf {x:GSes} (h:x.wf):x.norm.wf:=⟨h.1,Wk.norm_wf h.2.1,Go.Proofs.YtbmepminmpjlcaaGreat.norm_wf _ h.2.2⟩
def GSes.same (a b:GSes):Bool:=a.sys.same b.sys && (Zet a.ctx b.ctx && a.term.same b.term)
theorem GSes.same_refl (a:GSes):a.same a=true:=by simp [GSes.same,GSys.same_refl,Zf0,Go.Proofs.YtbmepminmpjlcaaGreat.same_refl]
open Go
open Go.TL (GM.all Rep RepVals Qu Qw LV)
open Go.TL (N B)
variable {H:Type} {enc:TypeId×Value->H} {P:Program} {w:World} {base:Nat} {spare:Nat->Bool} {held:Bool}
def Za (w:World) (xs:List LV) (cs:List Value):Prop:=RepVals (GM.all w) [] xs cs []∧∀ c∈cs,c.oneCell'=true
theorem Za.nil:Za w [] []:=⟨by simp [RepVals],by simp⟩
theorem Za.cons {x : LV} {v : Value} {xs : List LV} {cs : List Value} (h : Rep (GM.all w) [] x v []) (h1 : v.oneCell' = true) (ht : Za w xs cs) : Za w (x :: xs) (v :: cs) := by
  refine ⟨?_, by intro c hc; simp only [List.mem_cons] at hc; rcases hc with rfl | hc; · exact h1
                 · exact ht.2 c hc⟩
  simp only [RepVals]
  exact ⟨v, cs, [], [], rfl, rfl, h, ht.1⟩
theorem Za.app {xs ys:List LV} {cs ds:List Value} (h1:Za w xs cs) (h2:Za w ys ds):Za w (xs++ys) (cs++ds):=by
 induction xs generalizing cs with
 | nil =>
  obtain ⟨h,_⟩:=h1
  simp only [RepVals] at h
  rw [h.1];simpa using h2
 | cons x xs ih =>
  obtain ⟨h,hc⟩:=h1
  simp only [RepVals] at h
  obtain ⟨v,ws,O1,O2,rfl,hO,g1,g2⟩:=h
  obtain ⟨rfl,rfl⟩:=List.append_eq_nil_iff.1 hO.symm
  exact Za.cons g1 (hc v (by simp)) (ih ⟨g2,fun c hc'=>hc c (by simp [hc'])⟩)
theorem Za.length {xs:List LV} {cs:List Value} (h:Za w xs cs):cs.length=xs.length:=by
 induction xs generalizing cs with
 | nil=>have:=h.1;simp only [RepVals] at this;rw [this.1];rfl
 | cons x xs ih =>
  obtain ⟨h,hc⟩:=h
  simp only [RepVals] at h
  obtain ⟨v,ws,O1,O2,rfl,hO,g1,g2⟩:=h
  obtain ⟨rfl,rfl⟩:=List.append_eq_nil_iff.1 hO.symm
  simp [ih ⟨g2,fun c hc'=>hc c (by simp [hc'])⟩]
theorem Za.cells {xs:List LV} {cs:List Value} (h:Za w xs cs) (b off:Nat) (hc:∀ i,i < cs.length->w.cell? ⟨b,off+i,none⟩=cs[i]?):Qu (GM.all w) [] xs b off []:=by
 induction xs generalizing cs off with
 | nil=>simp [Qu]
 | cons x xs ih =>
  obtain ⟨h,h1⟩:=h
  simp only [RepVals] at h
  obtain ⟨v,ws,O1,O2,rfl,hO,g1,g2⟩:=h
  obtain ⟨rfl,rfl⟩:=List.append_eq_nil_iff.1 hO.symm
  simp only [Qu]
  refine ⟨v,[],[],rfl,by simpa [GM.all] using hc 0 (by simp),h1 v (by simp),g1,ih ⟨g2,fun c hc'=>h1 c (by simp [hc'])⟩ (off+1) fun i hi=>?_⟩
  have:=hc (i+1) (by simpa using hi)
  rw [show off+1+i=off+(i+1) by omega]
  simpa using this
theorem Zki {a:Addr} {n:Nat} {cs:List Value} (h:w.cells? base a n=some cs):cs.length=n∧∀ i,i < n->w.cell? (a.add i)=cs[i]?:=by
 unfold World.cells? at h
 split at h
 ·refine ⟨by simpa using mapM_some_length h,fun i hi=>by simpa [hi] using mapM_some_get h i i (by simp [hi])⟩
 ·simp at h
theorem ZnP {a:Addr} {v:Value} (h:w.cell? a=some v):a.spot=none:=by
 unfold World.cell? at h
 split at h
 ·split at h
  ·simp at h
  ·rename_i hs;simpa using hs
 ·simp at h
theorem add_at {b off i:Nat}:(⟨b,off,none⟩:Addr).add i=⟨b,off+i,none⟩:=by
 unfold Addr.add;split<;>simp_all
theorem Zn9 {t:TypeId} (ht:P.underlying t=some (.int .i64)) {fuel:Nat} {cs:List Value} {x:DataW H×List MemPlace} (h:DataW.trod enc P w base spare held fuel t cs=some x) :
  ∃ n:Int,I64 n∧Za w [N n] cs:=by
 obtain ⟨n,rfl,_,hw⟩:=DataW.trod_int ht h
 refine ⟨n,?_,Za.cons (by simp [Rep]) rfl Za.nil⟩
 simp [Lit.wf,IntKind.min,IntKind.max,IntKind.signed,IntKind.bits] at hw
 unfold I64;omega
theorem rd_bool {t:TypeId} (ht:P.underlying t=some .bool) {fuel:Nat} {cs:List Value} {x:DataW H×List MemPlace} (h:DataW.trod enc P w base spare held fuel t cs=some x) :
  ∃ b:Bool,Za w [B b] cs:=by
 obtain ⟨b,rfl,_⟩:=DataW.trod_bool ht h
 exact ⟨b,Za.cons (by simp [Rep]) rfl Za.nil⟩
theorem ZeN {α:Type} (e:α->List LV) (Q:α->Prop) {t et:TypeId} {sz:Nat} (hsz:P.cellsOf et=sz) (hpos:0 < sz) (ht:P.underlying t=some (.slice et)) {fuel:Nat}
  (each:∀ n cs y,n < fuel->DataW.trod enc P w base spare held n et cs=some y->∃ r,Q r∧Za w (e r) cs∧(e r).length=sz)
  {cs:List Value} {x:DataW H×List MemPlace} (h:DataW.trod enc P w base spare held fuel t cs=some x) :
  ∃ (nl:Bool) (l:List α),(∀ r∈l,Q r)∧l.length<=9223372036854775807∧Za w [.sl false nl sz (l.map e)] cs:=by
 rcases DataW.trod_slice ht h with ⟨rfl,_⟩ | ⟨a,len,cap,elems,rest,n,rfl,rfl,_,_,hlc,hcm,hlen,hel,_,_⟩
 ·exact ⟨true,[],by simp,by simp,Za.cons (by simp [Rep]) rfl Za.nil⟩
 ·rw [hsz] at hel
  have get:∀ i,i < len->∃ r,Q r∧(e r).length=sz∧a.spot=none∧Qu (GM.all w) [] (e r) a.block (a.off+i * sz) []:=by
   intro i hi
   have h1:=hel i hi
   have h2:elems[i]?=some (elems[i]'(by omega)):=List.getElem?_eq_getElem _
   rw [h2,Option.bind_eq_some_iff] at h1
   obtain ⟨cs',hc,htr⟩:=h1
   obtain ⟨r,hq,hv,hl⟩:=each n cs' _ (by omega) htr
   obtain ⟨hcl,hcg⟩:=Zki hc
   have hs:a.spot=none:=by
    by_cases hi0:i=0
    ·have:=hcg 0 hpos
     rw [List.getElem?_eq_getElem (by omega)] at this
     have hs:=ZnP this
     simpa [hi0,Addr.add] using hs
    ·have h0:=hel 0 (by omega)
     have h2:elems[0]?=some (elems[0]'(by omega)):=List.getElem?_eq_getElem _
     rw [h2,Option.bind_eq_some_iff] at h0
     obtain ⟨cs0,hc0,_⟩:=h0
     obtain ⟨hcl0,hcg0⟩:=Zki hc0
     have:=hcg0 0 hpos
     rw [List.getElem?_eq_getElem (by omega)] at this
     have hs:=ZnP this
     simpa [Addr.add] using hs
   refine ⟨r,hq,hl,hs,hv.cells _ _ fun j hj=>?_⟩
   have:=hcg j (by omega)
   rw [<- this]
   obtain ⟨b,off,sp⟩:=a
   simp only at hs
   subst hs
   rw [add_at,add_at]
  have Qj:∀ k i,i+k=len->∃ l:List α,l.length=k∧(∀ r∈l,Q r)∧Qw (GM.all w) [] (l.map e) sz a.block (a.off+i * sz) []:=by
   intro k
   induction k with
   | zero=>intro i hi;exact ⟨[],rfl,by simp,by simp [Qw]⟩
   | succ k ih =>
    intro i hi
    obtain ⟨r,hq,hl,_,hc⟩:=get i (by omega)
    obtain ⟨l,h1,h2,h3⟩:=ih (i+1) (by omega)
    refine ⟨r::l,by simp [h1],by simpa using ⟨hq,h2⟩,?_⟩
    simp only [List.map_cons,Qw]
    refine ⟨[],[],rfl,hl,hc,?_⟩
    rw [show a.off+i * sz+sz=a.off+(i+1) * sz by rw [Nat.add_mul];omega]
    exact h3
  obtain ⟨l,h1,h2,h3⟩:=Qj len 0 (by omega)
  have hmx:maxLen=9223372036854775807:=by decide
  refine ⟨false,l,h2,by omega,Za.cons ?_ rfl Za.nil⟩
  obtain ⟨b,off,sp⟩:=a
  simp only [Rep]
  refine .inr ⟨trivial,b,off,sp,cap,[],by simp [h1],?_,by simp [h1,hlc],by simpa using h3,.inr ⟨.inl trivial,rfl⟩⟩
  by_cases h0:len=0
  ·right
   refine ⟨?_,.inl trivial⟩
   simp;exact List.eq_nil_of_length_eq_zero (by omega)
  ·left
   obtain ⟨_,_,_,hs,_⟩:=get 0 (by omega)
   exact hs
theorem ZjF {t et:TypeId} (he:P.underlying et=some (.int .i64)) (hsz:P.cellsOf et=1) (ht:P.underlying t=some (.slice et)) {fuel:Nat} {cs:List Value} {x:DataW H×List MemPlace}
  (h:DataW.trod enc P w base spare held fuel t cs=some x):∃ nl l,Rok l∧Za w [L nl l] cs:=by
 obtain ⟨nl,l,hq,hl,hv⟩:=ZeN (fun n=>[N n]) I64 hsz (by omega) ht (fun n cs y _ hy=>by
  obtain ⟨m,h1,h2⟩:=Zn9 he hy
  exact ⟨m,h1,h2,rfl⟩) h
 exact ⟨nl,l,⟨hl,hq⟩,hv⟩
theorem rd_bools {t et:TypeId} (he:P.underlying et=some .bool) (hsz:P.cellsOf et=1) (ht:P.underlying t=some (.slice et)) {fuel:Nat} {cs:List Value} {x:DataW H×List MemPlace}
  (h:DataW.trod enc P w base spare held fuel t cs=some x):∃ nl l,l.length<=9223372036854775807∧Za w [LB nl l] cs:=by
 obtain ⟨nl,l,hq,hl,hv⟩:=ZeN (fun b=>[B b]) (fun _=>True) hsz (by omega) ht (fun n cs y _ hy=>by
  obtain ⟨m,h2⟩:=rd_bool he hy
  exact ⟨m,trivial,h2,rfl⟩) h
 exact ⟨nl,l,hl,hv⟩
theorem rd_ctx {t rt et:TypeId} (he:P.underlying et=some (.int .i64)) (hsz:P.cellsOf et=1) (hr:P.underlying rt=some (.slice et)) (hrz:P.cellsOf rt=1) (ht:P.underlying t=some (.slice rt)) {fuel:Nat} {cs:List Value} {x:DataW H×List MemPlace}
  (h:DataW.trod enc P w base spare held fuel t cs=some x):∃ (nl:Bool) (c:Wk),c.raw∧Za w [LC nl c] cs:=by
 obtain ⟨nl,l,hq,hl,hv⟩:=ZeN (fun c:Bool×List Int=>[eC c]) (fun c=>Rok c.2) hrz (by omega) ht (fun n cs y _ hy=>by
  obtain ⟨nl,m,h1,h2⟩:=ZjF he hsz hr hy
  exact ⟨(nl,m),h1,h2,rfl⟩) h
 exact ⟨nl,l,⟨hl,hq⟩,hv⟩
theorem four {cs:List Value} {w0 w1 w2 w3:List LV} (hl:cs.length=4) (h0:Za w w0 (cs.take 1)) (h1:Za w w1 ((cs.drop 1).take 1)) (h2:Za w w2 ((cs.drop 2).take 1)) (h3:Za w w3 ((cs.drop 3).take 1)):Za w (w0++(w1++(w2++w3))) cs:=by
 match cs,hl with
 | [a,b,c,d],_=>exact h0.app (h1.app (h2.app h3))
structure Tys (P:Program) where
 tI:TypeId
 tB:TypeId
 tL:TypeId
 tLB:TypeId
 tC:TypeId
 tT:TypeId
 tK:TypeId
 tS:TypeId
 fT:Array Field
 fS:Array Field
 hI:P.underlying tI=some (.int .i64)
 hB:P.underlying tB=some .bool
 hL:P.underlying tL=some (.slice tI)
 hLB:P.underlying tLB=some (.slice tB)
 hC:P.underlying tC=some (.slice tL)
 hT:P.underlying tT=some (.struct fT)
 hK:P.underlying tK=some (.slice tT)
 hS:P.underlying tS=some (.struct fS)
 cI:P.cellsOf tI=1
 cB:P.cellsOf tB=1
 cL:P.cellsOf tL=1
 cLB:P.cellsOf tLB=1
 cT:P.cellsOf tT=4
 cK:P.cellsOf tK=1
 cS:P.cellsOf tS=4
 T0:(fT[0]?).map (fun f=>(f.type,f.offset))=some (tI,0)
 T1:(fT[1]?).map (fun f=>(f.type,f.offset))=some (tI,1)
 T2:(fT[2]?).map (fun f=>(f.type,f.offset))=some (tL,2)
 T3:(fT[3]?).map (fun f=>(f.type,f.offset))=some (tK,3)
 S0:(fS[0]?).map (fun f=>(f.type,f.offset))=some (tI,0)
 S1:(fS[1]?).map (fun f=>(f.type,f.offset))=some (tL,1)
 S2:(fS[2]?).map (fun f=>(f.type,f.offset))=some (tL,2)
 S3:(fS[3]?).map (fun f=>(f.type,f.offset))=some (tLB,3)
theorem Zah {fs:Array Field} {i:Nat} {t:TypeId} {o:Nat} (h:(fs[i]?).map (fun f=>(f.type,f.offset))=some (t,o)) {n:Nat} {cs:List Value} {xs:List (DataW H×List MemPlace)} (hl:xs.length=fs.size)
  (hf:∀ (i:Nat) (f:Field),fs[i]?=some f->DataW.trod enc P w base spare held n f.type ((cs.drop f.offset).take (P.cellsOf f.type))=xs[i]?) :
  ∃ y,DataW.trod enc P w base spare held n t ((cs.drop o).take (P.cellsOf t))=some y:=by
 rw [Option.map_eq_some_iff] at h
 obtain ⟨f,hf1,h2⟩:=h
 simp only [Prod.mk.injEq] at h2
 obtain ⟨rfl,rfl⟩:=h2
 have hi:i < xs.length:=by
  rw [hl]
  exact (Array.getElem?_eq_some_iff.1 hf1).1
 exact ⟨xs[i],by rw [hf i f hf1];exact List.getElem?_eq_getElem hi⟩
theorem rd_sys (T:Tys P) {fuel:Nat} {cs:List Value} {x:DataW H×List MemPlace} (h:DataW.trod enc P w base spare held fuel T.tS cs=some x) :
  ∃ s:GSys,s.raw∧Za w s.cells cs:=by
 obtain ⟨xs,n,rfl,_,hl,hlen,hf⟩:=DataW.trod_struct T.hS h
 rw [T.cS] at hl
 obtain ⟨y0,h0⟩:=Zah T.S0 hlen hf
 obtain ⟨y1,h1⟩:=Zah T.S1 hlen hf
 obtain ⟨y2,h2⟩:=Zah T.S2 hlen hf
 obtain ⟨y3,h3⟩:=Zah T.S3 hlen hf
 rw [T.cI] at h0;rw [T.cL] at h1 h2;rw [T.cLB] at h3
 obtain ⟨size,r0,v0⟩:=Zn9 T.hI h0
 obtain ⟨n1,plus,r1,v1⟩:=ZjF T.hI T.cI T.hL h1
 obtain ⟨n2,times,r2,v2⟩:=ZjF T.hI T.cI T.hL h2
 obtain ⟨n3,below,r3,v3⟩:=rd_bools T.hB T.cB T.hLB h3
 exact ⟨⟨size,n1,plus,n2,times,n3,below⟩,⟨r0,r1,r2,r3⟩,four hl v0 v1 v2 v3⟩
theorem Zsv (T:Tys P):∀ (fuel:Nat) {cs:List Value} {x:DataW H×List MemPlace},DataW.trod enc P w base spare held fuel T.tT cs=some x->∃ t:GTerm,t.raw∧Za w t.cells cs:=by
 intro fuel
 induction fuel using Nat.strongRecOn with
 | _ fuel ih =>
  intro cs x h
  obtain ⟨xs,n,rfl,_,hl,hlen,hf⟩:=DataW.trod_struct T.hT h
  rw [T.cT] at hl
  obtain ⟨y0,h0⟩:=Zah T.T0 hlen hf
  obtain ⟨y1,h1⟩:=Zah T.T1 hlen hf
  obtain ⟨y2,h2⟩:=Zah T.T2 hlen hf
  obtain ⟨y3,h3⟩:=Zah T.T3 hlen hf
  rw [T.cI] at h0 h1;rw [T.cL] at h2;rw [T.cK] at h3
  obtain ⟨op,r0,v0⟩:=Zn9 T.hI h0
  obtain ⟨m,r1,v1⟩:=Zn9 T.hI h1
  obtain ⟨n1,ty,r2,v2⟩:=ZjF T.hI T.cI T.hL h2
  obtain ⟨n2,ks,r3,hlk,v3⟩:=ZeN GTerm.cells GTerm.raw T.cT (by omega) T.hK (fun k cs' y hk hy=>by
   obtain ⟨t,g1,g2⟩:=ih k (by omega) hy
   exact ⟨t,g1,g2,by simp⟩) h3
  refine ⟨.mk op m n1 ty n2 ks,?_,?_⟩
  ·simp only [GTerm.raw]
   exact ⟨r0,r1,r2,hlk,Zlk.2 r3⟩
  ·simp only [GTerm.cells,ZaX]
   exact four hl v0 v1 v2 v3
theorem ZsA {xs:List LV} {cs:Array Value} (h:Za w xs cs.toList):Rep (GM.all w) [] (.agg xs) (.agg cs) []:=by
 simp only [Rep]
 exact ⟨cs.toList,by simp,h.2,h.1⟩
end Go.Proofs.YtbmepminmpjlcaaGreat
namespace Go.TL
mutual
def nz:LV->LV
 | .sc v=>.sc v
 | .sl u nl sz xs=>if nl && xs.isEmpty then .sl false true 0 [] else .sl u nl sz (ZfV xs)
 | .ha l sz off n cap=>.ha l sz off n cap
 | .raw sz=>.raw sz
 | .ptr l o=>.ptr l o
 | .rp xs=>.rp (YA xs)
 | .fn f caps=>.fn f (YA caps)
 | .fnm f first=>.fnm f (YA first)
 | .agg xs=>.agg (YA xs)
 | .tup xs=>.tup (YA xs)
 | .dead=>.dead
 | .both u t=>.both u (nz t)
def YA:List LV->List LV
 | []=>[]
 | x::xs=>nz x::YA xs
def ZfV:List (List LV)->List (List LV)
 | []=>[]
 | x::xs=>YA x::ZfV xs
end
theorem ZgN:∀ xs:List LV,(YA xs).length=xs.length
 | []=>rfl
 | _::xs=>by simp only [YA,List.length_cons,ZgN xs]
theorem ZhD:∀ xs:List (List LV),(ZfV xs).length=xs.length
 | []=>rfl
 | _::xs=>by simp only [ZfV,List.length_cons,ZhD xs]
theorem Ztj:∀ xs:List (List LV),ZfV xs=[] ↔ xs=[]
 | []=>by simp [ZfV]
 | _::xs=>by simp [ZfV]
mutual
theorem Zj6 (A:GM) (μ:List Nat):∀ (x:LV) (v:Value) (O:List Own),Rep A μ (nz x) v O ↔ Rep A μ x v O
 | .sc u,v,O=>by simp only [nz]
 | .sl u nl sz xs,v,O=>by
  by_cases h:(nl && xs.isEmpty)=true
  ·have h':=h
   simp only [Bool.and_eq_true,List.isEmpty_iff] at h'
   obtain ⟨rfl,rfl⟩:=h'
   simp only [nz,h,if_true,Rep,Bool.true_eq_false,false_and,or_false]
  ·simp only [nz,if_neg h,Rep,ZhD,Ztj,Znv A μ xs]
 | .ha l sz off n cap,v,O=>by simp only [nz]
 | .raw sz,v,O=>by simp only [nz]
 | .ptr l o,v,O=>by simp only [nz]
 | .rp xs,v,O=>by simp only [nz,Rep,ZeI A μ xs]
 | .fn f caps,v,O=>by simp only [nz,Rep,Zv A μ caps]
 | .fnm f first,v,O=>by simp only [nz,Rep,Zv A μ first]
 | .agg xs,v,O=>by simp only [nz,Rep,Zv A μ xs]
 | .tup xs,v,O=>by simp only [nz,Rep,Zv A μ xs]
 | .dead,v,O=>by simp only [nz]
 | .both u t,v,O=>by simp only [nz,Rep,Zj6 A μ t]
theorem Znv (A:GM) (μ:List Nat):∀ (xs:List (List LV)) (sz b off:Nat) (O:List Own),Qw A μ (ZfV xs) sz b off O ↔ Qw A μ xs sz b off O
 | [],sz,b,off,O=>by simp only [ZfV]
 | x::xs,sz,b,off,O=>by simp only [ZfV,Qw,ZgN,ZeI A μ x,Znv A μ xs]
theorem ZeI (A:GM) (μ:List Nat):∀ (xs:List LV) (b off:Nat) (O:List Own),Qu A μ (YA xs) b off O ↔ Qu A μ xs b off O
 | [],b,off,O=>by simp only [YA]
 | x::xs,b,off,O=>by simp only [YA,Qu,Zj6 A μ x,ZeI A μ xs]
theorem Zv (A:GM) (μ:List Nat):∀ (xs:List LV) (vs:List Value) (O:List Own),RepVals A μ (YA xs) vs O ↔ RepVals A μ xs vs O
 | [],vs,O=>by simp only [YA]
 | x::xs,vs,O=>by simp only [YA,RepVals,Zj6 A μ x,Zv A μ xs]
end
theorem QE.nz {P:Program} {f:FuncId} {args args':List LV} {h:List Box} {R:LV->List Box->Prop} (c:QE P f args' h R) (e:YA args=YA args'):QE P f args h R:=by
 obtain ⟨h1,h2,h3⟩:=c
 refine ⟨h1,h2,fun w A μ OH vals Oa hv hi=>h3 w A μ OH vals Oa ?_ hi⟩
 rw [<- Zv,<- e,Zv]
 exact hv
theorem Qe.nz {P:Program} {f:FuncId} {args args':List LV} {R:LV->Prop} (c:Qe P f args' R) (e:YA args=YA args'):Qe P f args R:=QE.nz c e
theorem QE.nzR {P:Program} {f:FuncId} {args:List LV} {h:List Box} {R R':LV->List Box->Prop} (c:QE P f args h R) (hr:∀ r h',R r h'->∃ r',Go.TL.nz r'=Go.TL.nz r∧R' r' h'):QE P f args h R':=by
 obtain ⟨h1,⟨r,h',hR⟩,h2⟩:=c
 obtain ⟨r',_,hR'⟩:=hr r h' hR
 refine ⟨h1,⟨r',h',hR'⟩,fun w A μ OH vals Oa hv hi=>(h2 w A μ OH vals Oa hv hi).mono fun e w' he=>?_⟩
 obtain ⟨v,r,h',B,ν,OH',O',g1,g2,g3,g4⟩:=he
 obtain ⟨r',he',hR'⟩:=hr r h' g2
 exact ⟨v,r',h',B,ν,OH',O',g1,hR',(by rw [<- Zj6,he',Zj6];exact g3),g4⟩
def idxT (sz:Nat) (v:LV) (i:Int):Option LV :=
 match v with
 | .sl _ _ sz' xs=>if sz'=sz∧0<=i∧i < xs.length then some (.rp (xs.getD i.toNat [])) else none
 | _=>none
@[simp] theorem step_indexT {s:St} {d sz:Nat} {x i:X}:step (.indexT d sz x i) s=((intOf (get s.t i)).bind (idxT sz (get s.t x))).map ((s.give x).put d):=by
 simp only [step]
 cases hi:intOf (get s.t i) with
 | none=>cases get s.t x<;>simp
 | some i=>cases get s.t x<;>simp [idxT]<;>(try split)<;>simp_all
@[simp] theorem step_loadT {s:St} {d sz:Nat} {ag:Bool} {x:X}:step (.loadT d ag sz x) s=(rdLV ag sz (get s.t x)).map ((s.give x).put d):=by
 simp only [step,rdLV]
 cases get s.t x<;>simp
 split
 ·split<;>simp_all
 ·simp_all
@[simp] theorem idxT_sl {u nl:Bool} {sz:Nat} {xs:List (List LV)} {i:Int} (h:0<=i∧i < xs.length):idxT sz (.sl u nl sz xs) i=some (.rp (xs.getD i.toNat [])):=by
 simp [idxT,h.1,h.2]
theorem ZrY {P:Program} {sz d:Nat} {f:FuncId} {u:Bool} {z:Nat} {nil2:Bool} {ys:List (List LV)} {K:St->Prop} {s:St} (hne:ys≠[]) (hm:ys.length<=WX)
  (hk:∀ cap slack,ys.length<=cap->ys.length * sz+slack=cap * sz->K { t:=upd s.t d (.ha s.h.length sz 0 ys.length cap),h:=s.h++[some (ys.flatten++List.replicate slack .dead)] }) :
  Jf P (.ap sz) f [.sl u true z [],.sl false nil2 sz ys] (some d) K s :=
 ⟨_,nil2,ys,rfl,hne,.inl ⟨u,z,rfl,hm,hk⟩⟩
theorem Zr5 {P:Program} {sz d:Nat} {f:FuncId} {l n cap:Nat} {nil2:Bool} {xs:List LV} {ys:List (List LV)} {K:St->Prop} {s:St} (hne:ys≠[]) (hl:s.h[l]?=some (some xs)) (hx:xs.length=cap * sz) (hn:n<=cap) (hm:n+ys.length<=WX)
  (hin:n+ys.length<=cap->K { t:=upd s.t d (.ha l sz 0 (n+ys.length) cap),h:=s.h.set l (some (splice xs (n * sz) ys.flatten)) })
  (hout:cap < n+ys.length->∀ cap' slack,n+ys.length<=cap'->(n+ys.length) * sz+slack=cap' * sz->K { t:=upd s.t d (.ha s.h.length sz 0 (n+ys.length) cap'),h:=s.h.set l (some (List.replicate xs.length .dead))++[some (xs.take (n * sz)++ys.flatten++List.replicate slack .dead)] }) :
  Jf P (.ap sz) f [.ha l sz 0 n cap,.sl false nil2 sz ys] (some d) K s :=
 ⟨_,nil2,ys,rfl,hne,.inr ⟨l,n,cap,xs,rfl,hl,hx,hn,hm,hin,hout⟩⟩
open Go
set_option linter.unusedSimpArgs false
set_option linter.unusedVariables false
def nzH (h:List Box):List Box:=h.map fun b=>b.map YA
theorem ZoX {h h':List Box} (e:nzH h=nzH h') {l:Nat} {xs:List LV} (hl:h[l]?=some (some xs)):∃ ys,h'[l]?=some (some ys)∧YA xs=YA ys:=by
 have h1:(nzH h)[l]?=some (some (YA xs)):=by simp [nzH,hl]
 rw [e] at h1
 simp only [nzH,List.getElem?_map,Option.map_eq_some_iff] at h1
 obtain ⟨b,hb,ys,rfl,h3⟩:=h1
 exact ⟨ys,hb,h3.symm⟩
theorem ZgM {h h':List Box} (e:nzH h=nzH h') {μ:List Nat} {b:Nat} (hb:Kg μ h b):Kg μ h' b:=by
 obtain ⟨l,xs,h1,h2⟩:=hb
 obtain ⟨ys,h3,_⟩:=ZoX e h1
 exact ⟨l,ys,h3,h2⟩
theorem WInv.nzH {w:World} {A:GM} {μ:List Nat} {h h':List Box} {OH:List (List Own)} {O:List Own} (i:WInv w A μ h OH O) (e:nzH h=nzH h'):WInv w A μ h' OH O:=by
 have hl:h.length=h'.length:=by
  have:=congrArg List.length e
  simpa [Go.TL.nzH] using this
 refine ⟨by rw [i.len,hl],by rw [i.lenO,hl],i.cells,fun l xs hx=>?_,fun b hb=>i.loose b (ZgM e.symm hb),fun l l' xs xs' h1 h2 h3=>?_,fun b n c hbc=>?_,i.once⟩
 ·obtain ⟨ys,h1,h2⟩:=ZoX e.symm hx
  obtain ⟨c,e2,g1,g2,g3⟩:=i.box l ys h1
  exact ⟨c,e2,g1,by rw [<- Zv,h2,Zv];exact g2,g3⟩
 ·obtain ⟨ys,k1,_⟩:=ZoX e.symm h1
  obtain ⟨ys',k2,_⟩:=ZoX e.symm h2
  exact i.apart l l' _ _ k1 k2 h3
 ·obtain ⟨g1,g2,g3⟩:=i.own b n c hbc
  exact ⟨g1,g2,fun hb=>g3 (ZgM e.symm hb)⟩
theorem QE.nzH {P:Program} {f:FuncId} {args:List LV} {h h':List Box} {R:LV->List Box->Prop} (c:QE P f args h' R) (e:Go.TL.nzH h=Go.TL.nzH h'):QE P f args h R:=by
 obtain ⟨h1,h2,h3⟩:=c
 refine ⟨h1,h2,fun w A μ OH vals Oa hv hi=>(h3 w A μ OH vals Oa hv (hi.nzH e)).mono fun en w' he=>?_⟩
 have:Zq w A μ h' OH Oa=Zq w A μ h OH Oa:=by
  simp only [Zq,Cx.mk.injEq,true_and]
  funext b
  simp only [eq_iff_iff]
  exact ⟨fun k=>k.elim (fun k=>.inl (ZgM e.symm k)) .inr,fun k=>k.elim (fun k=>.inl (ZgM e k)) .inr⟩
 unfold Ends at he ⊢
 rw [this] at he
 exact he
end Go.TL
namespace Go.Proofs.YtbmepminmpjlcaaGreat.Ty
inductive RT where
 | nd (c:Int) (ks:List RT)
mutual
def RT.flat:RT->List Int
 | .nd c ks=>c::WR ks
def WR:List RT->List Int
 | []=>[]
 | t::ts=>t.flat++WR ts
end
mutual
def RT.ok:RT->Prop
 | .nd c ks=>W7 c=some ks.length∧oks ks
def oks:List RT->Prop
 | []=>True
 | t::ts=>t.ok∧oks ts
end
theorem Zjt:∀ {ts:List RT},oks ts ↔ ∀ t∈ts,t.ok
 | []=>by simp [oks]
 | t::ts=>by simp [oks,Zjt (ts:=ts)]
theorem VA:∀ (ts us:List RT),WR (ts++us)=WR ts++WR us
 | [],us=>by simp [WR]
 | t::ts,us=>by simp [WR,VA ts us]
theorem parse:∀ (l:List Int) (n:Nat) (r:List Int),Ty.skip n l=some r->∃ ts:List RT,ts.length=n∧oks ts∧l=WR ts++r
 | l,0,r,h=>by simp [Ty.skip] at h;exact ⟨[],rfl,by simp [oks],by simp [WR,h]⟩
 | [],n+1,r,h=>by simp [Ty.skip] at h
 | c::l,n+1,r,h=>by
  simp only [Ty.skip] at h
  cases hk:W7 c with
  | none=>simp [hk] at h
  | some k =>
   simp only [hk] at h
   obtain ⟨ts,h1,h2,h3⟩:=parse l (n+k) r h
   refine ⟨.nd c (ts.take k)::ts.drop k,by simp;omega,?_,?_⟩
   ·rw [Zjt] at h2
    simp only [oks,RT.ok,Zjt,hk]
    refine ⟨⟨by simp;omega,fun t ht=>h2 t (List.mem_of_mem_take ht)⟩,fun t ht=>h2 t (List.mem_of_mem_drop ht)⟩
   ·rw [h3]
    simp only [WR,RT.flat,List.cons_append]
    rw [<- VA,List.take_append_drop]
mutual
theorem RT.skip_flat:∀ (t:RT) (r:List Int),t.ok->Ty.skip 1 (t.flat++r)=some r
 | .nd c ks,r,h=>by
  simp only [RT.ok] at h
  simp only [RT.flat,List.cons_append,Ty.skip,h.1]
  rw [Nat.zero_add]
  exact Zlg ks r h.2
theorem Zlg:∀ (ts:List RT) (r:List Int),oks ts->Ty.skip ts.length (WR ts++r)=some r
 | [],r,_=>by simp [WR,Ty.skip]
 | t::ts,r,h=>by
  simp only [oks] at h
  simp only [WR,List.append_assoc,List.length_cons]
  rw [Nat.add_comm,Zk5,RT.skip_flat t _ h.1]
  exact Zlg ts r h.2
end
theorem RT.flat_pos (t:RT):0 < t.flat.length:=by cases t;simp [RT.flat]
theorem ZgT {l:List Int} (h:wty l=true):∃ t:RT,t.ok∧l=t.flat∧l.length<=40:=by
 simp [wty] at h
 obtain ⟨⟨h1,h2⟩,h3⟩:=h
 obtain ⟨ts,g1,g2,g3⟩:=parse l 1 [] h3
 match ts,g1 with
 | [t],_ =>
  simp only [oks] at g2
  exact ⟨t,g2.1,by simpa [WR] using g3,h2⟩
theorem tree_wty {t:RT} (h:t.ok) (hl:t.flat.length<=40):wty t.flat=true:=by
 have:=RT.skip_flat t [] h
 rw [List.append_nil] at this
 have:=t.flat_pos
 simp [wty, *];omega
theorem Zgb {t:RT} (h:t.ok) (r:List Int) (len:Nat):Zad 1 (t.flat++r) len=(len:Int) - r.length:=by
 unfold Zad
 rw [RT.skip_flat t r h]
end Go.Proofs.YtbmepminmpjlcaaGreat.Ty
namespace Go.Proofs.YtbmepminmpjlcaaGreat
open Go Go.TL
open Go.Proofs.YtbmepminmpjlcaaGreat.Ty
set_option linter.unusedSimpArgs false
set_option linter.unusedVariables false
set_option maxRecDepth 20000
set_option maxHeartbeats 4000000
def okL (size:Int) (l:List Int):Bool:=wty l && J5 size true l
def QX (l:List Int):List Int:=(Ty.skip 1 l.tail).getD []
def QA (l:List Int):List Int:=l.tail.take (l.tail.length - (QX l).length)
def hd (l:List Int):Int:=l.headD 0
@[simp] theorem ZjC (c:Int) (l:List Int):hd (c::l)=c:=rfl
theorem ZrX {size:Int} {closed:Bool} {l:List Int}:J5 size closed l=true ↔ ∀ c∈l,okC size closed c=true:=by
 unfold J5
 rw [Zb]
 constructor
 ·intro h c hc
  obtain ⟨i,hi,rfl⟩:=List.getElem_of_mem hc
  have:=h i hi
  simpa [Zh,hi] using this
 ·intro h i hi
  have:=h l[i] (List.getElem_mem _)
  simpa [Zh,hi] using this
theorem YK {size:Int} {l:List Int}:okL size l=true ↔ ∃ t:RT,t.ok∧l=t.flat∧l.length<=40∧∀ c∈l,okC size true c=true:=by
 unfold okL
 rw [Bool.and_eq_true,ZrX]
 constructor
 ·rintro ⟨h1,h2⟩
  obtain ⟨t,h3,h4,h5⟩:=ZgT h1
  exact ⟨t,h3,h4,h5,h2⟩
 ·rintro ⟨t,h3,rfl,h5,h2⟩
  exact ⟨tree_wty h3 h5,h2⟩
theorem ZnY {l:List Int} (h:wty l=true):1<=l.length∧l.length<=40:=by
 simp [wty] at h;omega
theorem Ye {size:Int} {l:List Int} (h:okL size l=true):wty l=true:=by
 unfold okL at h;rw [Bool.and_eq_true] at h;exact h.1
theorem QK {size:Int} {l:List Int} (h:okL size l=true):1<=l.length∧l.length<=40:=ZnY (Ye h)
theorem Zsu {l:List Int} (h:wty l=true):∀ n∈l,0<=n∧n<=36:=by
 intro n hn
 obtain ⟨i,hi,rfl⟩:=List.getElem_of_mem hn
 have:=ZnA h i hi
 simpa [List.getD_eq_getElem?_getD,hi] using this
theorem ZgW {l:List Int} (h:wty l=true):Lok l:=⟨by have:=ZnY h;omega,fun n hn=>by have:=Zsu h n hn;unfold I64;omega⟩
theorem Za7 {c:Int} {t:RT} {r:List Int} (h:t.ok):QX (c::(t.flat++r))=r:=by
 unfold QX
 rw [List.tail_cons,RT.skip_flat t r h];rfl
theorem Zbq {c:Int} {t:RT} {r:List Int} (h:t.ok):QA (c::(t.flat++r))=t.flat:=by
 unfold QA
 rw [Za7 h,List.tail_cons]
 simp
theorem Ze0 {c:Int} {a b:List Int} (h:wty a=true):QX (c::(a++b))=b:=by
 obtain ⟨t,h1,rfl,_⟩:=ZgT h
 exact Za7 h1
theorem Zct {c:Int} {a b:List Int} (h:wty a=true):QA (c::(a++b))=a:=by
 obtain ⟨t,h1,rfl,_⟩:=ZgT h
 exact Zbq h1
theorem Zs9 {c:Int} {a:List Int} (h:wty a=true):QA (c::a)=a:=by
 have:=Zct (c:=c) (b:=[]) h
 rwa [List.append_nil] at this
theorem Xs {size:Int} {l:List Int} (h:okL size l=true) (h2:W7 (hd l)=some 2):l=hd l::(QA l++QX l)∧okL size (QA l)=true∧okL size (QX l)=true:=by
 obtain ⟨⟨c,ks⟩,h3,rfl,h5,h6⟩:=YK.1 h
 simp only [RT.ok] at h3
 simp only [RT.flat] at h2 h5 h6 ⊢
 simp only [ZjC] at h2
 rw [h2] at h3
 obtain ⟨a,b,rfl⟩:∃ a b,ks=[a,b]:=by
  match ks,h3.1 with
  | [a,b],_=>exact ⟨a,b,rfl⟩
  | [],h=>simp at h
  | [_],h=>simp at h
  | _::_::_::_,h=>simp at h
 simp only [oks] at h3
 simp only [WR,List.append_nil] at h5 h6 ⊢
 rw [Zbq h3.2.1,Za7 h3.2.1]
 simp only [List.length_cons,List.length_append] at h5
 refine ⟨rfl,YK.2 ⟨a,h3.2.1,rfl,by omega,fun c hc=>h6 c (by simp [hc])⟩,YK.2 ⟨b,h3.2.2.1,rfl,by omega,fun c hc=>h6 c (by simp [hc])⟩⟩
theorem ZbC {size:Int} {l:List Int} (h:okL size l=true) (h2:W7 (hd l)=some 1):l=hd l::QA l∧QX l=[]∧okL size (QA l)=true:=by
 obtain ⟨⟨c,ks⟩,h3,rfl,h5,h6⟩:=YK.1 h
 simp only [RT.ok] at h3
 simp only [RT.flat] at h2 h5 h6 ⊢
 simp only [ZjC] at h2
 rw [h2] at h3
 obtain ⟨a,rfl⟩:∃ a,ks=[a]:=by
  match ks,h3.1 with
  | [a],_=>exact ⟨a,rfl⟩
  | [],h=>simp at h
  | _::_::_,h=>simp at h
 simp only [oks] at h3
 simp only [WR] at h5 h6 ⊢
 rw [Zbq h3.2.1,Za7 h3.2.1]
 simp only [List.length_cons,List.length_append] at h5
 refine ⟨by simp,rfl,YK.2 ⟨a,h3.2.1,rfl,by omega,fun c hc=>h6 c (by simp [hc])⟩⟩
theorem okL_none {size:Int} {l:List Int} (h:okL size l=true) (h2:W7 (hd l)=some 0):l=[hd l]:=by
 obtain ⟨⟨c,ks⟩,h3,rfl,h5,h6⟩:=YK.1 h
 simp only [RT.ok] at h3
 simp only [RT.flat] at h2 h5 h6 ⊢
 simp only [ZjC] at h2
 rw [h2] at h3
 obtain rfl:ks=[]:=by
  match ks,h3.1 with
  | [],_=>rfl
  | _::_,h=>simp at h
 simp [WR]
theorem Zjv {size c:Int} {a b:List Int} (ha:okL size a=true) (hb:okL size b=true) (hc:W7 c=some 2) (h2:okC size true c=true) (hl:(c::(a++b)).length<=40):okL size (c::(a++b))=true:=by
 obtain ⟨t,h3,rfl,_,h4⟩:=YK.1 ha
 obtain ⟨u,h5,rfl,_,h6⟩:=YK.1 hb
 refine YK.2 ⟨.nd c [t,u],?_,by simp [RT.flat,WR],hl,fun x hx=>?_⟩
 ·simp only [RT.ok,oks]
  exact ⟨hc,h3,h5,trivial⟩
 ·rcases List.mem_cons.1 hx with rfl | hx
  ·exact h2
  ·rcases List.mem_append.1 hx with hx | hx
   ·exact h4 x hx
   ·exact h6 x hx
theorem okL_mk1 {size c:Int} {a:List Int} (ha:okL size a=true) (hc:W7 c=some 1) (h2:okC size true c=true) (hl:(c::a).length<=40):okL size (c::a)=true:=by
 obtain ⟨t,h3,rfl,_,h4⟩:=YK.1 ha
 refine YK.2 ⟨.nd c [t],?_,by simp [RT.flat,WR],hl,fun x hx=>?_⟩
 ·simp only [RT.ok,oks]
  exact ⟨hc,h3,trivial⟩
 ·rcases List.mem_cons.1 hx with rfl | hx
  ·exact h2
  ·exact h4 x hx
theorem Zos (size:Int):okL size [0]=true :=
 YK.2 ⟨.nd 0 [],by simp [RT.ok,oks,W7],by simp [RT.flat,WR],by simp,fun c hc=>by simp at hc;subst hc;simp [okC,QW,WJ]⟩
theorem XX {size:Int} {l:List Int} (h:okL size l=true):okC size true (hd l)=true∧0<=hd l∧hd l<=36∧l≠[]∧hd l∈l:=by
 obtain ⟨⟨c,ks⟩,h3,rfl,h5,h6⟩:=YK.1 h
 simp only [RT.ok] at h3
 have:=ZdY h3.1
 simp only [RT.flat] at h6 ⊢
 refine ⟨h6 c (by simp),by simpa using this.1,by simpa using this.2,by simp,by simp⟩
theorem Zfb {size c:Int} (h:okC size true c=true) (h2:QW c=true∨WJ c=true):0<=Xx c∧Xx c < size:=by
 unfold okC at h
 have:(QW c || WJ c)=true:=by rcases h2 with h | h<;>simp [h]
 rw [this] at h
 simp [Qi,Qf] at h
 omega
inductive TT where
 | mk (ty needs:List Int) (kids:List TT)
def TT.ty:TT->List Int | .mk t _ _=>t
def TT.needs:TT->List Int | .mk _ n _=>n
def TT.kids:TT->List TT | .mk _ _ k=>k
@[simp] theorem TT.ty_mk {a b:List Int} {c:List TT}:(TT.mk a b c).ty=a:=rfl
@[simp] theorem TT.needs_mk {a b:List Int} {c:List TT}:(TT.mk a b c).needs=b:=rfl
@[simp] theorem TT.kids_mk {a b:List Int} {c:List TT}:(TT.mk a b c).kids=c:=rfl
inductive Res where
 | ok (x:TT)
 | bad (f:Int) (p:List Int)
def Qz (op:Int) (ty:List Int) (i:Nat) (first:List Int):List (List Int) :=
 if op=9 then [ty] else if Qy op i=0 then [] else if op=5 then [QX first,QA first] else if op=8 then [if i=1 then QA first else QX first] else [QA first]
def Kp (op:Int) (i:Nat):Int×Int :=
 if op=2∨(op=3∧i=0) then (0,2) else if op=5∧i=0 then (1,4) else if op=8∧i=0 then (2,5) else if op=10∧i=0 then (3,6) else if op=12∧i=0 then (4,7) else (-1,0)
def QU (s:GSys) (op n:Int) (i:Nat) (c:Int):Int :=
 if 0<=(Kp op i).1∧(QH c).1≠(Kp op i).1 then (Kp op i).2 else if i=0∧(op=5∨op=8∨op=12)∧s.le 1 n=false then 8 else 0
def Y6 (s:GSys) (a b:List Int):List Int:=List.zipWith s.pl a b
def YC (s:GSys) (a b:List Int):List Int:=List.zipWith s.join a b
def Wg (s:GSys) (g:Int) (a:List Int):List Int:=a.map (s.tm g)
def Wr (s:GSys) (l:List Int) (g:Int):Bool:=l.all fun u=>s.le u g
def zeros (n:Nat):List Int:=List.replicate n 0
def YT (ty nd:List Int):Int×List Int×List Int:=if ty.length<=40 then (0,ty,nd) else (3,[],[])
def ndP (op:Int) (ds:List TT) (i:Nat):List Int:=(ds.getD i (.mk [] [] [])).needs.drop (Qy op i).toNat
def usP (op:Int) (ds:List TT) (i:Nat):List Int:=(ds.getD i (.mk [] [] [])).needs.take (Qy op i).toNat
def tyP (ds:List TT) (i:Nat):List Int:=(ds.getD i (.mk [] [] [])).ty
def Q0 (s:GSys) (ctx:List (List Int)) (op n:Int) (ty:List Int) (ds:List TT):Int×List Int×List Int :=
 if op=0 then (0,ctx.getD n.toNat [],(zeros ctx.length).set n.toNat 1)
 else if op=1 then (0,[0],zeros ctx.length)
 else if op=2 then (0,[0],Y6 s (ndP op ds 0) (ndP op ds 1))
 else if op=3 then (if tyP ds 1=tyP ds 2 then (0,tyP ds 1,Y6 s (ndP op ds 0) (YC s (ndP op ds 1) (ndP op ds 2))) else (3,[],[]))
 else if op=4 then YT (1::(tyP ds 0++tyP ds 1)) (Y6 s (ndP op ds 0) (ndP op ds 1))
 else if op=5 then (if Wr s (usP op ds 1) n=true then (0,tyP ds 1,Y6 s (Wg s n (ndP op ds 0)) (ndP op ds 1)) else (9,[],[]))
 else if op=6 then YT (2::(tyP ds 0++ty)) (ndP op ds 0)
 else if op=7 then YT (2::(ty++tyP ds 0)) (ndP op ds 0)
 else if op=8 then (if tyP ds 1=tyP ds 2 then (if Wr s (usP op ds 1) n=true∧Wr s (usP op ds 2) n=true then (0,tyP ds 1,Y6 s (Wg s n (ndP op ds 0)) (YC s (ndP op ds 1) (ndP op ds 2))) else (9,[],[])) else (3,[],[]))
 else if op=9 then (if Wr s (usP op ds 0) n=true then YT ((3+n)::(ty++tyP ds 0)) (ndP op ds 0) else (9,[],[]))
 else if op=10 then (0,QX (tyP ds 0),Y6 s (ndP op ds 0) (Wg s (QH (hd (tyP ds 0))).2 (ndP op ds 1)))
 else if op=11 then YT ((19+n)::tyP ds 0) (Wg s n (ndP op ds 0))
 else (if Wr s (usP op ds 1) (s.tm n (QH (hd (tyP ds 0))).2)=true then (0,tyP ds 1,Y6 s (Wg s n (ndP op ds 0)) (ndP op ds 1)) else (9,[],[]))
inductive KRes where
 | ok (ds:List TT)
 | bad (f:Int) (p:List Int)
def first (ds:List TT):List Int:=tyP ds 0
mutual
def Qr (s:GSys) (ctx:List (List Int)):GTerm->Res
 | .mk op n _ ty _ ks=>match Wi s ctx op n ty [] ks with
  | .bad f p=>.bad f p
  | .ok ds=>if (Q0 s ctx op n ty ds).1=0 then .ok (.mk (Q0 s ctx op n ty ds).2.1 (Q0 s ctx op n ty ds).2.2 ds) else .bad (Q0 s ctx op n ty ds).1 []
def Wi (s:GSys) (ctx:List (List Int)) (op n:Int) (ty:List Int) (ds:List TT):List GTerm->KRes
 | []=>.ok ds
 | k::ks=>match Qr s (Qz op ty ds.length (first ds)++ctx) k with
  | .bad f p=>.bad f ((ds.length:Int)::p)
  | .ok x=>if QU s op n ds.length (hd x.ty)≠0 then .bad (QU s op n ds.length (hd x.ty)) []
   else if op=10∧ds.length=1∧x.ty≠QA (first ds) then .bad 3 [] else Wi s ctx op n ty (ds++[x]) ks
end
def TT.good (s:GSys) (n:Nat) (x:TT):Prop:=okL s.size x.ty=true∧x.needs.length=n∧∀ u∈x.needs,s.G u
theorem ZqR:∀ n:Fin 37,((QH ((n.val:Nat):Int)).1=0 ↔ n.val=0)∧((QH ((n.val:Nat):Int)).1=1 ↔ n.val=1)∧((QH ((n.val:Nat):Int)).1=2 ↔ n.val=2) ∧
  ((QH ((n.val:Nat):Int)).1=3 ↔ QW ((n.val:Nat):Int)=true)∧((QH ((n.val:Nat):Int)).1=4 ↔ WJ ((n.val:Nat):Int)=true) ∧
  ((QW ((n.val:Nat):Int)=true∨WJ ((n.val:Nat):Int)=true)->(QH ((n.val:Nat):Int)).2=Xx ((n.val:Nat):Int)):=by decide
theorem KL {c:Int} (h0:0<=c) (h1:c<=36):((QH c).1=0 ↔ c=0)∧((QH c).1=1 ↔ c=1)∧((QH c).1=2 ↔ c=2)∧((QH c).1=3 ↔ QW c=true)∧((QH c).1=4 ↔ WJ c=true)∧((QW c=true∨WJ c=true)->(QH c).2=Xx c):=by
 have:=ZqR ⟨c.toNat,by omega⟩
 simp only [show ((c.toNat:Nat):Int)=c by omega] at this
 obtain ⟨a,b,c',d,e,f⟩:=this
 exact ⟨a.trans (by omega),b.trans (by omega),c'.trans (by omega),d,e,f⟩
theorem YG:W7 1=some 2∧W7 2=some 2:=by decide
theorem ZcE {c:Int} (h:QW c=true):W7 c=some 2:=by
 unfold W7
 rw [YQ] at h
 rw [if_neg (by omega),if_pos]
 right;right;rw [YQ];exact h
theorem ZgY {c:Int} (h:WJ c=true):W7 c=some 1:=by
 have h':=h
 rw [Ke] at h
 unfold W7
 rw [if_neg (by omega),if_neg (by rw [YQ];omega),if_pos h']
def Zgf (op:Int) (c:Int):Prop:=(op=2∨op=3->c=0)∧(op=5->c=1)∧(op=8->c=2)∧(op=10->QW c=true)∧(op=12->WJ c=true)
theorem Zo9 {s:GSys} {op n c:Int} (h0:0<=c) (h1:c<=36) (h:QU s op n 0 c=0):Zgf op c∧(op=5∨op=8∨op=12->s.le 1 n=true):=by
 obtain ⟨a,b,c',d,e,_⟩:=KL h0 h1
 unfold QU at h
 have hw:¬ (0<=(Kp op 0).1∧(QH c).1≠(Kp op 0).1):=by
  intro hh
  rw [if_pos hh] at h
  unfold Kp at hh h
  repeat' split at h
  all_goals simp_all
 rw [if_neg hw] at h
 have hl:¬ (op=5∨op=8∨op=12)∨s.le 1 n=true:=by
  by_cases g:s.le 1 n=true
  ·exact .inr g
  ·left
   intro g2
   rw [if_pos ⟨rfl,g2,by simpa using g⟩] at h
   omega
 refine ⟨?_,fun g=>hl.resolve_left (fun k=>k g)⟩
 unfold Kp at hw
 refine ⟨fun g=>?_,fun g=>?_,fun g=>?_,fun g=>?_,fun g=>?_⟩
 ·have:(QH c).1=0:=by rcases g with rfl | rfl<;>simpa using hw
  exact a.1 this
 ·subst g;simp at hw;exact b.1 hw
 ·subst g;simp at hw;exact c'.1 hw
 ·subst g;simp at hw;exact d.1 hw
 ·subst g;simp at hw;exact e.1 hw
theorem V8 (op k:Int):0<=Qy op k∧Qy op k<=2:=by
 unfold Qy;split
 ·omega
 ·split<;>omega
theorem Zcr (op:Int) (ty:List Int) (i:Nat) (f:List Int):(Qz op ty i f).length=(Qy op i).toNat:=by
 unfold Qz Qy
 by_cases h9:op=9
 ·subst h9;simp
 ·rw [if_neg h9]
  by_cases h5:op=5∧(i:Int)=1
  ·rw [if_pos h5,if_pos h5.1];simp
  ·rw [if_neg h5]
   by_cases h8:(op=8∧0 < (i:Int))∨op=9∨(op=12∧(i:Int)=1)
   ·rw [if_pos h8]
    have:op≠5:=by omega
    rw [if_neg (by omega),if_neg this]
    split<;>simp
   ·rw [if_neg h8];simp
theorem Zlr {size:Int} {op:Int} {ty:List Int} {i:Nat} {f:List Int} (hty:op=9->okL size ty=true) (hf:i≠0->okL size f=true∧Zgf op (hd f)):∀ l∈Qz op ty i f,okL size l=true:=by
 unfold Qz
 by_cases h9:op=9
 ·rw [if_pos h9];intro l hl;simp at hl;subst hl;exact hty h9
 ·rw [if_neg h9]
  split
  ·simp
  ·rename_i ha
   have hi:i≠0:=by rintro rfl;apply ha;unfold Qy;rw [if_neg (by omega),if_neg (by omega)]
   obtain ⟨hf1,hf2⟩:=hf hi
   obtain ⟨q2,q5,q8,q10,q12⟩:=hf2
   split
   ·rename_i h5
    have:=Xs hf1 (by rw [q5 h5];exact YG.1)
    intro l hl;simp at hl
    rcases hl with rfl | rfl
    ·exact this.2.2
    ·exact this.2.1
   ·split
    ·rename_i h8
     have:=Xs hf1 (by rw [q8 h8];exact YG.2)
     intro l hl;simp at hl;subst hl
     split
     ·exact this.2.1
     ·exact this.2.2
    ·have h12:op=12:=by
      unfold Qy at ha
      rename_i h5 h8
      rw [if_neg (by omega)] at ha
      by_cases g:(op=8∧0 < (i:Int))∨op=9∨(op=12∧(i:Int)=1)
      ·omega
      ·rw [if_neg g] at ha;simp at ha
     have:=ZbC hf1 (ZgY (q12 h12))
     intro l hl;simp at hl;subst hl;exact this.2.2
structure KidsOk (s:GSys) (c:Nat) (op n:Int) (ds:List TT):Prop where
 each:∀ (i:Nat) (x:TT),ds[i]?=some x->x.good s (c+(Qy op i).toNat)∧QU s op n i (hd x.ty)=0
 app:op=10->∀ x,ds[1]?=some x->x.ty=QA (first ds)
theorem KidsOk.first {s:GSys} {c:Nat} {op n:Int} {ds:List TT} (k:KidsOk s c op n ds) (h:ds≠[]):okL s.size (first ds)=true∧Zgf op (hd (first ds))∧(op=5∨op=8∨op=12->s.le 1 n=true):=by
 obtain ⟨x,ds,rfl⟩:∃ x l,ds=x::l:=by
  cases ds with
  | nil=>exact absurd rfl h
  | cons x l=>exact ⟨x,l,rfl⟩
 obtain ⟨⟨h1,_,_⟩,h2⟩:=k.each 0 x rfl
 have:=XX h1
 simp only [Go.Proofs.YtbmepminmpjlcaaGreat.first,List.getD_eq_getElem?_getD,List.getElem?_cons_zero,Option.getD_some]
 exact ⟨h1,Zo9 this.2.1 this.2.2.1 h2⟩
theorem KidsOk.snoc {s:GSys} {c:Nat} {op n:Int} {ds:List TT} {x:TT} (k:KidsOk s c op n ds) (h1:x.good s (c+(Qy op ds.length).toNat)) (h2:QU s op n ds.length (hd x.ty)=0) (h3:¬ (op=10∧ds.length=1∧x.ty≠QA (Go.Proofs.YtbmepminmpjlcaaGreat.first ds))):KidsOk s c op n (ds++[x]):=by
 refine ⟨fun i y hy=>?_,fun h10 y hy=>?_⟩
 ·rcases Nat.lt_trichotomy i ds.length with g | g | g
  ·rw [List.getElem?_append_left g] at hy;exact k.each i y hy
  ·subst g
   rw [List.getElem?_append_right (Nat.le_refl _)] at hy
   simp at hy;subst hy;exact ⟨h1,h2⟩
  ·rw [List.getElem?_append_right (by omega),List.getElem?_eq_none (by simp;omega)] at hy;simp at hy
 ·have hf:ds≠[]->Go.Proofs.YtbmepminmpjlcaaGreat.first (ds++[x])=Go.Proofs.YtbmepminmpjlcaaGreat.first ds:=by
   intro g
   cases ds with
   | nil=>exact absurd rfl g
   | cons a l=>simp [Go.Proofs.YtbmepminmpjlcaaGreat.first,tyP]
  rcases Nat.lt_trichotomy 1 ds.length with g | g | g
  ·rw [List.getElem?_append_left g] at hy
   rw [hf (by rintro rfl;simp at g)]
   exact k.app h10 y hy
  ·rw [List.getElem?_append_right (by omega),<- g] at hy
   simp at hy;subst hy
   rw [hf (by rintro rfl;simp at g)]
   by_cases e:x.ty=QA (Go.Proofs.YtbmepminmpjlcaaGreat.first ds)
   ·exact e
   ·exact absurd ⟨h10,g.symm,e⟩ h3
  ·rw [List.getElem?_append_right (by omega),List.getElem?_eq_none (by simp;omega)] at hy;simp at hy
theorem ZeQ {s:GSys} (t:s.Tab) {a b:List Int} {n:Nat} (ha:a.length=n) (hb:b.length=n):(Y6 s a b).length=n∧∀ u∈Y6 s a b,s.G u:=by
 refine ⟨by simp [Y6,ha,hb],fun u hu=>?_⟩
 unfold Y6 at hu
 rw [List.zipWith_eq_zipWith_take_min] at hu
 simp only [List.mem_iff_getElem,List.getElem_zipWith] at hu
 obtain ⟨i,hi,rfl⟩:=hu
 exact GSys.Gpl t _ _
theorem Yp {s:GSys} (t:s.Tab) {g:Int} {a:List Int} {n:Nat} (ha:a.length=n):(Wg s g a).length=n∧∀ u∈Wg s g a,s.G u:=by
 refine ⟨by simp [Wg,ha],fun u hu=>?_⟩
 simp only [Wg,List.mem_map] at hu
 obtain ⟨x,_,rfl⟩:=hu
 exact GSys.Gtm t _ _
theorem Zbx {s:GSys} (t:s.Tab) (n:Nat):(zeros n).length=n∧∀ u∈zeros n,s.G u:=by
 refine ⟨by simp [zeros],fun u hu=>?_⟩
 simp [zeros] at hu
 rw [hu.2];exact GSys.G0 t
theorem one_ok {s:GSys} (t:s.Tab) (n i:Nat):((zeros n).set i 1).length=n∧∀ u∈(zeros n).set i 1,s.G u:=by
 refine ⟨by simp [zeros],fun u hu=>?_⟩
 rcases List.mem_or_eq_of_mem_set hu with hu | rfl
 ·exact (Zbx t n).2 u hu
 ·exact GSys.G1 t
theorem Ze8 {s:GSys} {c:Nat} {op:Int} {i:Nat} {x:TT} (h:x.good s (c+(Qy op i).toNat)):(x.needs.drop (Qy op i).toNat).length=c∧∀ u∈x.needs.drop (Qy op i).toNat,s.G u :=
 ⟨by rw [List.length_drop,h.2.1];omega,fun u hu=>h.2.2 u (List.mem_of_mem_drop hu)⟩
theorem Zn0 {size:Int}:okC size true 1=true∧okC size true 2=true:=by
 unfold okC
 exact ⟨by simp [QW,WJ],by simp [QW,WJ]⟩
theorem Zrj {size n:Int} (h0:0<=n) (h1:n < size) (h2:size<=16):QW (3+n)=true∧Xx (3+n)=n∧okC size true (3+n)=true∧W7 (3+n)=some 2:=by
 have ha:QW (3+n)=true:=by rw [YQ];omega
 have hg:Xx (3+n)=n:=by unfold Xx;rw [if_neg (by omega),if_neg (by omega)];omega
 refine ⟨ha,hg,?_,ZcE ha⟩
 unfold okC
 rw [hg];simp [Qi,Qf,h0,h1]
theorem code_box {size n:Int} (h0:0<=n) (h1:n < size) (h2:size<=16):WJ (19+n)=true∧Xx (19+n)=n∧okC size true (19+n)=true∧W7 (19+n)=some 1:=by
 have ha:WJ (19+n)=true:=by rw [Ke];omega
 have hg:Xx (19+n)=n:=by unfold Xx;rw [if_neg (by omega),if_pos (by omega)];omega
 refine ⟨ha,hg,?_,ZgY ha⟩
 unfold okC
 rw [hg];simp [Qi,Qf,h0,h1]
structure NodeOk (s:GSys) (c:Nat) (op n:Int) (ty:List Int) (len:Nat):Prop where
 many:(len:Int)=W1 op
 var:op=0->0<=n∧n < c
 grade:XH op=true->s.G n
 typed:Xa op=true->okL s.size ty=true
 op13:0<=op∧op<=12
theorem ZeV {s:GSys} {c:Nat} {op n:Int} {ty:List Int} {len:Nat} (h:ZaC c s.size true op n ty len=true):NodeOk s c op n ty len:=by
 unfold ZaC at h
 simp only [Bool.and_eq_true] at h
 obtain ⟨h1,h2,h3⟩:=h
 have hop:op=0∨op=1∨op=2∨op=3∨op=4∨op=5∨op=6∨op=7∨op=8∨op=9∨op=10∨op=11∨op=12:=ops13 (Zrv h1)
 rw [Qc] at h1
 refine ⟨h1,fun h0=>?_,fun hh=>?_,fun ht=>?_,by omega⟩
 ·subst h0
  simp [Zdk,Wb] at h2
  omega
 ·have h01:op≠0∧op≠1:=by
   constructor<;>(rintro rfl;simp [XH,Qc] at hh)
  unfold Zdk at h2
  rw [if_neg (by simp [Qb,h01.1]),if_neg (by simp [Qb,h01.2]),if_pos hh] at h2
  simp [Qi,Qf] at h2
  exact ⟨by omega,by omega⟩
 ·unfold tyB at h3
  rw [if_pos ht] at h3
  exact h3
theorem ZcI {s:GSys} {a b:List Int} {n:Nat} (ha:a.length=n) (hb:b.length=n):(YC s a b).length=n:=by simp [YC,ha,hb]
theorem Yz {ty nd:List Int} (h:(YT ty nd).1=0):ty.length<=40∧(YT ty nd).2.1=ty∧(YT ty nd).2.2=nd:=by
 unfold YT at h ⊢
 split at h
 ·rename_i g;rw [if_pos g];exact ⟨g,rfl,rfl⟩
 ·simp at h
theorem Ztc {s:GSys} (t:s.Tab) {ctx:List (List Int)} (hc:∀ l∈ctx,okL s.size l=true) {op n:Int} {ty:List Int} {ds:List TT} (nd:NodeOk s ctx.length op n ty ds.length) (k:KidsOk s ctx.length op n ds)
  (h:(Q0 s ctx op n ty ds).1=0):TT.good s ctx.length (.mk (Q0 s ctx op n ty ds).2.1 (Q0 s ctx op n ty ds).2.2 ds):=by
 have h16:=t.hi
 obtain ⟨many,hvar,hgr,hty,o1,o2⟩:=nd
 have get:∀ i,i < ds.length->∃ x,ds[i]?=some x∧x.good s (ctx.length+(Qy op i).toNat):=fun i hi =>
  ⟨_,List.getElem?_eq_getElem hi,(k.each i _ (List.getElem?_eq_getElem hi)).1⟩
 have tyG:∀ i,i < ds.length->okL s.size (tyP ds i)=true:=fun i hi=>by
  obtain ⟨x,h1,h2⟩:=get i hi
  unfold tyP;rw [List.getD_eq_getElem?_getD,h1];exact h2.1
 have ndL:∀ i,i < ds.length->(ndP op ds i).length=ctx.length:=fun i hi=>by
  obtain ⟨x,h1,h2⟩:=get i hi
  unfold ndP;rw [List.getD_eq_getElem?_getD,h1];exact (Ze8 h2).1
 have ndG:∀ i,i < ds.length->∀ u∈ndP op ds i,s.G u:=fun i hi=>by
  obtain ⟨x,h1,h2⟩:=get i hi
  unfold ndP;rw [List.getD_eq_getElem?_getD,h1];exact (Ze8 h2).2
 have fst:0 < ds.length->Zgf op (hd (tyP ds 0)):=fun hi=>(k.first (by rintro rfl;simp at hi)).2.1
 have hops:op=0∨op=1∨op=2∨op=3∨op=4∨op=5∨op=6∨op=7∨op=8∨op=9∨op=10∨op=11∨op=12:=by omega
 rcases hops with e | e | e | e | e | e | e | e | e | e | e | e | e
 all_goals subst e
 all_goals simp [W1] at many
 all_goals simp [Q0] at h ⊢
 ·obtain ⟨v0,v1⟩:=hvar rfl
  refine ⟨?_,one_ok t _ _⟩
  simp only [TT.ty_mk]
  rw [List.getElem?_eq_getElem (by omega)]
  exact hc _ (List.getElem_mem _)
 ·exact ⟨Zos _,Zbx t _⟩
 ·exact ⟨Zos _,ZeQ t (ndL 0 (by omega)) (ndL 1 (by omega))⟩
 ·split at h
  ·rename_i e
   rw [if_pos e]
   exact ⟨tyG 1 (by omega),ZeQ t (ndL 0 (by omega)) (ZcI (ndL 1 (by omega)) (ndL 2 (by omega)))⟩
  ·simp at h
 ·obtain ⟨g1,g2,g3⟩:=Yz h
  rw [g2,g3]
  exact ⟨Zjv (tyG 0 (by omega)) (tyG 1 (by omega)) YG.1 Zn0.1 g1,ZeQ t (ndL 0 (by omega)) (ndL 1 (by omega))⟩
 ·split at h
  ·rename_i e
   rw [if_pos e]
   exact ⟨tyG 1 (by omega),ZeQ t (Yp t (ndL 0 (by omega))).1 (ndL 1 (by omega))⟩
  ·simp at h
 ·obtain ⟨g1,g2,g3⟩:=Yz h
  rw [g2,g3]
  exact ⟨Zjv (tyG 0 (by omega)) (hty (by simp [Xa,Qc])) YG.2 Zn0.2 g1,ndL 0 (by omega),ndG 0 (by omega)⟩
 ·obtain ⟨g1,g2,g3⟩:=Yz h
  rw [g2,g3]
  exact ⟨Zjv (hty (by simp [Xa,Qc])) (tyG 0 (by omega)) YG.2 Zn0.2 g1,ndL 0 (by omega),ndG 0 (by omega)⟩
 ·split at h
  ·rename_i e
   split at h
   ·rename_i e2
    rw [if_pos e,if_pos e2]
    exact ⟨tyG 1 (by omega),ZeQ t (Yp t (ndL 0 (by omega))).1 (ZcI (ndL 1 (by omega)) (ndL 2 (by omega)))⟩
   ·simp at h
  ·simp at h
 ·have hg:=hgr (by simp [XH,Qc])
  obtain ⟨_,_,c1,c2⟩:=Zrj hg.1 hg.2 h16
  split at h
  ·rename_i e
   obtain ⟨g1,g2,g3⟩:=Yz h
   rw [if_pos e,g2,g3]
   exact ⟨Zjv (hty (by simp [Xa,Qc])) (tyG 0 (by omega)) c2 c1 g1,ndL 0 (by omega),ndG 0 (by omega)⟩
  ·simp at h
 ·exact ⟨(Xs (tyG 0 (by omega)) (ZcE ((fst (by omega)).2.2.2.1 rfl))).2.2,ZeQ t (ndL 0 (by omega)) (Yp t (ndL 1 (by omega))).1⟩
 ·have hg:=hgr (by simp [XH,Qc])
  obtain ⟨_,_,c1,c2⟩:=code_box hg.1 hg.2 h16
  obtain ⟨g1,g2,g3⟩:=Yz h
  rw [g2,g3]
  exact ⟨okL_mk1 (tyG 0 (by omega)) c2 c1 g1,Yp t (ndL 0 (by omega))⟩
 ·split at h
  ·rename_i e
   rw [if_pos e]
   exact ⟨tyG 1 (by omega),ZeQ t (Yp t (ndL 0 (by omega))).1 (ndL 1 (by omega))⟩
  ·simp at h
theorem ext_ok {s:GSys} {ctx:List (List Int)} (hc:∀ l∈ctx,okL s.size l=true) {op n:Int} {ty:List Int} {ds:List TT} (hty:op=9->okL s.size ty=true) (k:KidsOk s ctx.length op n ds) :
  ∀ l∈Qz op ty ds.length (first ds)++ctx,okL s.size l=true:=by
 intro l hl
 rcases List.mem_append.1 hl with hl | hl
 ·exact Zlr hty (fun hi=>by
   have:=k.first (by rintro rfl;simp at hi)
   exact ⟨this.1,this.2.1⟩) l hl
 ·exact hc l hl
mutual
theorem Zbb {s:GSys} (t:s.Tab):∀ (g:GTerm) (ctx:List (List Int)) (x:TT),(∀ l∈ctx,okL s.size l=true)->XC ctx.length s.size true g=true->Qr s ctx g=.ok x->x.good s ctx.length
 | .mk op n nl1 ty nl2 ks,ctx,x,hc,hf,he=>by
  simp only [XC,Bool.and_eq_true] at hf
  have nd:=ZeV hf.1
  rw [Qr] at he
  split at he
  ·simp at he
  ·rename_i ds hd
   split at he
   ·rename_i h0
    simp only [Res.ok.injEq] at he
    subst he
    obtain ⟨k,hl⟩:=Zgi t ks ctx op n ty [] ds hc (fun h9=>nd.typed (by subst h9;simp [Xa,Qc])) (by simpa using hf.2) ⟨fun i x h=>by simp at h,fun _ x h=>by simp at h⟩ hd
    exact Ztc t hc (by rw [show ds.length=ks.length by simpa using hl];exact nd) k h0
   ·simp at he
theorem Zgi {s:GSys} (t:s.Tab):∀ (ks:List GTerm) (ctx:List (List Int)) (op n:Int) (ty:List Int) (ds ds':List TT),(∀ l∈ctx,okL s.size l=true)->(op=9->okL s.size ty=true) ->
  X8 ctx.length s.size true op ds.length ks=true->KidsOk s ctx.length op n ds->Wi s ctx op n ty ds ks=.ok ds'->KidsOk s ctx.length op n ds'∧ds'.length=ds.length+ks.length
 | [],ctx,op,n,ty,ds,ds',hc,hty,hf,k,he=>by
  simp only [Wi,KRes.ok.injEq] at he
  subst he;exact ⟨k,rfl⟩
 | g::ks,ctx,op,n,ty,ds,ds',hc,hty,hf,k,he=>by
  simp only [X8,Bool.and_eq_true] at hf
  rw [Wi] at he
  split at he
  ·simp at he
  ·rename_i x hx
   split at he
   ·simp at he
   ·rename_i h1
    split at he
    ·simp at he
    ·rename_i h2
     have hlen:(Qz op ty ds.length (first ds)++ctx).length=ctx.length+(Qy op ds.length).toNat:=by
      rw [List.length_append,Zcr];omega
     have:=V8 op ds.length
     have hg:=Zbb t g _ x (ext_ok hc hty k) (by rw [hlen,show ((ctx.length+(Qy op ds.length).toNat:Nat):Int)=ctx.length+Qy op ds.length by omega];exact hf.1) hx
     rw [hlen] at hg
     have k2:=k.snoc hg (by simpa using h1) h2
     have:=Zgi t ks ctx op n ty (ds++[x]) ds' hc hty (by rw [List.length_append];exact hf.2) k2 he
     exact ⟨this.1,by rw [this.2];simp;omega⟩
end
def FnN (P:Program) (f:LV) (a b n:Int):Prop:=∃ fid vals,ZW f [N a,N b]=some (fid,vals)∧QI 0 vals∧Qe P fid vals (·=N n)
theorem onFn_N {P:Program} {f:LV} {a b n:Int} {d:Nat} {K:St->Prop} {s:St} (h:FnN P f a b n) (hk:K { t:=upd s.t d (N n),h:=s.h }):onFn P .no f [N a,N b] (some d) K s:=by
 obtain ⟨fid,vals,h1,h2,h3⟩:=h
 exact ⟨fid,vals,h1,Qa (rw:=.no) h3 h2 hk⟩
theorem Zsw {z:List LV} {h0:List Box} {l:List Int} (e:z=l.map N):Qo (h0++[some z]) (.ha h0.length 1 0 l.length l.length)=some (OU true false l,h0++[none]):=by
 subst e
 rw [frz_ha (xs:=l.map N) (by simp) (by simp)]
 simp [ZjV]
theorem frz_1 (l:List Int):Qo [none,some (l.map N)] (.ha 1 1 0 l.length l.length)=some (OU true false l,[none,none]):=Zsw (h0:=[none]) rfl
theorem fill_N {l:List Int}:fill (fun x=>[N x]) [N 0] l l.length=l.map N:=by
 rw [Zd5];induction l with
 | nil=>rfl
 | cons x l ih=>simpa using ih
theorem ZsB (s:GSys) (f:LV) (g:Int->Int->Int) (sf:share f=f) (lf:Low 0 f) (n1 n2:Bool) (a b:List Int) (hl:a.length<=1099511627776) (hab:a.length=b.length)
  (hp:∀ (i:Nat) (h:i < a.length),FnN Tryz.prog f a[i] (b[i]'(by omega)) (g a[i] (b[i]'(by omega)))):Qe Tryz.prog Y8 [s.lv,f,L n1 a,L n2 b] (·=OU true false (List.zipWith g a b)):=by
 obtain ⟨z,hze⟩:∃ z,z=List.zipWith g a b:=⟨_,rfl⟩
 have hz:z.length=a.length:=by rw [hze];simp [hab]
 have hget:∀ (i:Nat) (h:i < a.length),z[i]'(by omega)=g a[i] (b[i]'(by omega)):=by intro i h;simp [hze]
 rw [<- hze]
 clear hze
 refine Qe.of_codeOf Zfg Qx (by simp) ⟨_,rfl,by simp⟩ ?_
 have hm:(a.length:Int)<=(WX:Nat):=by unfold WX;omega
 have he:∀ x:Int,([N x]:List LV).length=1:=by simp
 simp (disch:=omega) [ZaE,hm,sf,Qt,Qo]
 refine Wf a.length 0 (fun i t h=>t 16=N i∧h=[none,some (fill (fun x=>[N x]) [N 0] z i)]) (by simp [ZaR,hz]) (by omega) ?_
 rintro i t1 hh hf hi ⟨e16,rfl⟩
 (have e1:=hf 1 (by kernel_rfl);have e2:=hf 2 (by kernel_rfl);have e3:=hf 3 (by kernel_rfl);have e9:=hf 9 (by kernel_rfl);have e15:=hf 15 (by kernel_rfl);clear hf;simp [sf] at e1 e2 e3 e9 e15)
 simp (disch:=omega) [e1,e2,e3,e9,e15,e16]
 (with_reducible first | refine Qk (fun h6=>?_) (fun h6=>?_) | refine Ql (fun h6=>?_) (fun h6=>?_))
 ·simp only [Qf,Qd,Qi,Qh,Qc,Qb,Bool.not_true,Bool.not_false] at h6
  have hlen:=Zcy (z:=[N 0]) (l:=z) he rfl (i:=i) (by omega)
  have hst:=ZaS (z:=[N 0]) (l:=z) he rfl (i:=i) (by omega)
  have hpi:=hp i (by omega)
  rw [hget i (by omega)] at hst
  simp (disch:=omega) [e1,e2,e3,e9,e15,e16,Xv,sf]
  refine onFn_N hpi ?_
  simp (disch:=omega) [e1,e2,e3,e9,e15,e16,Zy,Qg,hlen]
  exact ⟨by omega,by omega,by simpa [splice] using hst⟩
 ·simp only [Qf,Qd,Qi,Qh,Qc,Qb,Bool.not_true,Bool.not_false] at h6
  rw [show i=z.length by omega,fill_N]
  simp (disch:=omega) [e9]
  rw [show a.length=z.length by omega,frz_1]
  simp
theorem plus_fn {s:GSys} (t:s.Tab) {a b:Int} (ha:s.G a) (hb:s.G b):FnN Tryz.prog (.fnm QF [s.lv]) a b (s.pl a b) :=
 ⟨QF,[s.lv,N a,N b],by simp [ZW],by simp,Ze4 t ha hb⟩
theorem join_fn {s:GSys} (t:s.Tab) {a b:Int} (ha:s.G a) (hb:s.G b):FnN Tryz.prog (.fnm Xb [s.lv]) a b (s.join a b) :=
 ⟨Xb,[s.lv,N a,N b],by simp [ZW],by simp,ZsH t ha hb⟩
theorem sumF_ok {s:GSys} (t:s.Tab) (n1 n2:Bool) (a b:List Int) (hl:a.length<=1099511627776) (hab:a.length=b.length) (ha:∀ u∈a,s.G u) (hb:∀ u∈b,s.G u) :
  Qe Tryz.prog WO [s.lv,L n1 a,L n2 b] (·=OU true false (Y6 s a b)):=by
 refine Qe.of_codeOf Zgs Qx (by simp) ⟨_,rfl,by simp⟩ ?_
 have h:=ZsB s (.fnm QF [s.lv]) s.pl (by simp) (by simp) n1 n2 a b hl hab (fun i hi=>plus_fn t (ha _ (List.getElem_mem _)) (hb _ (List.getElem_mem _)))
 simp (disch:=omega) [Zbi,Qt,Qo]
 refine Qa (r:=OU true false (Y6 s a b)) h (by simp) ?_
 simp (disch:=omega)
theorem ZqH {s:GSys} (t:s.Tab) (n1 n2:Bool) (a b:List Int) (hl:a.length<=1099511627776) (hab:a.length=b.length) (ha:∀ u∈a,s.G u) (hb:∀ u∈b,s.G u) :
  Qe Tryz.prog Y7 [s.lv,L n1 a,L n2 b] (·=OU true false (YC s a b)):=by
 refine Qe.of_codeOf Zff Qx (by simp) ⟨_,rfl,by simp⟩ ?_
 have h:=ZsB s (.fnm Xb [s.lv]) s.join (by simp) (by simp) n1 n2 a b hl hab (fun i hi=>join_fn t (ha _ (List.getElem_mem _)) (hb _ (List.getElem_mem _)))
 simp (disch:=omega) [ZaA,Qt,Qo]
 refine Qa (r:=OU true false (YC s a b)) h (by simp) ?_
 simp (disch:=omega)
theorem Zbc {s:GSys} (t:s.Tab) (g:Int) (hg:s.G g) (n1:Bool) (a:List Int) (hl:a.length<=1099511627776) (ha:∀ u∈a,s.G u) :
  Qe Tryz.prog W6 [s.lv,N g,L n1 a] (·=OU true false (Wg s g a)):=by
 obtain ⟨z,hze⟩:∃ z,z=Wg s g a:=⟨_,rfl⟩
 have hz:z.length=a.length:=by rw [hze];simp [Wg]
 have hget:∀ (i:Nat) (h:i < a.length),z[i]'(by omega)=s.tm g a[i]:=by intro i h;simp [hze,Wg]
 rw [<- hze]
 clear hze
 refine Qe.of_codeOf ZdO Qx (by simp) ⟨_,rfl,by simp⟩ ?_
 have hm:(a.length:Int)<=(WX:Nat):=by unfold WX;omega
 have he:∀ x:Int,([N x]:List LV).length=1:=by simp
 simp (disch:=omega) [Vo,hm,Qt,Qo]
 refine Wf a.length 0 (fun i t h=>t 15=N i∧h=[none,some (fill (fun x=>[N x]) [N 0] z i)]) (by simp [ZaR,hz]) (by omega) ?_
 rintro i t1 hh hf hi ⟨e15,rfl⟩
 (have e1:=hf 1 (by kernel_rfl);have e3:=hf 3 (by kernel_rfl);have e7:=hf 7 (by kernel_rfl);have e13:=hf 13 (by kernel_rfl);have e14:=hf 14 (by kernel_rfl);clear hf;simp [] at e1 e3 e7 e13 e14)
 simp (disch:=omega) [e1,e3,e7,e13,e14,e15]
 (with_reducible first | refine Qk (fun h6=>?_) (fun h6=>?_) | refine Ql (fun h6=>?_) (fun h6=>?_))
 ·simp only [Qf,Qd,Qi,Qh,Qc,Qb,Bool.not_true,Bool.not_false] at h6
  have hlen:=Zcy (z:=[N 0]) (l:=z) he rfl (i:=i) (by omega)
  have hst:=ZaS (z:=[N 0]) (l:=z) he rfl (i:=i) (by omega)
  rw [hget i (by omega)] at hst
  simp (disch:=omega) [e1,e3,e7,e13,e14,e15,Xv]
  refine Qa (Kh t hg (ha _ (List.getElem_mem (show i < a.length by omega)))) (by simp) ?_
  simp (disch:=omega) [e1,e3,e7,e13,e14,e15,Zy,Qg,hlen]
  exact ⟨by omega,by omega,by simpa [splice] using hst⟩
 ·simp only [Qf,Qd,Qi,Qh,Qc,Qb,Bool.not_true,Bool.not_false] at h6
  rw [show i=z.length by omega,fill_N]
  simp (disch:=omega) [e7]
  rw [show a.length=z.length by omega,frz_1]
  simp
theorem Zmq (f:LV) (p:Int->Bool) (sf:share f=f) (lf:Low 0 f) (nl:Bool) (l:List Int) (hlen:l.length<=1099511627776) (hp:∀ c∈l,FnB Tryz.prog f (N c) (p c)) :
  Qe Tryz.prog Xh [L nl l,f] (fun r=>∃ n:Int,r=N n∧leB 0 n=l.any p):=by
 refine Qe.of_codeOf Zn Qx (by simp) ⟨N (if l.any p=true then 0 else -1),⟨_,rfl,by split<;>simp_all [leB]⟩,by simp⟩ ?_
 simp (disch:=omega) [XW,sf]
 refine Wf l.length 0 (fun i t _=>t 8=N i∧l.any p=(l.drop i).any p) (by simp) (by omega) ?_
 rintro i t1 hh hf hi ⟨e8,hj⟩
 (have e0:=hf 0 (by kernel_rfl);have e1:=hf 1 (by kernel_rfl);have e6:=hf 6 (by kernel_rfl);have e7:=hf 7 (by kernel_rfl);clear hf;simp [sf] at e0 e1 e6 e7)
 simp (disch:=omega) [e0,e1,e6,e7,e8]
 (with_reducible first | refine Qk (fun h6=>?_) (fun h6=>?_) | refine Ql (fun h6=>?_) (fun h6=>?_))
 ·simp only [Qf,Qd,Qi,Qh,Qc,Qb,Bool.not_true,Bool.not_false] at h6
  have hd:=List.drop_eq_getElem_cons (l:=l) (i:=i) (by omega)
  have hpc:=hp (l[i]'(by omega)) (List.getElem_mem _)
  simp (disch:=omega) [e0,e1,e6,e7,e8,Xv,sf]
  repeat' (first
  | with_reducible refine Zlm hpc ?_
  | (with_reducible (first | refine Qk (fun hb_=>?_) (fun hb_=>?_) | refine Ql (fun hb_=>?_) (fun hb_=>?_))<;>simp (disch:=omega) [hb_,e0,e1,e6,e7,e8,Xv,sf])
  | simp (disch:=omega) [e0,e1,e6,e7,e8,Xv,sf])
  ·rw [hj,hd,List.any_cons,hb_,Bool.true_or,Qi];omega
  ·exact ⟨by omega,Qg (by omega),by rw [hj,hd,List.any_cons,hb_,Bool.false_or]⟩
 ·simp only [Qf,Qd,Qi,Qh,Qc,Qb,Bool.not_true,Bool.not_false] at h6
  simp (disch:=omega)
  rw [hj,show i=l.length by omega,List.drop_length];simp [leB]
theorem ZhO (f:LV) (p:Int->Bool) (sf:share f=f) (lf:Low 0 f) (nl:Bool) (l:List Int) (hlen:l.length<=1099511627776) (hp:∀ c∈l,FnB Tryz.prog f (N c) (p c)) :
  Qe Tryz.prog Wv [L nl l,f] (·=B (l.any p)):=by
 refine Qe.of_codeOf YL Qx (by simp) ⟨_,rfl,by simp⟩ ?_
 simp (disch:=omega) [Xw,sf]
 refine ZkE (Zmq f p sf lf nl l hlen hp) (by simp [lf]) ?_
 rintro r ⟨n,rfl,hn⟩
 simp (disch:=omega) [sf,hn]
theorem Zql {s:GSys} (t:s.Tab) {u g:Int} (hu:s.G u) (hg:s.G g):FnB Tryz.prog (.fn Xo [.rp s.cells,.rp [N g]]) (N u) (!s.le u g):=by
 refine ⟨Xo,[N u,.rp s.cells,.rp [N g]],by simp [ZW],by simp,?_⟩
 refine Qe.of_codeOf ZcA Qx (by simp) ⟨_,rfl,by simp⟩ ?_
 simp (disch:=omega) [KH]
 refine Qa (Zaa t hu hg) (by simp) ?_
 simp (disch:=omega)
theorem Zbp {s:GSys} (t:s.Tab) {g:Int} (hg:s.G g) (nl:Bool) (l:List Int) (hl:l.length<=1099511627776) (hu:∀ u∈l,s.G u):Qe Tryz.prog W3 [s.lv,L nl l,N g] (·=B (Wr s l g)):=by
 refine Qe.of_codeOf ZdM Qx (by simp) ⟨_,rfl,by simp⟩ ?_
 have hc:=ZhO (.fn Xo [.rp s.cells,.rp [N g]]) (fun u=>!s.le u g) (by simp) (by simp) nl l hl (fun c hc=>Zql t (hu c hc) hg)
 simp (disch:=omega) [Vn,Qt,Qo]
 refine Qa hc (by simp) ?_
 simp (disch:=omega)
 simp [Wr,List.all_eq_not_any_not]
def cl (nl:Bool) (l:List Int):LV:=if nl=true then .sl false true 1 [] else OU true false l
theorem growI_ok (n:Int) (h0:0<=n) (h1:n<=1099511627776):Qe Tryz.prog YV [.sl false true 1 [],N n] (·=.sl (ltB 0 n) (!ltB 0 n) 1 []):=by
 refine Qe.of_codeOf ZbP Qx (by simp) ⟨_,rfl,by simp⟩ ?_
 have hm:n<=(WX:Nat):=by unfold WX;omega
 have hneg:ltB n 0=false:=by rw [Qd];omega
 simp (disch:=omega) [Ki,Qg,hneg,ZZ]
 (with_reducible first | refine Qk (fun h1=>?_) (fun h1=>?_) | refine Ql (fun h1=>?_) (fun h1=>?_))
 ·have hmm:(WX:Int)=1099511627776:=rfl
  have hp:0 < n:=by rw [Qf] at h1;exact h1
  have hc:ZZ 1 (.sl false true 1 []) none (some 0) none=some (.sl false true 1 []):=by simp [ZZ]
  simp (disch:=omega) [h1,hc,hp,hm]
 ·simp (disch:=omega) [h1]
abbrev rowI (c:Bool×List Int):LV:=.sl false c.1 1 (c.2.map fun x=>[N x])
def Zfr (ls:List (Bool×List Int)):List (List LV):=ls.map fun c=>[rowI c]
def lnI (ls:List (Bool×List Int)):Nat:=(ls.map fun c=>c.2.length).sum
def flI (ls:List (Bool×List Int)):List Int:=(ls.map fun c=>c.2).flatten
abbrev catI (l:List Int):LV:=.sl (ltB 0 l.length) (!ltB 0 l.length) 1 (l.map fun x=>[N x])
theorem Zjy (a b:List (Bool×List Int)):lnI (a++b)=lnI a+lnI b:=by simp [lnI]
theorem Zlc (a:Bool×List Int) (b:List (Bool×List Int)):lnI (a::b)=a.2.length+lnI b:=by simp [lnI]
theorem flI_app (a b:List (Bool×List Int)):flI (a++b)=flI a++flI b:=by simp [flI]
theorem Zkv (a:List (Bool×List Int)):(flI a).length=lnI a:=by simp [flI,lnI,Function.comp_def]
@[simp] theorem ZrA (c:Bool×List Int):share (rowI c)=rowI c:=by simp [rowI]
theorem ZjH (ls:List (Bool×List Int)) (hl:ls.length<=1099511627776) (ht:lnI ls<=1099511627776) :
  Qe Tryz.prog Q6 [.sl false false 1 (Zfr ls)] (·=catI (flI ls)):=by
 have hlow:WV 0 (Zfr ls):=by simp [Zfr]
 have hfl:=Zkv ls
 refine Qe.of_codeOf Za9 Qx (by simp) ⟨_,rfl,by simp only [low_sl,Zk4,ZiL,low_sc,Zls,and_self,implies_true]⟩ ?_
 have hsr:Qv (Zfr ls)=Zfr ls:=by simp [Zfr]
 simp (disch:=omega) [Z9,hsr]
 have hrl:(Zfr ls).length=ls.length:=by simp [Zfr]
 rw [hrl]
 have idx:∀ i:Nat,i < ls.length->QP 1 (.sl false false 1 (Zfr ls)) (i:Int)=some (.rp [rowI (ls.getD i (false,[]))]):=fun i hi=>by
  have:=Zen rowI ZrA ls false false i (by omega) (by omega)
  rw [Zfr,this];simp [List.getD_eq_getElem?_getD,hi]
 have tk:∀ i:Nat,i < ls.length->ls.take (i+1)=ls.take i++[ls.getD i (false,[])]:=fun i hi=>by
  rw [List.take_succ_eq_append_getElem hi];simp [List.getD_eq_getElem?_getD,hi]
 have lnle:∀ i:Nat,lnI (ls.take i)<=lnI ls:=fun i=>by
  have:=Zjy (ls.take i) (ls.drop i)
  rw [List.take_append_drop] at this;omega
 refine WS ls.length 0 (fun i t h=>h=[]∧t 11=N i∧t 3=N (lnI (ls.take i))) (fun t h=>h=[]∧t 3=N (lnI ls)) (by simp [lnI]) (by omega) ?_ ?_
 ·rintro i t1 hh hf hi ⟨rfl,e11,e3⟩
  (have e9:=hf 9 (by kernel_rfl);have e10:=hf 10 (by kernel_rfl);clear hf;simp [hsr] at e9 e10)
  simp (disch:=omega) [e3,e9,e10,e11]
  by_cases h6:i < ls.length
  ·have hb:ltB (i:Int) ls.length=true:=by rw [Qf];omega
   have t1':=tk i h6
   have t2:=lnle (i+1)
   have hix:=idx i h6
   rw [t1',Zjy,Zlc] at t2
   rw [t1',Zjy,Zlc]
   generalize ls.getD i (false,[])=c at t2 hix ⊢
   generalize lnI (ls.take i)=m at *
   have hnb:ltB ((m:Int)+c.2.length) 0=false:=by rw [Qd];omega
   simp (disch:=omega) [e3,e9,e10,e11,hb,hix,Qg,hnb]
   simp [lnI];omega
  ·have hb:ltB (i:Int) ls.length=false:=by rw [Qd];omega
   simp (disch:=omega) [e3,e9,e10,e11,hb]
   rw [List.take_of_length_le (by omega)]
 ·rintro t1 hh hf ⟨rfl,e3⟩
  (have e0:=hf 0 (by kernel_rfl);clear hf;simp [hsr] at e0)
  simp (disch:=omega) [e3,e0]
  refine Qa (growI_ok _ (by omega) (by omega)) (by simp) ?_
  simp (disch:=omega) [e3,e0,hsr,hrl]
  refine WS ls.length 0 (fun i t h=>h=[]∧t 27=N i∧t 6=.sl (ltB 0 (lnI ls)) (!ltB 0 (lnI ls)) 1 ((flI (ls.take i)).map fun x=>[N x])) (fun t h=>h=[]∧t 6=catI (flI ls)) (by simp [flI]) (by omega) ?_ ?_
  ·rintro i t2 hh hf2 hi ⟨rfl,e27,e6⟩
   have e25:=hf2 25 (by kernel_rfl);have e26:=hf2 26 (by kernel_rfl);clear hf2;simp [hsr] at e25 e26
   simp (disch:=omega) [e6,e25,e26,e27]
   by_cases h6:i < ls.length
   ·have hb:ltB (i:Int) ls.length=true:=by rw [Qf];omega
    have t1':=tk i h6
    have t2':=lnle (i+1)
    have t3:=Zkv (ls.take i)
    have hix:=idx i h6
    rw [t1',Zjy,Zlc] at t2'
    rw [t1',flI_app]
    generalize ls.getD i (false,[])=c at t2' hix ⊢
    rw [<- t3] at t2'
    generalize flI (ls.take i)=m at *
    simp (disch:=omega) [e6,e25,e26,e27,hb,hix,Qg]
    have ap:Wy 1 (.sl (ltB 0 (lnI ls)) (!ltB 0 (lnI ls)) 1 (m.map fun x=>[N x])) (.sl false c.1 1 (c.2.map fun x=>[N x]))=some (.sl (ltB 0 (lnI ls)) (!ltB 0 (lnI ls)) 1 ((m++c.2).map fun x=>[N x])):=by
     cases hq:ltB 0 (lnI ls:Int)
     ·rw [Qd] at hq
      have c0:c.2=[]:=List.eq_nil_of_length_eq_zero (by omega)
      have m0:m=[]:=List.eq_nil_of_length_eq_zero (by omega)
      simp [Wy,c0,m0,WX]
     ·simp only [Wy]
      rw [if_pos ⟨by simp,.inl trivial,.inl trivial,by simp [WX];omega⟩]
      simp
    have e0:flI [c]=c.2:=by simp [flI]
    rw [ap]
    simp (disch:=omega) [e6,e25,e26,e27,hb,hix,Qg,e0]
    omega
   ·have hb:ltB (i:Int) ls.length=false:=by rw [Qd];omega
    simp (disch:=omega) [e6,e25,e26,e27,hb]
    rw [List.take_of_length_le (by omega),hfl]
    exact ⟨rfl,rfl⟩
  ·rintro t1 hh hf ⟨rfl,e6⟩
   simp (disch:=omega) [e6]
theorem growC_ok (n:Int) (h0:0<=n) (h1:n<=1099511627776):Qe Tryz.prog X6 [.sl false true 1 [],N n] (·=.sl (ltB 0 n) (!ltB 0 n) 1 []):=by
 refine Qe.of_codeOf Zav Qx (by simp) ⟨_,rfl,by simp⟩ ?_
 have hm:n<=(WX:Nat):=by unfold WX;omega
 have hneg:ltB n 0=false:=by rw [Qd];omega
 simp (disch:=omega) [ZG,Qg,hneg,ZZ]
 (with_reducible first | refine Qk (fun h1=>?_) (fun h1=>?_) | refine Ql (fun h1=>?_) (fun h1=>?_))
 ·have hmm:(WX:Int)=1099511627776:=rfl
  have hp:0 < n:=by rw [Qf] at h1;exact h1
  have hc:ZZ 1 (.sl false true 1 []) none (some 0) none=some (.sl false true 1 []):=by simp [ZZ]
  simp (disch:=omega) [h1,hc,hp,hm]
 ·simp (disch:=omega) [h1]
abbrev rowC (c:Bool×List (Bool×List Int)):LV:=.sl false c.1 1 (c.2.map fun x=>[eC x])
def ZfJ (ls:List (Bool×List (Bool×List Int))):List (List LV):=ls.map fun c=>[rowC c]
def lnC (ls:List (Bool×List (Bool×List Int))):Nat:=(ls.map fun c=>c.2.length).sum
def flC (ls:List (Bool×List (Bool×List Int))):List (Bool×List Int):=(ls.map fun c=>c.2).flatten
abbrev catC (l:List (Bool×List Int)):LV:=.sl (ltB 0 l.length) (!ltB 0 l.length) 1 (l.map fun x=>[eC x])
theorem ZjD (a b:List (Bool×List (Bool×List Int))):lnC (a++b)=lnC a+lnC b:=by simp [lnC]
theorem Zkx (a:Bool×List (Bool×List Int)) (b:List (Bool×List (Bool×List Int))):lnC (a::b)=a.2.length+lnC b:=by simp [lnC]
theorem flC_app (a b:List (Bool×List (Bool×List Int))):flC (a++b)=flC a++flC b:=by simp [flC]
theorem ZkD (a:List (Bool×List (Bool×List Int))):(flC a).length=lnC a:=by simp [flC,lnC,Function.comp_def]
@[simp] theorem ZqY (c:Bool×List (Bool×List Int)):share (rowC c)=rowC c:=by simp [rowC]
theorem ZrE (ls:List (Bool×List (Bool×List Int))) (hl:ls.length<=1099511627776) (ht:lnC ls<=1099511627776) :
  Qe Tryz.prog XM [.sl false false 1 (ZfJ ls)] (·=catC (flC ls)):=by
 have hlow:WV 0 (ZfJ ls):=by simp [ZfJ]
 have hfl:=ZkD ls
 refine Qe.of_codeOf Vv Qx (by simp) ⟨_,rfl,by simp only [low_sl,Zk4,ZiL,low_sc,Zls,and_self,implies_true]⟩ ?_
 have hsr:Qv (ZfJ ls)=ZfJ ls:=by simp [ZfJ]
 simp (disch:=omega) [Zf,hsr]
 have hrl:(ZfJ ls).length=ls.length:=by simp [ZfJ]
 rw [hrl]
 have idx:∀ i:Nat,i < ls.length->QP 1 (.sl false false 1 (ZfJ ls)) (i:Int)=some (.rp [rowC (ls.getD i (false,[]))]):=fun i hi=>by
  have:=Zen rowC ZqY ls false false i (by omega) (by omega)
  rw [ZfJ,this];simp [List.getD_eq_getElem?_getD,hi]
 have tk:∀ i:Nat,i < ls.length->ls.take (i+1)=ls.take i++[ls.getD i (false,[])]:=fun i hi=>by
  rw [List.take_succ_eq_append_getElem hi];simp [List.getD_eq_getElem?_getD,hi]
 have lnle:∀ i:Nat,lnC (ls.take i)<=lnC ls:=fun i=>by
  have:=ZjD (ls.take i) (ls.drop i)
  rw [List.take_append_drop] at this;omega
 refine WS ls.length 0 (fun i t h=>h=[]∧t 11=N i∧t 3=N (lnC (ls.take i))) (fun t h=>h=[]∧t 3=N (lnC ls)) (by simp [lnC]) (by omega) ?_ ?_
 ·rintro i t1 hh hf hi ⟨rfl,e11,e3⟩
  (have e9:=hf 9 (by kernel_rfl);have e10:=hf 10 (by kernel_rfl);clear hf;simp [hsr] at e9 e10)
  simp (disch:=omega) [e3,e9,e10,e11]
  by_cases h6:i < ls.length
  ·have hb:ltB (i:Int) ls.length=true:=by rw [Qf];omega
   have t1':=tk i h6
   have t2:=lnle (i+1)
   have hix:=idx i h6
   rw [t1',ZjD,Zkx] at t2
   rw [t1',ZjD,Zkx]
   generalize ls.getD i (false,[])=c at t2 hix ⊢
   generalize lnC (ls.take i)=m at *
   have hnb:ltB ((m:Int)+c.2.length) 0=false:=by rw [Qd];omega
   simp (disch:=omega) [e3,e9,e10,e11,hb,hix,Qg,hnb]
   simp [lnC];omega
  ·have hb:ltB (i:Int) ls.length=false:=by rw [Qd];omega
   simp (disch:=omega) [e3,e9,e10,e11,hb]
   rw [List.take_of_length_le (by omega)]
 ·rintro t1 hh hf ⟨rfl,e3⟩
  (have e0:=hf 0 (by kernel_rfl);clear hf;simp [hsr] at e0)
  simp (disch:=omega) [e3,e0]
  refine Qa (growC_ok _ (by omega) (by omega)) (by simp) ?_
  simp (disch:=omega) [e3,e0,hsr,hrl]
  refine WS ls.length 0 (fun i t h=>h=[]∧t 27=N i∧t 6=.sl (ltB 0 (lnC ls)) (!ltB 0 (lnC ls)) 1 ((flC (ls.take i)).map fun x=>[eC x])) (fun t h=>h=[]∧t 6=catC (flC ls)) (by simp [flC]) (by omega) ?_ ?_
  ·rintro i t2 hh hf2 hi ⟨rfl,e27,e6⟩
   have e25:=hf2 25 (by kernel_rfl);have e26:=hf2 26 (by kernel_rfl);clear hf2;simp [hsr] at e25 e26
   simp (disch:=omega) [e6,e25,e26,e27]
   by_cases h6:i < ls.length
   ·have hb:ltB (i:Int) ls.length=true:=by rw [Qf];omega
    have t1':=tk i h6
    have t2':=lnle (i+1)
    have t3:=ZkD (ls.take i)
    have hix:=idx i h6
    rw [t1',ZjD,Zkx] at t2'
    rw [t1',flC_app]
    generalize ls.getD i (false,[])=c at t2' hix ⊢
    rw [<- t3] at t2'
    generalize flC (ls.take i)=m at *
    simp (disch:=omega) [e6,e25,e26,e27,hb,hix,Qg]
    have ap:Wy 1 (.sl (ltB 0 (lnC ls)) (!ltB 0 (lnC ls)) 1 (m.map fun x=>[eC x])) (.sl false c.1 1 (c.2.map fun x=>[eC x]))=some (.sl (ltB 0 (lnC ls)) (!ltB 0 (lnC ls)) 1 ((m++c.2).map fun x=>[eC x])):=by
     cases hq:ltB 0 (lnC ls:Int)
     ·rw [Qd] at hq
      have c0:c.2=[]:=List.eq_nil_of_length_eq_zero (by omega)
      have m0:m=[]:=List.eq_nil_of_length_eq_zero (by omega)
      simp [Wy,c0,m0,WX]
     ·simp only [Wy]
      rw [if_pos ⟨by simp,.inl trivial,.inl trivial,by simp [WX];omega⟩]
      simp
    have e0:flC [c]=c.2:=by simp [flC]
    rw [ap]
    simp (disch:=omega) [e6,e25,e26,e27,hb,hix,Qg,e0]
    omega
   ·have hb:ltB (i:Int) ls.length=false:=by rw [Qd];omega
    simp (disch:=omega) [e6,e25,e26,e27,hb]
    rw [List.take_of_length_le (by omega),hfl]
    exact ⟨rfl,rfl⟩
  ·rintro t1 hh hf ⟨rfl,e6⟩
   simp (disch:=omega) [e6]
attribute [local simp low] Xp
attribute [local simp] Zgp Zf6 Zga ZfZ Zf3 Zgn
theorem long_ok (u nl:Bool) (l:List Int):Qe Tryz.prog Zeh [.sl u nl 1 (l.map fun n=>[N n])] (·=B (ltB 40 l.length)):=by
 refine Qe.of_codeOf ZqK Qx (by simp) ⟨_,rfl,by simp⟩ ?_
 simp (contextual:=true) (disch:=omega) [Zit]
theorem Zqy (nl:Bool) (l:List Int) (hl:l.length<=1099511627776) (hw:∀ n∈l,I64 n) (i:Int) (hi:I64 i):Qe Tryz.prog Xl [L nl l,N i] (·=N (JG l i)):=ZkT nl l ⟨hl,hw⟩ i hi
def Qj (ts:List RT):List (List LV):=ts.map fun t=>[.sl false false 1 (t.flat.map fun n=>[N n])]
theorem ZpW (dn:List RT):(Qj dn).length<=(WR dn).length:=by
 induction dn with
 | nil=>simp [Qj]
 | cons a dn ih =>
  have:=a.flat_pos
  simp only [Qj,List.length_map] at ih
  simp [Qj,WR];omega
theorem parts_ok (c:Int) (ks:List RT) (hok:(RT.nd c ks).ok) (hl:(RT.nd c ks).flat.length<=1099511627776) (hw:∀ n∈(RT.nd c ks).flat,I64 n) :
  Qe Tryz.prog Zs [L false (RT.nd c ks).flat] (·=.sl (!ks.isEmpty) ks.isEmpty 1 (Qj ks)):=by
 refine Qe.of_codeOf Zoj Qx (by simp) ⟨_,rfl,by simp [Qj]⟩ ?_
 simp (contextual:=true) (disch:=omega) [Zg1]
 generalize hL:(RT.nd c ks).flat=l at *
 refine Zti (fun k s=>∃ dn rest,ks=dn++rest∧k=rest.length∧s.h=[]∧s.t 0=L false l∧s.t 3=.sl (!dn.isEmpty) dn.isEmpty 1 (Qj dn)∧s.t 4=N ((WR dn).length+1)) ks.length ?_ ?_
 ·refine ⟨[],ks,rfl,rfl,?_⟩
  simp [Qj,WR]
 ·rintro k s ⟨dn,rest,hks,hk,h1,h2,h3,h4⟩
  simp (contextual:=true) (disch:=omega) [h1,h2,h3,h4]
  subst hks
  refine ⟨fun _ h5=>?_,fun _ h5=>?_⟩
  ·match rest with
   | [] =>
    exfalso
    rw [<- hL] at h5
    simp only [RT.flat,VA,WR,List.length_cons,List.length_append] at h5
    simp at h5
   | t::rest =>
    have hd:l.drop ((WR dn).length+1)=t.flat++WR rest:=by
     rw [<- hL]
     simp [RT.flat,VA,WR]
    have hll:l.length=(WR dn).length+1+t.flat.length+(WR rest).length:=by
     rw [<- hL]
     simp [RT.flat,VA,WR];omega
    have he:JG l ((WR dn).length+1)=(WR dn).length+1+t.flat.length:=by
     unfold JG
     rw [if_pos (by omega),show (((WR dn).length:Int)+1).toNat=(WR dn).length+1 by omega,hd]
     simp only [RT.ok] at hok
     have:=(Zjt.1 hok.2) t (by simp)
     rw [Zgb this]
     omega
    have hp:=t.flat_pos
    refine Qa (Zqy false l hl hw _ ⟨by omega,by omega⟩) (by simp) ?_
    rw [he]
    have hrow:List.drop ((WR dn).length+1) (List.take ((WR dn).length+1+t.flat.length) l)=t.flat:=by
     rw [List.drop_take,hd,show (WR dn).length+1+t.flat.length - ((WR dn).length+1)=t.flat.length by omega]
     simp
    have hrow:=congrArg (List.map fun n:Int=>[N n]) hrow
    rw [List.map_drop,List.map_take] at hrow
    have hn:(((WR dn).length:Int)+1+t.flat.length).toNat=(WR dn).length+1+t.flat.length:=by omega
    have hne:¬ (((WR dn).length:Int)+1=(WR dn).length+1+t.flat.length):=by omega
    have hks:(Qj dn).length+1<=WX:=by
     have:=ZpW dn
     unfold WX;omega
    simp (contextual:=true) (disch:=omega) [h2,h3,h4,ZZ,Wy,hn,hne,hrow,hks]
    refine ⟨by omega,Classical.em _ |>.symm,rest.length,by simp [hk],dn++[t],rest,by simp,rfl,⟨by simp,by simp [Qj]⟩,by simp [VA,WR];omega⟩
  ·match rest with
   | []=>simp [Qj]
   | t::rest =>
    exfalso
    rw [<- hL] at h5
    simp only [RT.flat,VA,WR,List.length_cons,List.length_append] at h5
    have:=t.flat_pos
    omega
def ln (ls:List (List Int)):Nat:=(ls.map List.length).sum
end Go.Proofs.YtbmepminmpjlcaaGreat
namespace Go.Proofs.YtbmepminmpjlcaaGreat
open Go Go.TL
open Go.Proofs.YtbmepminmpjlcaaGreat.Ty
set_option linter.unusedSimpArgs false
set_option linter.unusedVariables false
set_option maxRecDepth 20000
set_option maxHeartbeats 4000000
theorem Zsn (u u' nl:Bool) (sz sz':Nat) (xs:List (List LV)):XB .slc .eql (.sl u nl sz xs) (.sl u' true sz' [])=some (B nl):=rfl
theorem Zhc (nl:Bool) (l:List Int) (hl:l.length<=1099511627776):Qe Tryz.prog WL [L nl l] (·=cl nl l):=by
 refine Qe.of_codeOf Zby Qx (by simp) ⟨_,rfl,by unfold cl;split<;>simp⟩ ?_
 have hm:l.length<=WX:=hl
 cases nl
 ·simp (disch:=omega) [YD,Zsn,Qn,Wy,hm,cl]
 ·simp (disch:=omega) [YD,Zsn,cl]
theorem ZgK (n1 n2:Bool) (a b:List Int) (ha:a.length<=1099511627776):Qe Tryz.prog WM [L n1 a,L n2 b] (·=B (a == b)):=by
 generalize hq:(a == b)=q
 refine Qe.of_codeOf ZbA Qx (by simp) ⟨_,rfl,by simp⟩ ?_
 simp (disch:=omega) [Kb]
 (with_reducible first | refine Qk (fun h1=>?_) (fun h1=>?_) | refine Ql (fun h1=>?_) (fun h1=>?_))
 ·simp (disch:=omega) [h1]
  simp only [Qf,Qd,Qi,Qh,Qc,Qb,Bool.not_true,Bool.not_false] at h1
  refine Wf a.length 0 (fun i t _=>t 13=N i∧q=(a.drop i == b.drop i)) (by simp [hq]) (by omega) ?_
  rintro i t1 hh hf hi ⟨e13,hj⟩
  (have e0:=hf 0 (by kernel_rfl);have e1:=hf 1 (by kernel_rfl);have e12:=hf 12 (by kernel_rfl);clear hf;simp [] at e0 e1 e12)
  simp (disch:=omega) [e0,e1,e12,e13]
  (with_reducible first | refine Qk (fun h6=>?_) (fun h6=>?_) | refine Ql (fun h6=>?_) (fun h6=>?_))
  ·simp only [Qf,Qd,Qi,Qh,Qc,Qb,Bool.not_true,Bool.not_false] at h6
   have hd1:=List.drop_eq_getElem_cons (l:=a) (i:=i) (by omega)
   have hd2:=List.drop_eq_getElem_cons (l:=b) (i:=i) (by omega)
   have hq2:q=(a[i]'(by omega) == b[i]'(by omega) && (a.drop (i+1) == b.drop (i+1))):=by rw [hj,hd1,hd2];rfl
   clear hd1 hd2 hj
   simp (disch:=omega) [e0,e1,e12,e13,Xv]
   repeat' (first
  | (with_reducible (first | refine Qk (fun hb_=>?_) (fun hb_=>?_) | refine Ql (fun hb_=>?_) (fun hb_=>?_))<;>simp (disch:=omega) [hb_,e0,e1,e12,e13,Qg])
  | simp (disch:=omega) [e0,e1,e12,e13,Qg])
   all_goals simp only [Qf,Qd,Qi,Qh,Qc,Qb,Bool.not_true,Bool.not_false] at hb_
   ·exact ⟨by omega,by simp [hq2,hb_]⟩
   ·simp [hq2,hb_]
  ·simp only [Qf,Qd,Qi,Qh,Qc,Qb,Bool.not_true,Bool.not_false] at h6
   simp (disch:=omega)
   rw [hj,List.drop_of_length_le (by omega),List.drop_of_length_le (by omega)];simp
 ·simp (disch:=omega) [h1]
  simp only [Qf,Qd,Qi,Qh,Qc,Qb,Bool.not_true,Bool.not_false] at h1
  rw [<- hq];simp;intro h;exact h1 (by rw [h])
def Zau (l:List Int):List (List Int):=match W7 (hd l) with
 | some 2=>[QA l,QX l]
 | some 1=>[QA l]
 | _=>[]
theorem Vy {l:List Int} (h:W7 (hd l)=some 2):Zau l=[QA l,QX l]:=by simp [Zau,h]
theorem Zkb {l:List Int} (h:W7 (hd l)=some 1):Zau l=[QA l]:=by simp [Zau,h]
theorem Zfa {l:List Int} (h:wty l=true):Qe Tryz.prog Zs [L false l] (·=.sl (!(Zau l).isEmpty) (Zau l).isEmpty 1 ((Zau l).map fun p=>[L false p])):=by
 obtain ⟨⟨c,ks⟩,h3,rfl,h5⟩:=ZgT h
 have:=parts_ok c ks h3 (by omega) (fun n hn=>by have:=Zsu h n hn;unfold I64;omega)
 simp only [RT.ok] at h3
 have e:Qj ks=(Zau (RT.nd c ks).flat).map (fun p=>[L false p])∧(Zau (RT.nd c ks).flat).isEmpty=ks.isEmpty:=by
  match ks,h3 with
  | [],h3=>simp [Zau,RT.flat,h3.1,Qj]
  | [a],h3 =>
   simp only [oks] at h3
   have q:=Zbq (c:=c) (r:=[]) h3.2.1
   rw [List.append_nil] at q
   simp [Zau,RT.flat,WR,h3.1,Qj,q]
  | [a,b],h3 =>
   simp only [oks] at h3
   have q:=Zbq (c:=c) (r:=b.flat) h3.2.1
   have q1:=Za7 (c:=c) (r:=b.flat) h3.2.1
   simp [Zau,RT.flat,WR,h3.1,Qj,q,q1]
  | _::_::_::_,h3 =>
   have:=Zp2 h3.1
   simp at this
 rw [e.1,<- e.2] at this
 exact this
theorem Zez {s:GSys} (t:s.Tab) (g:GTerm) (op n:Int) (nl1:Bool) (gty:List Int) (nl2:Bool) (ks:List GTerm) (hg:g=.mk op n nl1 gty nl2 ks) (i:Nat) (hi:i<=3) (ty:List Int) (hty:okL s.size ty=true) (hop:0<=op∧op<=12) (hn:op=5∨op=8∨op=12->s.G n) :
  Qe Tryz.prog Zw [s.lv,g.lv,N i,L false ty] (·=N (QU s op n i (hd ty))):=by
 subst hg
 have hh:=XX hty
 obtain ⟨c,tl,rfl⟩:∃ c tl,ty=c::tl:=by
  cases ty with
  | nil=>exact absurd rfl hh.2.2.2.1
  | cons c tl=>exact ⟨c,tl,rfl⟩
 have hc:I64 c:=by unfold I64;simp at hh;omega
 have hid:QP 1 (L false (c::tl)) 0=some (.rp [N c]):=by
  have:=Xv (c::tl) false false 0 (by omega) (by simp)
  simpa using this
 have hbl:op=5∨op=8∨op=12->Qe Tryz.prog QD [s.lv,N 1,N n] (·=B (s.le 1 n)):=fun h=>Zaa t (GSys.G1 t) (hn h)
 refine Qe.of_codeOf Zc4 Qx (by simp) ⟨_,rfl,by simp⟩ ?_
 have run:∀ (q:Int),q=QU s op n i c->wpC Tryz.prog Yc (fun e s=>(e=Exit.normal∨e=Exit.ret)∧Low 0 (s.t 8)∧s.t 8=N q) { t:=env [s.lv,(GTerm.mk op n nl1 gty nl2 ks).lv,N i,L false (c::tl)],h:=[] }:=by
  intro q hq
  have h13:op=0∨op=1∨op=2∨op=3∨op=4∨op=5∨op=6∨op=7∨op=8∨op=9∨op=10∨op=11∨op=12:=by omega
  subst hq
  rcases h13 with rfl | rfl | rfl | rfl | rfl | rfl | rfl | rfl | rfl | rfl | rfl | rfl | rfl
  all_goals
   rcases Nat.eq_zero_or_pos i with rfl | hp
   ·simp (disch:=omega) [Yc,Qt,Qo,GTerm.cells,hid]
    refine Qa (V3 c hc) (by simp) ?_
    repeat' (first
  | with_reducible refine Qa (hbl (by omega)) (by simp) ?_
  | (with_reducible (first | refine Qk (fun hb_=>?_) (fun hb_=>?_) | refine Ql (fun hb_=>?_) (fun hb_=>?_))<;>simp (disch:=omega) [hb_,eqB,leB])
  | simp (disch:=omega) [eqB,leB])
    all_goals (try simp_all [QU,Kp])
   ·have hz:¬ (i:Int)=0:=by omega
    have hz2:¬ i=0:=by omega
    simp (disch:=omega) [Yc,Qt,Qo,GTerm.cells,hid]
    refine Qa (V3 c hc) (by simp) ?_
    repeat' (first
  | with_reducible refine Qa (hbl (by omega)) (by simp) ?_
  | (with_reducible (first | refine Qk (fun hb_=>?_) (fun hb_=>?_) | refine Ql (fun hb_=>?_) (fun hb_=>?_))<;>simp (disch:=omega) [hb_,eqB,leB,hz])
  | simp (disch:=omega) [eqB,leB,hz])
    all_goals (try simp_all [QU,Kp])
 have:=run _ rfl
 simpa using this
def KC (op:Int) (nl1:Bool) (ty:List Int) (i:Nat) (f:List Int):Wk:=if op=9 then [(nl1,ty)] else (Qz op ty i f).map fun l=>(false,l)
theorem ZrF (op:Int) (nl1:Bool) (ty:List Int) (i:Nat) (f:List Int):(KC op nl1 ty i f).map Prod.snd=Qz op ty i f:=by
 unfold KC
 split
 ·rename_i h;simp [Qz,h]
 ·simp [Function.comp_def]
abbrev ZbS (c:Wk):LV:=.sl (!c.isEmpty) c.isEmpty 1 (c.map fun x=>[eC x])
theorem Zm7 (g:GTerm) (op n:Int) (nl1:Bool) (gty:List Int) (nl2:Bool) (ks:List GTerm) (hg:g=.mk op n nl1 gty nl2 ks) (hop:0<=op∧op<=12) (i:Nat) (hi:i<=2) (nf:Bool) (f:List Int) {size:Int}
  (hf:i≠0->nf=false∧okL size f=true∧Zgf op (hd f)):Qe Tryz.prog Zc5 [g.lv,N i,L nf f] (·=ZbS (KC op nl1 gty i f)):=by
 subst hg
 refine Qe.of_codeOf Zpr Qx (by simp) ⟨_,rfl,by simp⟩ ?_
 by_cases h9:op=9
 ·subst h9
  simp (disch:=omega) [ZaN,Qt,Qo,GTerm.cells,KC,eqB,Qn]
 ·by_cases h0:Qy op i=0
  ·have e:KC op nl1 gty i f=[]:=by simp [KC,h9,Qz,h0]
   have h9':eqB op 9=false:=by rw [Qb];exact h9
   simp (disch:=omega) [ZaN,Qt,Qo,GTerm.cells,e,h9']
   refine Qa (Zph op i) (by simp) ?_
   rw [h0]
   simp (disch:=omega) [eqB]
  ·have hi0:i≠0:=by rintro rfl;apply h0;unfold Qy;rw [if_neg (by omega),if_neg (by omega)]
   obtain ⟨rfl,hf1,hf2⟩:=hf hi0
   have h9':eqB op 9=false:=by rw [Qb];exact h9
   have h0':eqB (Qy op i) 0=false:=by rw [Qb];exact h0
   have hp:=Zfa (Ye hf1)
   have h3:op=5∧i=1∨op=8∨op=12∧i=1:=by
    unfold Qy at h0
    by_cases g:op=5∧(i:Int)=1
    ·omega
    ·rw [if_neg g] at h0
     by_cases g:(op=8∧0 < (i:Int))∨op=9∨(op=12∧(i:Int)=1)
     ·omega
     ·rw [if_neg g] at h0;omega
   simp (disch:=omega) [ZaN,Qt,Qo,GTerm.cells,h9']
   refine Qa (Zph op i) (by simp) ?_
   simp (disch:=omega) [h0']
   refine Qa hp (by simp) ?_
   rcases h3 with ⟨rfl,rfl⟩ | rfl | ⟨rfl,rfl⟩
   ·rw [Vy (by rw [hf2.2.1 rfl];exact YG.1)]
    simp (disch:=omega) [eqB,KC,Qz,Qy,Qn,QP]
   ·rw [Vy (by rw [hf2.2.2.1 rfl];exact YG.2)]
    have:i=1∨i=2:=by omega
    rcases this with rfl | rfl
    ·simp (disch:=omega) [eqB,KC,Qz,Qy,Qn,QP,show IntKind.i64.wrap 0=0 by decide]
    ·simp (disch:=omega) [eqB,KC,Qz,Qy,Qn,QP,show IntKind.i64.wrap 1=1 by decide]
   ·rw [Zkb (ZgY (hf2.2.2.2.2 rfl))]
    simp (disch:=omega) [eqB,KC,Qz,Qy,Qn]
mutual
def TT.is:TT->LV->Prop
 | .mk ty nd ks,r=>∃ n3 n4 Qj,r=.rp [L false ty,L false nd,.sl false n3 1 Qj,N 0,.sl false n4 1 []]∧TT.are ks Qj
def TT.are:List TT->List (List LV)->Prop
 | [],Qj=>Qj=[]
 | k::ks,Qj=>∃ r rest,Qj=[r]::rest∧k.is r∧TT.are ks rest
end
def Res.is:Res->LV->Prop
 | .ok x,r=>x.is r
 | .bad f p,r=>f≠0∧∃ n4,r=.rp [.sl false true 1 [],.sl false true 1 [],.sl false true 1 [],N f,L n4 p]
mutual
theorem ZpG:∀ (x:TT) (r:LV),x.is r->share r=r∧∀ k,Low k r
 | .mk ty nd ks,r,h=>by
  simp only [TT.is] at h
  obtain ⟨n3,n4,Qj,rfl,hr⟩:=h
  obtain ⟨h1,h2⟩:=XK ks Qj hr
  exact ⟨by simp [h1],fun k=>by simp [h2 k]⟩
theorem XK:∀ (xs:List TT) (Qj:List (List LV)),TT.are xs Qj->Qv Qj=Qj∧∀ k,WV k Qj
 | [],Qj,h=>by simp only [TT.are] at h;subst h;simp
 | x::xs,Qj,h=>by
  simp only [TT.are] at h
  obtain ⟨r,rest,rfl,h1,h2⟩:=h
  obtain ⟨q1,q2⟩:=ZpG x r h1
  obtain ⟨q3,q4⟩:=XK xs rest h2
  exact ⟨by simp [q1,q3],fun k=>by simp [q2 k,q4 k]⟩
end
theorem ZoE:∀ (xs:List TT) (Qj:List (List LV)),TT.are xs Qj->Qj.length=xs.length
 | [],Qj,h=>by simp only [TT.are] at h;subst h;rfl
 | x::xs,Qj,h=>by
  simp only [TT.are] at h
  obtain ⟨r,rest,rfl,h1,h2⟩:=h
  simp [ZoE xs rest h2]
theorem Za2:∀ (xs:List TT) (Qj:List (List LV)) (x:TT) (r:LV),TT.are xs Qj->x.is r->TT.are (xs++[x]) (Qj++[[r]])
 | [],Qj,x,r,h,hx=>by simp only [TT.are] at h;subst h;simp only [List.nil_append,TT.are];exact ⟨r,[],rfl,hx,rfl⟩
 | y::xs,Qj,x,r,h,hx=>by
  simp only [TT.are] at h
  obtain ⟨q,rest,rfl,h1,h2⟩:=h
  simp only [List.cons_append,TT.are]
  exact ⟨q,rest++[[r]],rfl,h1,Za2 xs rest x r h2 hx⟩
theorem are_at:∀ (xs:List TT) (Qj:List (List LV)) (i:Nat) (h:i < xs.length),TT.are xs Qj->∃ r,Qj[i]?=some [r]∧(xs[i]).is r
 | [],Qj,i,hi,h=>by simp at hi
 | x::xs,Qj,i,hi,h=>by
  simp only [TT.are] at h
  obtain ⟨r,rest,rfl,h1,h2⟩:=h
  cases i with
  | zero=>exact ⟨r,rfl,h1⟩
  | succ i =>
   obtain ⟨q,h3,h4⟩:=are_at xs rest i (by simpa using hi) h2
   exact ⟨q,by simpa using h3,by simpa using h4⟩
theorem Zsc {xs:List TT} {Qj:List (List LV)} (h:TT.are xs Qj) (u nl:Bool) (i:Nat) (hi:i < xs.length):∃ n3 n4 rws,QP 1 (.sl u nl 1 Qj) (i:Int)=some (.rp [.rp [L false (tyP xs i),L false (xs[i]).needs,.sl false n3 1 rws,N 0,.sl false n4 1 []]])∧TT.are (xs[i]).kids rws:=by
 obtain ⟨r,h1,h2⟩:=are_at xs Qj i hi h
 have hl:=ZoE xs Qj h
 have e:tyP xs i=(xs[i]).ty:=by unfold tyP;rw [List.getD_eq_getElem?_getD,List.getElem?_eq_getElem hi];rfl
 rw [e]
 generalize xs[i]=x at *
 obtain ⟨ty,nd,ks⟩:=x
 simp only [TT.is] at h2
 obtain ⟨n3,n4,rws,rfl,h3⟩:=h2
 refine ⟨n3,n4,rws,?_,h3⟩
 simp only [QP]
 rw [if_pos ⟨trivial,by omega,by omega⟩]
 have hs:=(XK ks rws h3).1
 simp [List.getD_eq_getElem?_getD,h1,hs]
abbrev ZhI (T nd:LV) (u3 n3:Bool) (Qj:List (List LV)):Box:=some [T,nd,.sl u3 n3 1 Qj,N 0,.sl true true 1 []]
theorem ZpN {ds:List TT} {Qj:List (List LV)} (h:TT.are ds Qj) (T nd:LV) (u3 n3:Bool) (b0 b1 b2:Box) (hr:List Box) (i:Nat) (hi:i < ds.length) :
  QE Tryz.prog X5 [N i,.rp [.ptr 3 0]] (b0::b1::b2::ZhI T nd u3 n3 Qj::hr) (fun r h'=>r=L false (tyP ds i)∧h'=b0::b1::b2::ZhI T nd u3 n3 Qj::hr):=by
 refine QE.of_codeOf Zcl Qx (by simp) ⟨_,_,rfl,rfl⟩ ?_
 obtain ⟨n3',n4,rws,hix,hrw⟩:=Zsc h false n3 i hi
 have hs:=(XK ds Qj h).1
 have hs2:=(XK _ rws hrw).1
 simp (disch:=omega) [KD,hs,hix,hs2]
 refine QM (.inr rfl) (by simp) ⟨by simp,rfl⟩
theorem ZfR (p:Int->Bool):∀ (n g:Nat),Yy p g n=-1∨((g:Int)<=Yy p g n∧Yy p g n < g+n)
 | 0,g=>.inl rfl
 | n+1,g=>by
  unfold Yy
  split
  ·right;omega
  ·rcases ZfR p n (g+1) with h | h
   ·exact .inl h
   ·right;omega
theorem Zjw {s:GSys} (hs:s.sys=true) {a b:Int} (ha:s.G a) (hb:s.G b):s.G (s.join a b):=by
 have t:=GSys.sys_of hs
 have h2:leB 0 (s.join a b)=true:=by
  unfold GSys.sys at hs
  rw [Bool.and_eq_true,Zb] at hs
  have h:=hs.2 a.toNat (by have:=ha.1;have:=ha.2;omega)
  unfold GSys.sysB at h
  rw [Bool.and_eq_true,Zb] at h
  have h:=h.2 b.toNat (by have:=hb.1;have:=hb.2;omega)
  unfold GSys.sysC at h
  rw [Bool.and_eq_true] at h
  have h:=h.1
  unfold GSys.two at h
  simp only [Bool.and_eq_true] at h
  have e1:((a.toNat:Nat):Int)=a:=by have:=ha.1;omega
  have e2:((b.toNat:Nat):Int)=b:=by have:=hb.1;omega
  rw [e1,e2] at h
  exact h.2
 rw [Qi] at h2
 have:=ZfR (s.isJoin a b) s.size.toNat 0
 unfold GSys.join at h2 ⊢
 have:=t.lo
 exact ⟨h2,by omega⟩
theorem Zkh {s:GSys} (hs:s.sys=true) {a b:List Int} (u:Int) (hu:u∈YC s a b) (ha:∀ u∈a,s.G u) (hb:∀ u∈b,s.G u):s.G u:=by
 unfold YC at hu
 rw [List.mem_iff_getElem] at hu
 obtain ⟨i,hi,rfl⟩:=hu
 simp only [List.length_zipWith] at hi
 rw [List.getElem_zipWith]
 exact Zjw hs (ha _ (List.getElem_mem _)) (hb _ (List.getElem_mem _))
theorem ZV {l:List Int} (h:l≠[]):QP 1 (L false l) 0=some (.rp [N (hd l)]):=by
 cases l with
 | nil=>exact absurd rfl h
 | cons c l =>
  have:=Xv (c::l) false false 0 (by omega) (by simp)
  simpa using this
theorem cat3 (x:Int) (na nb:Bool) (a b:List Int) (ha:a.length<=1000) (hb:b.length<=1000) :
  Qe Tryz.prog Q6 [.sl false false 1 [[.sl false false 1 [[N x]]],[L na a],[L nb b]]] (·=OU true false (x::(a++b))):=by
 have h:=ZjH [(false,[x]),(na,a),(nb,b)] (by simp) (by simp [lnI];omega)
 have e:flI [(false,[x]),(na,a),(nb,b)]=x::(a++b):=by simp [flI]
 have e2:ltB 0 ((x::(a++b)).length:Int)=true:=by rw [Qf];simp<;>omega
 rw [e] at h
 unfold catI at h
 rw [e2] at h
 exact h
theorem cat2 (x:Int) (na:Bool) (a:List Int) (ha:a.length<=1000) :
  Qe Tryz.prog Q6 [.sl false false 1 [[.sl false false 1 [[N x]]],[L na a]]] (·=OU true false (x::a)):=by
 have h:=ZjH [(false,[x]),(na,a)] (by simp) (by simp [lnI];omega)
 have e:flI [(false,[x]),(na,a)]=x::a:=by simp [flI]
 have e2:ltB 0 ((x::a).length:Int)=true:=by rw [Qf];simp<;>omega
 rw [e] at h
 unfold catI at h
 rw [e2] at h
 exact h
def FinR (q:Int×List Int×List Int) (m:Nat) (u3 n3:Bool) (Qj:List (List LV)) (r:LV) (h':List Box):Prop:=r=N q.1∧∃ T nd c2 hr',h'=none::none::c2::ZhI T nd u3 n3 Qj::hr' ∧
 (q.1=0->(∃ u,T=OU u false q.2.1)∧((∃ u,nd=OU u false q.2.2)∨(nd=.ha 2 1 0 m m∧c2=some (q.2.2.map N)∧q.2.2.length=m)))
theorem ZrL {s:GSys} (hsy:s.sys=true) (nlc:Bool) (ctx:Wk) (hcl:ctx.length<=100000) (hc:∀ c∈ctx,okL s.size c.2=true) (hcf:∀ c∈ctx,c.1=false) (op n:Int) (nl1:Bool) (gty:List Int) (nl2:Bool) (ks:List GTerm) (ds:List TT)
  (no:NodeOk s ctx.length op n gty ds.length) (k:KidsOk s ctx.length op n ds) (Qj:List (List LV)) (hrw:TT.are ds Qj) (u3 n3 nn nu:Bool) (nds uds:Wk)
  (hnd:∀ i,i < ds.length->QP 1 (LC nn nds) (i:Int)=some (.rp [L false (ndP op ds i)])) (hud:∀ i,i < ds.length->∃ f,QP 1 (LC nu uds) (i:Int)=some (.rp [L f (usP op ds i)])) (hr:List Box) (m:Nat) (hm:ctx.length=m) :
  QE Tryz.prog ZU [s.lv,.ptr 3 0,LC nlc ctx,(GTerm.mk op n nl1 gty nl2 ks).lv,LC nn nds,LC nu uds] (none::none::some ((zeros m).map N)::ZhI (.sl true true 1 []) (.ha 2 1 0 m m) u3 n3 Qj::hr)
   (FinR (Q0 s (ctx.map Prod.snd) op n gty ds) m u3 n3 Qj):=by
 subst hm
 have t:=GSys.sys_of hsy
 have h16:=t.hi
 obtain ⟨many,hvar,hgr,hty,o1,o2⟩:=no
 have get:∀ i,i < ds.length->∃ x,ds[i]?=some x∧x.good s (ctx.length+(Qy op i).toNat):=fun i hi =>
  ⟨_,List.getElem?_eq_getElem hi,(k.each i _ (List.getElem?_eq_getElem hi)).1⟩
 have tyG:∀ i,i < ds.length->okL s.size (tyP ds i)=true:=fun i hi=>by
  obtain ⟨x,h1,h2⟩:=get i hi
  unfold tyP;rw [List.getD_eq_getElem?_getD,h1];exact h2.1
 have ndL:∀ i,i < ds.length->(ndP op ds i).length=ctx.length:=fun i hi=>by
  obtain ⟨x,h1,h2⟩:=get i hi
  unfold ndP;rw [List.getD_eq_getElem?_getD,h1];exact (Ze8 h2).1
 have ndG:∀ i,i < ds.length->∀ u∈ndP op ds i,s.G u:=fun i hi=>by
  obtain ⟨x,h1,h2⟩:=get i hi
  unfold ndP;rw [List.getD_eq_getElem?_getD,h1];exact (Ze8 h2).2
 have usL:∀ i,i < ds.length->(usP op ds i).length<=1099511627776:=fun i hi=>by
  unfold usP;rw [List.length_take];have:=V8 op i;omega
 have usG:∀ i,i < ds.length->∀ u∈usP op ds i,s.G u:=fun i hi u hu=>by
  obtain ⟨x,h1,h2⟩:=get i hi
  unfold usP at hu;rw [List.getD_eq_getElem?_getD,h1] at hu;exact h2.2.2 u (List.mem_of_mem_take hu)
 have fst:0 < ds.length->Zgf op (hd (tyP ds 0)):=fun hi=>(k.first (by rintro rfl;simp at hi)).2.1
 have kid:∀ (T nd:LV) (b0 b1 b2:Box) (hr:List Box) (i:Nat) (hi:i < ds.length),QE Tryz.prog X5 [N i,.rp [.ptr 3 0]] (b0::b1::b2::ZhI T nd u3 n3 Qj::hr) (fun r h'=>r=L false (tyP ds i)∧h'=b0::b1::b2::ZhI T nd u3 n3 Qj::hr) :=
  fun T nd b0 b1 b2 hr i hi=>ZpN hrw T nd u3 n3 b0 b1 b2 hr i hi
 have sumc:=fun (n1 n2:Bool) (a b:List Int) (h1:a.length=ctx.length) (h2:b.length=ctx.length) (ha:∀ u∈a,s.G u) (hb:∀ u∈b,s.G u)=>sumF_ok t n1 n2 a b (by omega) (by omega) ha hb
 have eqc:=fun (n1 n2:Bool) (i j:Nat) (hi:i < ds.length)=>ZgK n1 n2 (tyP ds i) (tyP ds j) (by have:=QK (tyG i hi);omega)
 have lg:=fun (l:List Int)=>long_ok false false l
 have hidx:∀ (i:Nat) (h:i < ctx.length),QP 1 (LC nlc ctx) (i:Int)=some (.rp [eC ctx[i]]):=fun i h=>Kl ctx nlc i h
 have hex:∃ r h',FinR (Q0 s (ctx.map Prod.snd) op n gty ds) ctx.length u3 n3 Qj r h':=⟨_,_,rfl,OU true false (Q0 s (ctx.map Prod.snd) op n gty ds).2.1,OU true false (Q0 s (ctx.map Prod.snd) op n gty ds).2.2,none,[],rfl,fun _=>⟨⟨true,rfl⟩,.inl ⟨true,rfl⟩⟩⟩
 have hops:op=0∨op=1∨op=2∨op=3∨op=4∨op=5∨op=6∨op=7∨op=8∨op=9∨op=10∨op=11∨op=12:=by omega
 refine QE.of_codeOf ZdH Qx (by simp) hex ?_
 rcases hops with e | e | e | e | e | e | e | e | e | e | e | e | e
 all_goals subst e
 all_goals simp [W1] at many
 ·obtain ⟨v0,v1⟩:=hvar rfl
  obtain ⟨v,rfl⟩:∃ v:Nat,n=v:=⟨n.toNat,by omega⟩
  have hv:v < ctx.length:=by omega
  have hx:=hidx v hv
  have hxo:=hc _ (List.getElem_mem hv)
  have hxf:=hcf _ (List.getElem_mem hv)
  have hget:(ctx.map Prod.snd)[v]?=some (ctx[v].2):=by simp [hv]
  generalize ctx[v]=c at hx hxo hxf hget
  obtain ⟨cf,cl⟩:=c
  simp only at hxo hxf hget
  subst hxf
  have hlen:=QK hxo
  simp (disch:=omega) [QT,Qt,Qo,GTerm.cells,eqB,hx]
  refine Qa (Zhc false cl (by omega)) (by simp) ?_
  have hzl:(zeros (List.length ctx)).length=List.length ctx:=by simp [zeros]
  simp (disch:=omega) [Go.Proofs.YtbmepminmpjlcaaGreat.cl,Zy,hzl]
  refine ⟨by omega,?_⟩
  refine Qa (lg cl) (by simp) ?_
  have hlb:ltB 40 cl.length=false:=by rw [Qd];omega
  simp (disch:=omega) [hlb]
  refine QM (.inr rfl) (by simp) ⟨by simp [Q0],_,_,_,_,rfl,fun _=>?_⟩
  simp [Q0,hget]
  refine ⟨?_,hzl⟩
  rw [List.set_eq_take_append_cons_drop,if_pos (by rw [List.length_map,hzl];omega)]
 ·simp (disch:=omega) [QT,Qt,Qo,GTerm.cells,eqB,Qn]
  refine Qa (lg [0]) (by simp) ?_
  simp (disch:=omega) [ltB]
  refine QM (.inr rfl) (by simp) ⟨by simp [Q0],_,_,_,_,rfl,fun _=>?_⟩
  simp [Q0,zeros]
 ·have i0:QP 1 (LC nn nds) 0=some (.rp [L false (ndP 2 ds 0)]):=hnd 0 (by omega)
  have a0:=ndL 0 (by omega)
  have b0:=ndG 0 (by omega)
  have l0:=QK (tyG 0 (by omega))
  have i1:QP 1 (LC nn nds) 1=some (.rp [L false (ndP 2 ds 1)]):=hnd 1 (by omega)
  have a1:=ndL 1 (by omega)
  have b1:=ndG 1 (by omega)
  have l1:=QK (tyG 1 (by omega))
  simp (disch:=omega) [QT,Qt,Qo,GTerm.cells,eqB,i0,i1,Qn]
  refine Qa (sumc false false _ _ a0 a1 b0 b1) (by simp) ?_
  simp (disch:=omega) [i0,i1,Qn]
  refine Qa (lg [0]) (by simp) ?_
  simp (disch:=omega) [ltB]
  refine QM (.inr rfl) (by simp) ⟨by simp [Q0],_,_,_,_,rfl,fun _=>?_⟩
  simp [Q0]
 ·have i0:QP 1 (LC nn nds) 0=some (.rp [L false (ndP 3 ds 0)]):=hnd 0 (by omega)
  have a0:=ndL 0 (by omega)
  have b0:=ndG 0 (by omega)
  have l0:=QK (tyG 0 (by omega))
  have i1:QP 1 (LC nn nds) 1=some (.rp [L false (ndP 3 ds 1)]):=hnd 1 (by omega)
  have a1:=ndL 1 (by omega)
  have b1:=ndG 1 (by omega)
  have l1:=QK (tyG 1 (by omega))
  have i2:QP 1 (LC nn nds) 2=some (.rp [L false (ndP 3 ds 2)]):=hnd 2 (by omega)
  have a2:=ndL 2 (by omega)
  have b2:=ndG 2 (by omega)
  have l2:=QK (tyG 2 (by omega))
  simp (disch:=omega) [QT,Qt,Qo,GTerm.cells,eqB,i0,i1,i2,Qn]
  refine Qm (kid _ _ _ _ _ _ 1 (by omega)) ?_
  rintro r h' ⟨rfl,rfl⟩
  simp (disch:=omega) [i0,i1,i2,Qn]
  refine Qm (kid _ _ _ _ _ _ 2 (by omega)) ?_
  rintro r h' ⟨rfl,rfl⟩
  simp (disch:=omega) [i0,i1,i2,Qn]
  refine Qa (eqc false false 1 2 (by omega)) (by simp) ?_
  cases he:(tyP ds 1 == tyP ds 2)
  ·simp (disch:=omega)
   have he':tyP ds 1≠tyP ds 2:=by simpa using he
   exact QM (.inr rfl) (by simp) ⟨by simp [Q0,he'],_,_,_,_,rfl,fun h=>by simp [Q0,he'] at h⟩
  ·simp (disch:=omega) [i0,i1,i2,Qn]
   have he':tyP ds 1=tyP ds 2:=by simpa using he
   refine Qm (kid _ _ _ _ _ _ 1 (by omega)) ?_
   rintro r h' ⟨rfl,rfl⟩
   simp (disch:=omega) [i0,i1,i2,Qn]
   have jo:=ZcI (s:=s) a1 a2
   have jg:∀ u∈YC s (ndP 3 ds 1) (ndP 3 ds 2),s.G u:=fun u hu=>Zkh hsy u hu b1 b2
   refine Qa (ZqH t false false _ _ (by omega) (by omega) b1 b2) (by simp) ?_
   simp (disch:=omega) [i0,i1,i2,Qn]
   refine Qa (sumc false false _ _ a0 jo b0 jg) (by simp) ?_
   simp (disch:=omega) [i0,i1,i2,Qn]
   have hl1:ltB 40 (tyP ds 1).length=false:=by rw [Qd];omega
   refine Qa (lg (tyP ds 1)) (by simp) ?_
   simp (disch:=omega) [hl1]
   refine QM (.inr rfl) (by simp) ⟨by simp [Q0,he'],_,_,_,_,rfl,fun _=>?_⟩
   simp [Q0,he']
 ·have i0:QP 1 (LC nn nds) 0=some (.rp [L false (ndP 4 ds 0)]):=hnd 0 (by omega)
  have a0:=ndL 0 (by omega)
  have b0:=ndG 0 (by omega)
  have l0:=QK (tyG 0 (by omega))
  have i1:QP 1 (LC nn nds) 1=some (.rp [L false (ndP 4 ds 1)]):=hnd 1 (by omega)
  have a1:=ndL 1 (by omega)
  have b1:=ndG 1 (by omega)
  have l1:=QK (tyG 1 (by omega))
  simp (disch:=omega) [QT,Qt,Qo,GTerm.cells,eqB,i0,i1,Qn]
  refine Qm (kid _ _ _ _ _ _ 0 (by omega)) ?_
  rintro r h' ⟨rfl,rfl⟩
  simp (disch:=omega) [i0,i1,Qn]
  refine Qm (kid _ _ _ _ _ _ 1 (by omega)) ?_
  rintro r h' ⟨rfl,rfl⟩
  simp (disch:=omega) [i0,i1,Qn]
  obtain ⟨z,hz⟩:∃ z,z=1::(tyP ds 0++tyP ds 1):=⟨_,rfl⟩
  have cz:=cat3 1 false false (tyP ds 0) (tyP ds 1) (by omega) (by omega)
  rw [<- hz] at cz
  refine Qa cz (by simp) ?_
  simp (disch:=omega) [i0,i1,Qn]
  refine Qa (sumc false false _ _ a0 a1 b0 b1) (by simp) ?_
  simp (disch:=omega) [i0,i1,Qn]
  refine Qa (lg z) (by simp) ?_
  have fp:Q0 s (ctx.map Prod.snd) 4 n gty ds=YT z (Y6 s (ndP 4 ds 0) (ndP 4 ds 1)):=by simp [Q0,hz]
  rw [fp,YT]
  by_cases hl:z.length<=40
  ·have hb:ltB 40 (z.length:Int)=false:=by rw [Qd];omega
   rw [hb,if_pos hl]
   simp (disch:=omega)
   exact QM (.inr rfl) (by simp) ⟨rfl,_,_,_,_,rfl,fun _=>⟨⟨_,rfl⟩,.inl ⟨_,rfl⟩⟩⟩
  ·have hb:ltB 40 (z.length:Int)=true:=by rw [Qf];omega
   rw [hb,if_neg hl]
   simp (disch:=omega)
   exact QM (.inr rfl) (by simp) ⟨rfl,_,_,_,_,rfl,fun h=>by simp at h⟩
 ·have i0:QP 1 (LC nn nds) 0=some (.rp [L false (ndP 5 ds 0)]):=hnd 0 (by omega)
  have a0:=ndL 0 (by omega)
  have b0:=ndG 0 (by omega)
  have l0:=QK (tyG 0 (by omega))
  have i1:QP 1 (LC nn nds) 1=some (.rp [L false (ndP 5 ds 1)]):=hnd 1 (by omega)
  have a1:=ndL 1 (by omega)
  have b1:=ndG 1 (by omega)
  have l1:=QK (tyG 1 (by omega))
  obtain ⟨g1,j1⟩:∃ f,QP 1 (LC nu uds) 1=some (.rp [L f (usP 5 ds 1)]):=hud 1 (by omega)
  have uo1:=fun (g:Int) hg=>Zbp t (g:=g) hg g1 (usP 5 ds 1) (usL 1 (by omega)) (usG 1 (by omega))
  have hgn:=hgr (by simp [XH,Qc])
  simp (disch:=omega) [QT,Qt,Qo,GTerm.cells,eqB,i0,i1,j1,Qn]
  refine Qa (uo1 n hgn) (by simp) ?_
  cases hu:Wr s (usP 5 ds 1) (n)
  ·simp (disch:=omega)
   exact QM (.inr rfl) (by simp) ⟨by simp [Q0,hu],_,_,_,_,rfl,fun h=>by simp [Q0,hu] at h⟩
  ·simp (disch:=omega) [i0,i1,j1,Qn]
   refine Qm (kid _ _ _ _ _ _ 1 (by omega)) ?_
   rintro r h' ⟨rfl,rfl⟩
   simp (disch:=omega) [i0,i1,j1,Qn]
   refine Qa (Zbc t (n) (hgn) false _ (by omega) b0) (by simp) ?_
   simp (disch:=omega) [i0,i1,j1,Qn]
   have sc:=Yp t (g:=n) a0
   refine Qa (sumc false false _ _ sc.1 a1 sc.2 b1) (by simp) ?_
   simp (disch:=omega) [i0,i1,j1,Qn]
   have hl1:ltB 40 (tyP ds 1).length=false:=by rw [Qd];omega
   refine Qa (lg (tyP ds 1)) (by simp) ?_
   simp (disch:=omega) [hl1]
   refine QM (.inr rfl) (by simp) ⟨by simp [Q0,hu],_,_,_,_,rfl,fun _=>?_⟩
   simp [Q0,hu]
 ·have i0:QP 1 (LC nn nds) 0=some (.rp [L false (ndP 6 ds 0)]):=hnd 0 (by omega)
  have a0:=ndL 0 (by omega)
  have b0:=ndG 0 (by omega)
  have l0:=QK (tyG 0 (by omega))
  have hgt:=hty (by simp [Xa,Qc])
  have lt:=QK hgt
  simp (disch:=omega) [QT,Qt,Qo,GTerm.cells,eqB,i0,Qn]
  refine Qm (kid _ _ _ _ _ _ 0 (by omega)) ?_
  rintro r h' ⟨rfl,rfl⟩
  simp (disch:=omega) [i0,Qn]
  obtain ⟨z,hz⟩:∃ z,z=2::(tyP ds 0++gty):=⟨_,rfl⟩
  have cz:=cat3 2 false nl1 (tyP ds 0) gty (by omega) (by omega)
  rw [<- hz] at cz
  refine Qa cz (by simp) ?_
  simp (disch:=omega) [i0,Qn]
  refine Qa (lg z) (by simp) ?_
  have fp:Q0 s (ctx.map Prod.snd) 6 n gty ds=YT z (ndP 6 ds 0):=by simp [Q0,hz]
  rw [fp,YT]
  by_cases hl:z.length<=40
  ·have hb:ltB 40 (z.length:Int)=false:=by rw [Qd];omega
   rw [hb,if_pos hl]
   simp (disch:=omega)
   exact QM (.inr rfl) (by simp) ⟨rfl,_,_,_,_,rfl,fun _=>⟨⟨_,rfl⟩,.inl ⟨_,rfl⟩⟩⟩
  ·have hb:ltB 40 (z.length:Int)=true:=by rw [Qf];omega
   rw [hb,if_neg hl]
   simp (disch:=omega)
   exact QM (.inr rfl) (by simp) ⟨rfl,_,_,_,_,rfl,fun h=>by simp at h⟩
 ·have i0:QP 1 (LC nn nds) 0=some (.rp [L false (ndP 7 ds 0)]):=hnd 0 (by omega)
  have a0:=ndL 0 (by omega)
  have b0:=ndG 0 (by omega)
  have l0:=QK (tyG 0 (by omega))
  have hgt:=hty (by simp [Xa,Qc])
  have lt:=QK hgt
  simp (disch:=omega) [QT,Qt,Qo,GTerm.cells,eqB,i0,Qn]
  refine Qm (kid _ _ _ _ _ _ 0 (by omega)) ?_
  rintro r h' ⟨rfl,rfl⟩
  simp (disch:=omega) [i0,Qn]
  obtain ⟨z,hz⟩:∃ z,z=2::(gty++tyP ds 0):=⟨_,rfl⟩
  have cz:=cat3 2 nl1 false gty (tyP ds 0) (by omega) (by omega)
  rw [<- hz] at cz
  refine Qa cz (by simp) ?_
  simp (disch:=omega) [i0,Qn]
  refine Qa (lg z) (by simp) ?_
  have fp:Q0 s (ctx.map Prod.snd) 7 n gty ds=YT z (ndP 7 ds 0):=by simp [Q0,hz]
  rw [fp,YT]
  by_cases hl:z.length<=40
  ·have hb:ltB 40 (z.length:Int)=false:=by rw [Qd];omega
   rw [hb,if_pos hl]
   simp (disch:=omega)
   exact QM (.inr rfl) (by simp) ⟨rfl,_,_,_,_,rfl,fun _=>⟨⟨_,rfl⟩,.inl ⟨_,rfl⟩⟩⟩
  ·have hb:ltB 40 (z.length:Int)=true:=by rw [Qf];omega
   rw [hb,if_neg hl]
   simp (disch:=omega)
   exact QM (.inr rfl) (by simp) ⟨rfl,_,_,_,_,rfl,fun h=>by simp at h⟩
 ·have i0:QP 1 (LC nn nds) 0=some (.rp [L false (ndP 8 ds 0)]):=hnd 0 (by omega)
  have a0:=ndL 0 (by omega)
  have b0:=ndG 0 (by omega)
  have l0:=QK (tyG 0 (by omega))
  have i1:QP 1 (LC nn nds) 1=some (.rp [L false (ndP 8 ds 1)]):=hnd 1 (by omega)
  have a1:=ndL 1 (by omega)
  have b1:=ndG 1 (by omega)
  have l1:=QK (tyG 1 (by omega))
  have i2:QP 1 (LC nn nds) 2=some (.rp [L false (ndP 8 ds 2)]):=hnd 2 (by omega)
  have a2:=ndL 2 (by omega)
  have b2:=ndG 2 (by omega)
  have l2:=QK (tyG 2 (by omega))
  obtain ⟨g1,j1⟩:∃ f,QP 1 (LC nu uds) 1=some (.rp [L f (usP 8 ds 1)]):=hud 1 (by omega)
  have uo1:=fun (g:Int) hg=>Zbp t (g:=g) hg g1 (usP 8 ds 1) (usL 1 (by omega)) (usG 1 (by omega))
  obtain ⟨g2,j2⟩:∃ f,QP 1 (LC nu uds) 2=some (.rp [L f (usP 8 ds 2)]):=hud 2 (by omega)
  have uo2:=fun (g:Int) hg=>Zbp t (g:=g) hg g2 (usP 8 ds 2) (usL 2 (by omega)) (usG 2 (by omega))
  have hgn:=hgr (by simp [XH,Qc])
  simp (disch:=omega) [QT,Qt,Qo,GTerm.cells,eqB,i0,i1,i2,j1,j2,Qn]
  refine Qm (kid _ _ _ _ _ _ 1 (by omega)) ?_
  rintro r h' ⟨rfl,rfl⟩
  simp (disch:=omega) [i0,i1,i2,j1,j2,Qn]
  refine Qm (kid _ _ _ _ _ _ 2 (by omega)) ?_
  rintro r h' ⟨rfl,rfl⟩
  simp (disch:=omega) [i0,i1,i2,j1,j2,Qn]
  refine Qa (eqc false false 1 2 (by omega)) (by simp) ?_
  cases he:(tyP ds 1 == tyP ds 2)
  ·simp (disch:=omega)
   have he':tyP ds 1≠tyP ds 2:=by simpa using he
   exact QM (.inr rfl) (by simp) ⟨by simp [Q0,he'],_,_,_,_,rfl,fun h=>by simp [Q0,he'] at h⟩
  ·simp (disch:=omega) [i0,i1,i2,j1,j2,Qn]
   have he':tyP ds 1=tyP ds 2:=by simpa using he
   refine Qa (uo1 n hgn) (by simp) ?_
   cases hu:Wr s (usP 8 ds 1) (n)
   ·simp (disch:=omega)
    exact QM (.inr rfl) (by simp) ⟨by simp [Q0,he',hu],_,_,_,_,rfl,fun h=>by simp [Q0,he',hu] at h⟩
   ·simp (disch:=omega) [i0,i1,i2,j1,j2,Qn]
    refine Qa (uo2 n hgn) (by simp) ?_
    cases hv:Wr s (usP 8 ds 2) (n)
    ·simp (disch:=omega)
     exact QM (.inr rfl) (by simp) ⟨by simp [Q0,he',hu,hv],_,_,_,_,rfl,fun h=>by simp [Q0,he',hu,hv] at h⟩
    ·simp (disch:=omega) [i0,i1,i2,j1,j2,Qn]
     refine Qm (kid _ _ _ _ _ _ 1 (by omega)) ?_
     rintro r h' ⟨rfl,rfl⟩
     simp (disch:=omega) [i0,i1,i2,j1,j2,Qn]
     refine Qa (Zbc t (n) (hgn) false _ (by omega) b0) (by simp) ?_
     simp (disch:=omega) [i0,i1,i2,j1,j2,Qn]
     have sc:=Yp t (g:=n) a0
     have jo:=ZcI (s:=s) a1 a2
     have jg:∀ u∈YC s (ndP 8 ds 1) (ndP 8 ds 2),s.G u:=fun u hu=>Zkh hsy u hu b1 b2
     refine Qa (ZqH t false false _ _ (by omega) (by omega) b1 b2) (by simp) ?_
     simp (disch:=omega) [i0,i1,i2,j1,j2,Qn]
     refine Qa (sumc false false _ _ sc.1 jo sc.2 jg) (by simp) ?_
     simp (disch:=omega) [i0,i1,i2,j1,j2,Qn]
     have hl1:ltB 40 (tyP ds 1).length=false:=by rw [Qd];omega
     refine Qa (lg (tyP ds 1)) (by simp) ?_
     simp (disch:=omega) [hl1]
     refine QM (.inr rfl) (by simp) ⟨by simp [Q0,he',hu,hv],_,_,_,_,rfl,fun _=>?_⟩
     simp [Q0,he',hu,hv]
 ·have i0:QP 1 (LC nn nds) 0=some (.rp [L false (ndP 9 ds 0)]):=hnd 0 (by omega)
  have a0:=ndL 0 (by omega)
  have b0:=ndG 0 (by omega)
  have l0:=QK (tyG 0 (by omega))
  obtain ⟨g0,j0⟩:∃ f,QP 1 (LC nu uds) 0=some (.rp [L f (usP 9 ds 0)]):=hud 0 (by omega)
  have uo0:=fun (g:Int) hg=>Zbp t (g:=g) hg g0 (usP 9 ds 0) (usL 0 (by omega)) (usG 0 (by omega))
  have hgn:=hgr (by simp [XH,Qc])
  have hgt:=hty (by simp [Xa,Qc])
  have lt:=QK hgt
  simp (disch:=omega) [QT,Qt,Qo,GTerm.cells,eqB,i0,j0,Qn]
  refine Qa (uo0 n hgn) (by simp) ?_
  cases hu:Wr s (usP 9 ds 0) (n)
  ·simp (disch:=omega)
   exact QM (.inr rfl) (by simp) ⟨by simp [Q0,hu],_,_,_,_,rfl,fun h=>by simp [Q0,hu] at h⟩
  ·simp (disch:=omega) [i0,j0,Qn]
   rw [Qg (by have:=hgn.1;have:=hgn.2;omega)]
   refine Qm (kid _ _ _ _ _ _ 0 (by omega)) ?_
   rintro r h' ⟨rfl,rfl⟩
   simp (disch:=omega) [i0,j0,Qn]
   obtain ⟨z,hz⟩:∃ z,z=(3+n)::(gty++tyP ds 0):=⟨_,rfl⟩
   have cz:=cat3 (3+n) nl1 false gty (tyP ds 0) (by omega) (by omega)
   rw [<- hz] at cz
   refine Qa cz (by simp) ?_
   simp (disch:=omega) [i0,j0,Qn]
   refine Qa (lg z) (by simp) ?_
   have fp:Q0 s (ctx.map Prod.snd) 9 n gty ds=YT z (ndP 9 ds 0):=by simp [Q0,hz,hu]
   rw [fp,YT]
   by_cases hl:z.length<=40
   ·have hb:ltB 40 (z.length:Int)=false:=by rw [Qd];omega
    rw [hb,if_pos hl]
    simp (disch:=omega)
    exact QM (.inr rfl) (by simp) ⟨rfl,_,_,_,_,rfl,fun _=>⟨⟨_,rfl⟩,.inl ⟨_,rfl⟩⟩⟩
   ·have hb:ltB 40 (z.length:Int)=true:=by rw [Qf];omega
    rw [hb,if_neg hl]
    simp (disch:=omega)
    exact QM (.inr rfl) (by simp) ⟨rfl,_,_,_,_,rfl,fun h=>by simp at h⟩
 ·have i0:QP 1 (LC nn nds) 0=some (.rp [L false (ndP 10 ds 0)]):=hnd 0 (by omega)
  have a0:=ndL 0 (by omega)
  have b0:=ndG 0 (by omega)
  have l0:=QK (tyG 0 (by omega))
  have i1:QP 1 (LC nn nds) 1=some (.rp [L false (ndP 10 ds 1)]):=hnd 1 (by omega)
  have a1:=ndL 1 (by omega)
  have b1:=ndG 1 (by omega)
  have l1:=QK (tyG 1 (by omega))
  have h0:=XX (tyG 0 (by omega))
  have hx0:QP 1 (L false (tyP ds 0)) 0=some (.rp [N (hd (tyP ds 0))]):=ZV h0.2.2.2.1
  have hga:=fst (by omega)
  have hgc:=Zfb h0.1 (.inl ((fst (by omega)).2.2.2.1 rfl))
  have hsh:(QH (hd (tyP ds 0))).2=Xx (hd (tyP ds 0)):=(KL h0.2.1 h0.2.2.1).2.2.2.2.2 (.inl ((fst (by omega)).2.2.2.1 rfl))
  have hgg:s.G (QH (hd (tyP ds 0))).2:=by rw [hsh];exact hgc
  simp (disch:=omega) [QT,Qt,Qo,GTerm.cells,eqB,i0,i1,Qn]
  refine Qm (kid _ _ _ _ _ _ 0 (by omega)) ?_
  rintro r h' ⟨rfl,rfl⟩
  simp (disch:=omega) [hx0,Qn]
  refine Qa (V3 _ ⟨by omega,by omega⟩) (by simp) ?_
  simp (disch:=omega) [i0,i1,Qn]
  refine Qm (kid _ _ _ _ _ _ 0 (by omega)) ?_
  rintro r h' ⟨rfl,rfl⟩
  simp (disch:=omega) [i0,i1,Qn]
  refine Qa (Zfa (Ye (tyG 0 (by omega)))) (by simp) ?_
  rw [Vy (ZcE (hga.2.2.2.1 rfl))]
  have hx1:QP 1 (.sl true false 1 [[L false (QA (tyP ds 0))],[L false (QX (tyP ds 0))]]) 1=some (.rp [L false (QX (tyP ds 0))]):=by simp [QP]
  simp (disch:=omega) [i0,i1,Qn,hx1]
  refine Qa (Zbc t ((QH (hd (tyP ds 0))).2) (hgg) false _ (by omega) b1) (by simp) ?_
  simp (disch:=omega) [i0,i1,Qn]
  have sc:=Yp t (g:=(QH (hd (tyP ds 0))).2) a1
  refine Qa (sumc false false _ _ a0 sc.1 b0 sc.2) (by simp) ?_
  simp (disch:=omega) [i0,i1,Qn]
  have l9:=QK (Xs (tyG 0 (by omega)) (ZcE (hga.2.2.2.1 rfl))).2.2
  have hl9:ltB 40 (QX (tyP ds 0)).length=false:=by rw [Qd];omega
  refine Qa (lg (QX (tyP ds 0))) (by simp) ?_
  simp (disch:=omega) [hl9]
  refine QM (.inr rfl) (by simp) ⟨by simp [Q0],_,_,_,_,rfl,fun _=>?_⟩
  simp [Q0]
 ·have i0:QP 1 (LC nn nds) 0=some (.rp [L false (ndP 11 ds 0)]):=hnd 0 (by omega)
  have a0:=ndL 0 (by omega)
  have b0:=ndG 0 (by omega)
  have l0:=QK (tyG 0 (by omega))
  have hgn:=hgr (by simp [XH,Qc])
  simp (disch:=omega) [QT,Qt,Qo,GTerm.cells,eqB,i0,Qn]
  rw [Qg (by have:=hgn.1;have:=hgn.2;omega)]
  refine Qm (kid _ _ _ _ _ _ 0 (by omega)) ?_
  rintro r h' ⟨rfl,rfl⟩
  simp (disch:=omega) [i0,Qn]
  obtain ⟨z,hz⟩:∃ z,z=(19+n)::tyP ds 0:=⟨_,rfl⟩
  have cz:=cat2 (19+n) false (tyP ds 0) (by omega)
  rw [<- hz] at cz
  refine Qa cz (by simp) ?_
  simp (disch:=omega) [i0,Qn]
  refine Qa (Zbc t (n) (hgn) false _ (by omega) b0) (by simp) ?_
  simp (disch:=omega) [i0,Qn]
  refine Qa (lg z) (by simp) ?_
  have fp:Q0 s (ctx.map Prod.snd) 11 n gty ds=YT z (Wg s n (ndP 11 ds 0)):=by simp [Q0,hz]
  rw [fp,YT]
  by_cases hl:z.length<=40
  ·have hb:ltB 40 (z.length:Int)=false:=by rw [Qd];omega
   rw [hb,if_pos hl]
   simp (disch:=omega)
   exact QM (.inr rfl) (by simp) ⟨rfl,_,_,_,_,rfl,fun _=>⟨⟨_,rfl⟩,.inl ⟨_,rfl⟩⟩⟩
  ·have hb:ltB 40 (z.length:Int)=true:=by rw [Qf];omega
   rw [hb,if_neg hl]
   simp (disch:=omega)
   exact QM (.inr rfl) (by simp) ⟨rfl,_,_,_,_,rfl,fun h=>by simp at h⟩
 ·have i0:QP 1 (LC nn nds) 0=some (.rp [L false (ndP 12 ds 0)]):=hnd 0 (by omega)
  have a0:=ndL 0 (by omega)
  have b0:=ndG 0 (by omega)
  have l0:=QK (tyG 0 (by omega))
  have i1:QP 1 (LC nn nds) 1=some (.rp [L false (ndP 12 ds 1)]):=hnd 1 (by omega)
  have a1:=ndL 1 (by omega)
  have b1:=ndG 1 (by omega)
  have l1:=QK (tyG 1 (by omega))
  obtain ⟨g1,j1⟩:∃ f,QP 1 (LC nu uds) 1=some (.rp [L f (usP 12 ds 1)]):=hud 1 (by omega)
  have uo1:=fun (g:Int) hg=>Zbp t (g:=g) hg g1 (usP 12 ds 1) (usL 1 (by omega)) (usG 1 (by omega))
  have hgn:=hgr (by simp [XH,Qc])
  have h0:=XX (tyG 0 (by omega))
  have hx0:QP 1 (L false (tyP ds 0)) 0=some (.rp [N (hd (tyP ds 0))]):=ZV h0.2.2.2.1
  have hga:=fst (by omega)
  have hgc:=Zfb h0.1 (.inr ((fst (by omega)).2.2.2.2 rfl))
  have hsh:(QH (hd (tyP ds 0))).2=Xx (hd (tyP ds 0)):=(KL h0.2.1 h0.2.2.1).2.2.2.2.2 (.inr ((fst (by omega)).2.2.2.2 rfl))
  have hgg:s.G (QH (hd (tyP ds 0))).2:=by rw [hsh];exact hgc
  simp (disch:=omega) [QT,Qt,Qo,GTerm.cells,eqB,i0,i1,j1,Qn]
  refine Qm (kid _ _ _ _ _ _ 0 (by omega)) ?_
  rintro r h' ⟨rfl,rfl⟩
  simp (disch:=omega) [hx0,Qn]
  refine Qa (V3 _ ⟨by omega,by omega⟩) (by simp) ?_
  simp (disch:=omega) [i0,i1,j1,Qn]
  refine Qa (Kh t hgn hgg) (by simp) ?_
  simp (disch:=omega) [i0,i1,j1,Qn]
  refine Qa (uo1 _ (GSys.Gtm t _ _)) (by simp) ?_
  cases hu:Wr s (usP 12 ds 1) (s.tm n (QH (hd (tyP ds 0))).2)
  ·simp (disch:=omega)
   exact QM (.inr rfl) (by simp) ⟨by simp [Q0,hu],_,_,_,_,rfl,fun h=>by simp [Q0,hu] at h⟩
  ·simp (disch:=omega) [i0,i1,j1,Qn]
   refine Qm (kid _ _ _ _ _ _ 1 (by omega)) ?_
   rintro r h' ⟨rfl,rfl⟩
   simp (disch:=omega) [i0,i1,j1,Qn]
   refine Qa (Zbc t (n) (hgn) false _ (by omega) b0) (by simp) ?_
   simp (disch:=omega) [i0,i1,j1,Qn]
   have sc:=Yp t (g:=n) a0
   refine Qa (sumc false false _ _ sc.1 a1 sc.2 b1) (by simp) ?_
   simp (disch:=omega) [i0,i1,j1,Qn]
   have hl1:ltB 40 (tyP ds 1).length=false:=by rw [Qd];omega
   refine Qa (lg (tyP ds 1)) (by simp) ?_
   simp (disch:=omega) [hl1]
   refine QM (.inr rfl) (by simp) ⟨by simp [Q0,hu],_,_,_,_,rfl,fun _=>?_⟩
   simp [Q0,hu]
end Go.Proofs.YtbmepminmpjlcaaGreat