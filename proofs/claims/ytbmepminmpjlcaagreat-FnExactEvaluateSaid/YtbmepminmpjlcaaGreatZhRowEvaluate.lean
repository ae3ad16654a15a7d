/- Part 8 of the proof of the row of the text YtbmepminmpjlcaaGreatZRowEvaluate: texts joined. No conditions. -/
import Derived.Test.YtbmepminmpjlcaaGreatZgRowEvaluate
set_option linter.unusedSimpArgs false
set_option linter.unusedVariables false
set_option linter.unusedSectionVars false
namespace Go.Proofs.YtbmepminmpjlcaaGreat
open Go Go.TL
open Go.Proofs.YtbmepminmpjlcaaGreat.Ty
set_option linter.unusedSimpArgs false
set_option linter.unusedVariables false
set_option maxRecDepth 20000
set_option maxHeartbeats 4000000
inductive Val (s:GSys):List Int->GTerm->Prop
 | num {n:Int} {nl1 nl2:Bool} (h1:0<=n) (h2:n<=2):Val s [0] (.mk 1 n nl1 [] nl2 [])
 | pair {τ:List Int} {a b:GTerm} {nl1 nl2:Bool} (ok:okL s.size τ=true) (h:hd τ=1) (va:Val s (QA τ) a) (vb:Val s (QX τ) b):Val s τ (.mk 4 0 nl1 [] nl2 [a,b])
 | left {τ:List Int} {a:GTerm} {nl1 nl2:Bool} (ok:okL s.size τ=true) (h:hd τ=2) (va:Val s (QA τ) a):Val s τ (.mk 6 0 nl1 (QX τ) nl2 [a])
 | right {τ:List Int} {a:GTerm} {nl1 nl2:Bool} (ok:okL s.size τ=true) (h:hd τ=2) (va:Val s (QX τ) a):Val s τ (.mk 7 0 nl1 (QA τ) nl2 [a])
 | box {τ:List Int} {a:GTerm} {nl1 nl2:Bool} (ok:okL s.size τ=true) (h:WJ (hd τ)=true) (va:Val s (QA τ) a):Val s τ (.mk 11 (hd τ - 19) nl1 [] nl2 [a])
theorem WN {c:Int} (h:c=1∨c=2):W7 c=some 2:=by
 rcases h with rfl | rfl<;>rfl
theorem VF {c:Int} (h:WJ c=true):W7 c=some 1:=by
 have g:=(Ke c).1 h
 have na:¬ QW c=true:=by rw [YQ];omega
 unfold W7
 rw [if_neg (by omega),if_neg (by rintro (e | e | e);omega;omega;exact na e),if_pos h]
theorem Val.size {s:GSys} {τ:List Int} {v:GTerm} (h:Val s τ v):v.size<=τ.length:=by
 induction h with
 | num=>simp [GTerm.size,WB]
 | pair ok h va vb iha ihb =>
  have e:=(Xs ok (WN (.inl h))).1
  have:=congrArg List.length e
  simp [GTerm.size,WB] at this ⊢
  omega
 | left ok h va iha =>
  have e:=(Xs ok (WN (.inr h))).1
  have:=congrArg List.length e
  simp [GTerm.size,WB] at this ⊢
  omega
 | right ok h va iha =>
  have e:=(Xs ok (WN (.inr h))).1
  have:=congrArg List.length e
  simp [GTerm.size,WB] at this ⊢
  omega
 | box ok h va iha =>
  have e:=(ZbC ok (VF h)).1
  have:=congrArg List.length e
  simp [GTerm.size,WB] at this ⊢
  omega
theorem Val.wf {s:GSys} (hs:s.sys=true) {τ:List Int} {v:GTerm} (h:Val s τ v):v.wf:=by
 have h16:=(GSys.sys_of hs).hi
 have L0:Lok []:=by simp [Lok]
 have i:∀ n:Int,0<=n->n<=100->I64 n:=fun n a b=>by unfold I64;omega
 induction h with
 | num h1 h2=>simp only [GTerm.wf,wfs];exact ⟨i _ (by omega) (by omega),i _ (by omega) (by omega),L0,by simp,trivial⟩
 | pair ok h va vb iha ihb=>simp only [GTerm.wf,wfs];exact ⟨i _ (by omega) (by omega),i _ (by omega) (by omega),L0,by simp,iha,ihb,trivial⟩
 | left ok h va iha=>simp only [GTerm.wf,wfs];exact ⟨i _ (by omega) (by omega),i _ (by omega) (by omega),ZgW (Ye (Xs ok (WN (.inr h))).2.2),by simp,iha,trivial⟩
 | right ok h va iha=>simp only [GTerm.wf,wfs];exact ⟨i _ (by omega) (by omega),i _ (by omega) (by omega),ZgW (Ye (Xs ok (WN (.inr h))).2.1),by simp,iha,trivial⟩
 | @box τ a nl1 nl2 ok h va iha =>
  have:=(Ke (hd τ)).1 h
  simp only [GTerm.wf,wfs]
  exact ⟨i _ (by omega) (by omega),i _ (by omega) (by omega),L0,by simp,iha,trivial⟩
theorem of_sumty {s:GSys} (hs:s.sys=true) {cx:List (List Int)} (hc:∀ l∈cx,okL s.size l=true) {op n:Int} {nl1 nl2:Bool} {ty τ:List Int} {a:GTerm} (h:Of s cx (.mk op n nl1 ty nl2 [a]) τ):(op=6->ty=QX τ)∧(op=7->ty=QA τ):=by
 refine ⟨?_,?_⟩
 ·rintro rfl
  obtain ⟨ds,h1,nd,h2,h3,h4,h5,_⟩:=h.inv hs hc
  match ds,(show ds.length=1 by simpa using h1) with
  | [x],_ =>
  have k0:=h3 0 (by simp)
  simp [Qz,Qy,tyP] at k0
  have e:=(Yz (ty:=2::(tyP [x] 0++ty)) (nd:=ndP 6 [x] 0) (by simpa [Q0] using h4)).2.1
  have e':τ=2::(x.ty++ty):=by rw [h5];simpa [Q0,tyP] using e
  rw [e',Ze0 (Ye (k0.okL hs hc))]
 ·rintro rfl
  obtain ⟨ds,h1,nd,h2,h3,h4,h5,_⟩:=h.inv hs hc
  match ds,(show ds.length=1 by simpa using h1) with
  | [x],_ =>
  have hty:=nd.typed (by simp [Xa,Qc])
  have e:=(Yz (ty:=2::(ty++tyP [x] 0)) (nd:=ndP 7 [x] 0) (by simpa [Q0] using h4)).2.1
  have e':τ=2::(ty++x.ty):=by rw [h5];simpa [Q0,tyP] using e
  rw [e',Zct (Ye hty)]
theorem of_boxn {s:GSys} (hs:s.sys=true) {cx:List (List Int)} (hc:∀ l∈cx,okL s.size l=true) {n:Int} {nl1 nl2:Bool} {ty τ:List Int} {a:GTerm} (h:Of s cx (.mk 11 n nl1 ty nl2 [a]) τ):n=hd τ - 19:=by
 obtain ⟨ds,h1,nd,h2,h3,h4,h5,_⟩:=h.inv hs hc
 match ds,(show ds.length=1 by simpa using h1) with
 | [x],_ =>
 have e:=(Yz (ty:=(19+n)::tyP [x] 0) (nd:=Wg s n (ndP 11 [x] 0)) (by simpa [Q0] using h4)).2.1
 have e':τ=(19+n)::x.ty:=by rw [h5];simpa [Q0,tyP] using e
 rw [e']
 simp [hd]
 try omega
theorem Zr8 {f:Nat->List PC->GTerm->TTold} {k:GTerm} {l l2:Nat} {σ σ2:List PC} {vs:List GTerm} (h:X7 f [k] l σ []=.ok l2 σ2 vs):∃ a,f l σ k=.ok l2 σ2 a∧vs=[a]:=by
 simp only [X7] at h
 split at h
 ·simp at h
 ·simp at h
 ·rename_i l1 σ1 v e
  simp only [KTold.ok.injEq,List.nil_append] at h
  obtain ⟨rfl,rfl,rfl⟩:=h
  exact ⟨v,e,rfl⟩
theorem Zq0 {f:Nat->List PC->GTerm->TTold} {k1 k2:GTerm} {l l2:Nat} {σ σ2:List PC} {vs:List GTerm} (h:X7 f [k1,k2] l σ []=.ok l2 σ2 vs):∃ l1 σ1 a b,f l σ k1=.ok l1 σ1 a∧f l1 σ1 k2=.ok l2 σ2 b∧vs=[a,b]:=by
 simp only [X7] at h
 split at h
 ·simp at h
 ·simp at h
 ·rename_i l1 σ1 v e
  split at h
  ·simp at h
  ·simp at h
  ·rename_i l3 σ3 w e2
   simp only [KTold.ok.injEq,List.nil_append] at h
   obtain ⟨rfl,rfl,rfl⟩:=h
   exact ⟨l1,σ1,v,w,e,e2,rfl⟩
theorem tell_val {s:GSys} (hs:s.sys=true):∀ (d l:Nat) (σ:List PC) (t:GTerm) (env:List Nat) (q:Int) (Γ:List (List Int)) (τ:List Int),WT s Γ σ->HT s Γ t env τ->s.G q->VY τ->∀ (l':Nat) (σ':List PC) (v:GTerm),Xg s d l σ t env q=.ok l' σ' v->Val s τ v:=by
 intro d
 induction d with
 | zero=>intro l σ t env q Γ τ w h hq hd l' σ' v e;simp [Xg] at e
 | succ d ih =>
  intro l σ t env q Γ τ w h hq hdat l' σ' v e
  rw [Xg] at e
  rcases Zm8 hs (d+1) l σ t env q Γ τ w h hq with g | ⟨l1,σ1,v1,e1,Δ,g,_,_,w1,t1,v1v⟩
  ·rw [g] at e;simp at e
  ·rw [g] at e
   have hc:=w1.cx t1.eb
   have ok:=t1.of.okL hs hc
   have oh:=XX ok
   have hmem:hd τ∈τ:=oh.2.2.2.2
   have na:=hdat _ hmem
   obtain ⟨d0,d1⟩:=ZeU hdat
   have vh:=ZeK hs hc t1.of v1v
   have hcases:hd τ=0∨hd τ=1∨hd τ=2∨WJ (hd τ)=true:=by
    rw [<- Bool.not_eq_true,YQ] at na
    rw [Ke]
    omega
   have one:∀ {k:GTerm} {τ':List Int} {q':Int} {l2:Nat} {σ2:List PC} {vs:List GTerm},s.G q'->Of s (e1.map fun j=>(Γ++Δ).getD j []) k τ'->VY τ'->X7 (fun l σ k=>Xg s d l σ k e1 q') [k] l1 σ1 []=.ok l2 σ2 vs->∃ a,vs=[a]∧Val s τ' a:=by
    intro k τ' q' l2 σ2 vs hq' ho hd' hk
    obtain ⟨a,h1,h2⟩:=Zr8 hk
    exact ⟨a,h2,ih _ _ _ _ _ _ _ w1 ⟨t1.eb,ho⟩ hq' hd' _ _ _ h1⟩
   have two:∀ {k1 k2:GTerm} {τ1 τ2:List Int} {q':Int} {l2:Nat} {σ2:List PC} {vs:List GTerm},s.G q'->Of s (e1.map fun j=>(Γ++Δ).getD j []) k1 τ1->VY τ1->Of s (e1.map fun j=>(Γ++Δ).getD j []) k2 τ2->VY τ2->X7 (fun l σ k=>Xg s d l σ k e1 q') [k1,k2] l1 σ1 []=.ok l2 σ2 vs->∃ a b,vs=[a,b]∧Val s τ1 a∧Val s τ2 b:=by
    intro k1 k2 τ1 τ2 q' l2 σ2 vs hq' ho hd' ho2 hd2' hk
    obtain ⟨l3,σ3,a,b,h1,h2,h3⟩:=Zq0 hk
    have va:=ih _ _ _ _ _ _ _ w1 ⟨t1.eb,ho⟩ hq' hd' _ _ _ h1
    rcases Znj hs d l1 σ1 k1 e1 q' (Γ++Δ) τ1 w1 ⟨t1.eb,ho⟩ hq' hd' with g2 | ⟨l4,σ4,v4,Δ2,g2,w2⟩
    ·rw [g2] at h1;simp at h1
    ·rw [g2] at h1
     simp only [TTold.ok.injEq] at h1
     obtain ⟨rfl,rfl,rfl⟩:=h1
     exact ⟨_,b,h3,va,ih _ _ _ _ _ _ _ w2 ((HT.mk t1.eb ho2).more Δ2) hq' hd2' _ _ _ h2⟩
   obtain ⟨op,n,nl1,ty,nl2,ks⟩:=v1
   simp only at e
   split at e
   ·simp at e
   have gq':s.G (if op=11 then s.tm q n else q):=by split;exact GSys.Gtm (GSys.sys_of hs) _ _;exact hq
   generalize (if op=11 then s.tm q n else q)=q' at *
   split at e
   ·simp at e
   ·simp at e
   rename_i l2 σ2 vs hK
   simp only [TTold.ok.injEq] at e
   obtain ⟨rfl,rfl,rfl⟩:=e
   have fm:=t1.of.fm
   simp only [XC,ZaC,Bool.and_eq_true] at fm
   obtain ⟨⟨_,fn,ft⟩,_⟩:=fm
   rcases hcases with e | e | e | e
   ·have:=vh.1 e
    simp only [GTerm.opc] at this
    subst this
    obtain ⟨rfl,n0,n2,rfl⟩:=t1.of.numv hs hc
    have hty:ty=[]:=by simpa [tyB,Xa,eqB] using ft
    subst hty
    simp only [X7,KTold.ok.injEq] at hK
    obtain ⟨_,_,rfl⟩:=hK
    exact .num n0 n2
   ·obtain ⟨n1,nl1',ty1,nl2',u1,u2,he,o1,o2⟩:=ZkX hs hc t1.of v1v e
    simp only [GTerm.mk.injEq] at he
    obtain ⟨rfl,rfl,rfl,rfl,rfl,rfl⟩:=he
    have hty:ty=[]:=by simpa [tyB,Xa,eqB] using ft
    have hn:n=0:=by simpa [Zdk,XH,eqB] using fn
    subst hty hn
    obtain ⟨a,b,rfl,va,vb⟩:=two gq' o1 d0 o2 d1 hK
    exact .pair ok e va vb
   ·obtain ⟨op1,n1,nl1',ty1,nl2',u1,he,ho⟩:=Zpb hs hc t1.of v1v e
    simp only [GTerm.mk.injEq] at he
    obtain ⟨rfl,rfl,rfl,rfl,rfl,rfl⟩:=he
    have tyq:=of_sumty hs hc t1.of
    rcases ho with ⟨rfl,o1⟩ | ⟨rfl,o1⟩
    ·have hn:n=0:=by simpa [Zdk,XH,eqB] using fn
     subst hn
     obtain ⟨a,rfl,va⟩:=one gq' o1 d0 hK
     rw [tyq.1 rfl]
     exact .left ok e va
    ·have hn:n=0:=by simpa [Zdk,XH,eqB] using fn
     subst hn
     obtain ⟨a,rfl,va⟩:=one gq' o1 d1 hK
     rw [tyq.2 rfl]
     exact .right ok e va
   ·obtain ⟨n1,nl1',ty1,nl2',u1,he,g1,o1⟩:=ZoY hs hc t1.of v1v e
    simp only [GTerm.mk.injEq] at he
    obtain ⟨rfl,rfl,rfl,rfl,rfl,rfl⟩:=he
    have hty:ty=[]:=by simpa [tyB,Xa,eqB] using ft
    subst hty
    obtain ⟨a,rfl,va⟩:=one gq' o1 d0 hK
    rw [of_boxn hs hc t1.of]
    exact .box ok e va
def ZbG (τ:List Int) (op n:Int) (ty:List Int):Bool :=
 if hd τ=0 then decide (op=1∧0<=n∧n<=2∧ty=[]) else if hd τ=1 then decide (op=4∧n=0∧ty=[])
 else if hd τ=2 then decide (n=0∧(op=6∧ty=QX τ∨op=7∧ty=QA τ)) else decide (op=11∧n=hd τ - 19∧ty=[])
def KU (τ:List Int) (op:Int):List (List Int):=if hd τ=0 then [] else if hd τ=1 then [QA τ,QX τ] else if hd τ=2 then (if op=6 then [QA τ] else [QX τ]) else [QA τ]
mutual
def Z5 (τ:List Int):GTerm->Bool
 | .mk op n _ ty _ ks=>ZbG τ op n ty && YS (KU τ op) ks
def YS:List (List Int)->List GTerm->Bool
 | [],[]=>true
 | τ::τs,k::ks=>Z5 τ k && YS τs ks
 | [],_::_=>false
 | _::_,[]=>false
end
theorem ZnK (ks:List GTerm):YS [] ks=ks.isEmpty:=by cases ks<;>simp [YS]
theorem ZhG {τ:List Int} {ks:List GTerm}:YS [τ] ks=true ↔ ∃ a,ks=[a]∧Z5 τ a=true:=by
 match ks with
 | []=>simp [YS]
 | [a]=>simp [YS]
 | a::b::c=>simp [YS]
theorem ZsL {τ1 τ2:List Int} {ks:List GTerm}:YS [τ1,τ2] ks=true ↔ ∃ a b,ks=[a,b]∧Z5 τ1 a=true∧Z5 τ2 b=true:=by
 match ks with
 | []=>simp [YS]
 | [a]=>simp [YS]
 | [a,b] =>
  constructor
  ·intro h
   exact ⟨a,b,rfl,by simpa [YS] using h⟩
  ·rintro ⟨x,y,e,h⟩
   cases e
   simpa [YS] using h
 | a::b::c::d=>simp [YS]
theorem okL_zero {size:Int} {τ:List Int} (h:okL size τ=true) (h0:hd τ=0):τ=[0]:=by
 obtain ⟨⟨c,ks⟩,h3,rfl,h5,h6⟩:=YK.1 h
 simp only [RT.ok] at h3
 simp only [RT.flat,ZjC] at h0
 subst h0
 have:ks=[]:=by
  have:=h3.1
  simp [W7] at this
  exact List.eq_nil_of_length_eq_zero (by omega)
 subst this
 simp [RT.flat,WR]
theorem Zq2 {size:Int} {τ:List Int} (h:okL size τ=true) (hd':VY τ):hd τ=0∨hd τ=1∨hd τ=2∨WJ (hd τ)=true:=by
 have oh:=XX h
 have na:=hd' _ oh.2.2.2.2
 rw [<- Bool.not_eq_true,YQ] at na
 rw [Ke]
 omega
theorem Zom {c:Int} (h:WJ c=true):¬ c=0∧¬ c=1∧¬ c=2:=by
 rw [Ke] at h;omega
theorem Val.ok {s:GSys} {τ:List Int} {v:GTerm} (h:Val s τ v):okL s.size τ=true:=by
 cases h with
 | num=>exact Zos _
 | pair ok=>exact ok
 | left ok=>exact ok
 | right ok=>exact ok
 | box ok=>exact ok
theorem Val.b {s:GSys} {τ:List Int} {v:GTerm} (h:Val s τ v):Z5 τ v=true:=by
 induction h with
 | num h1 h2=>simp [Z5,ZbG,KU,YS,h1,h2]
 | pair ok h va vb iha ihb=>simp [Z5,ZbG,KU,YS,h,iha,ihb]
 | left ok h va iha=>simp [Z5,ZbG,KU,YS,h,iha]
 | right ok h va iha=>simp [Z5,ZbG,KU,YS,h,iha]
 | box ok h va iha =>
  obtain ⟨h0,h1,h2⟩:=Zom h
  simp [Z5,ZbG,KU,YS,h0,h1,h2,iha]
theorem Val.ofB {s:GSys}:∀ (d:Nat) (v:GTerm) (τ:List Int),v.size<=d->okL s.size τ=true->VY τ->Z5 τ v=true->Val s τ v:=by
 intro d
 induction d with
 | zero=>intro v τ h;have:=v.size_pos;omega
 | succ d ih =>
  rintro ⟨op,n,nl1,ty,nl2,ks⟩ τ hsz ok hd' hb
  obtain ⟨d0,d1⟩:=ZeU hd'
  simp only [Z5,Bool.and_eq_true] at hb
  obtain ⟨hh,hk⟩:=hb
  simp only [GTerm.size] at hsz
  rcases Zq2 ok hd' with e | e | e | e
  ·obtain rfl:=okL_zero ok e
   simp [ZbG] at hh
   simp [KU,ZnK] at hk
   obtain ⟨rfl,h1,h2,rfl⟩:=hh
   subst hk
   exact .num h1 h2
  ·obtain ⟨_,o0,o1⟩:=Xs ok (WN (.inl e))
   simp [ZbG,e] at hh
   simp only [KU,e] at hk
   obtain ⟨rfl,rfl,rfl⟩:=hh
   obtain ⟨a,b,rfl,ha,hb⟩:=ZsL.1 (by simpa using hk)
   simp only [WB] at hsz
   exact .pair ok e (ih a _ (by omega) o0 d0 ha) (ih b _ (by omega) o1 d1 hb)
  ·obtain ⟨_,o0,o1⟩:=Xs ok (WN (.inr e))
   simp [ZbG,e] at hh
   simp only [KU,e] at hk
   obtain ⟨rfl,⟨rfl,rfl⟩ | ⟨rfl,rfl⟩⟩:=hh
   ·obtain ⟨a,rfl,ha⟩:=ZhG.1 (by simpa using hk)
    simp only [WB] at hsz
    exact .left ok e (ih a _ (by omega) o0 d0 ha)
   ·obtain ⟨a,rfl,ha⟩:=ZhG.1 (by simpa using hk)
    simp only [WB] at hsz
    exact .right ok e (ih a _ (by omega) o1 d1 ha)
  ·obtain ⟨h0,h1,h2⟩:=Zom e
   obtain ⟨_,_,o0⟩:=ZbC ok (VF e)
   simp [ZbG,h0,h1,h2] at hh
   simp only [KU,h0,h1,h2] at hk
   obtain ⟨rfl,rfl,rfl⟩:=hh
   obtain ⟨a,rfl,ha⟩:=ZhG.1 (by simpa using hk)
   simp only [WB] at hsz
   exact .box ok e (ih a _ (by omega) o0 d0 ha)
theorem box_G {s:GSys} {τ:List Int} (ok:okL s.size τ=true) (h:WJ (hd τ)=true):s.G (hd τ - 19):=by
 have oc:=(XX ok).1
 have h':=(Ke _).1 h
 have na:QW (hd τ)=false:=by rw [<- Bool.not_eq_true,YQ];omega
 simp [okC,h,na,Qf,Qi,Xx] at oc
 unfold GSys.G
 grind
theorem Val.form {s:GSys} (hs:s.sys=true) {τ:List Int} {v:GTerm} (h:Val s τ v):∀ nv:Int,XC nv s.size true v=true:=by
 induction h with
 | num h1 h2=>intro nv;simp [XC,X8,ZaC,Zdk,tyB,W1,Xa,XH,eqB,Wb,h1,h2]
 | pair ok h va vb iha ihb=>intro nv;simp [XC,X8,ZaC,Zdk,tyB,W1,Xa,XH,eqB,Qy,iha,ihb]
 | @left τ a nl1 nl2 ok h va iha =>
  intro nv
  have o1:=(Xs ok (WN (.inr h))).2.2
  unfold okL at o1
  simp [XC,X8,ZaC,Zdk,tyB,W1,Xa,XH,eqB,Qy,iha]
  simpa using o1
 | @right τ a nl1 nl2 ok h va iha =>
  intro nv
  have o1:=(Xs ok (WN (.inr h))).2.1
  unfold okL at o1
  simp [XC,X8,ZaC,Zdk,tyB,W1,Xa,XH,eqB,Qy,iha]
  simpa using o1
 | @box τ a nl1 nl2 ok h va iha =>
  intro nv
  have g:=box_G ok h
  simp [XC,X8,ZaC,Zdk,tyB,W1,Xa,XH,eqB,Qy,iha,Qf,Qi]
  exact ⟨g.2,by have:=g.1;omega,by have:=g.1;omega⟩
theorem ZgG {ty nd:List Int} {ds:List TT} (h:ty.length<=40):Z3 ty nd ds=.ok (.mk ty nd ds):=by
 simp [Z3,h]
theorem Val.tell {s:GSys} {τ:List Int} {v:GTerm} (h:Val s τ v) (cx:List (List Int)):∃ x,Qr s cx v=.ok x∧x.ty=τ:=by
 induction h with
 | num h1 h2=>exact ⟨_,Zk9,rfl⟩
 | pair ok h va vb iha ihb =>
  obtain ⟨x,hx,tx⟩:=iha
  obtain ⟨y,hy,ty⟩:=ihb
  have e:=(Xs ok (WN (.inl h))).1
  rw [h] at e
  have l40:=(QK ok).2
  rw [ZnG hx,hy]
  simp only [tx,ty,<- e]
  exact ⟨_,ZgG l40,rfl⟩
 | left ok h va iha =>
  obtain ⟨x,hx,tx⟩:=iha
  have e:=(Xs ok (WN (.inr h))).1
  rw [h] at e
  have l40:=(QK ok).2
  rw [Znn hx]
  simp only [tx,<- e]
  exact ⟨_,ZgG l40,rfl⟩
 | right ok h va iha =>
  obtain ⟨x,hx,tx⟩:=iha
  have e:=(Xs ok (WN (.inr h))).1
  rw [h] at e
  have l40:=(QK ok).2
  rw [ZkS hx]
  simp only [tx,<- e]
  exact ⟨_,ZgG l40,rfl⟩
 | @box τ a nl1 nl2 ok h va iha =>
  obtain ⟨x,hx,tx⟩:=iha
  have e:=(ZbC ok (VF h)).1
  have l40:=(QK ok).2
  have e2:(19+(hd τ - 19))::QA τ=τ:=by rw [show 19+(hd τ - 19)=hd τ by omega];exact e.symm
  rw [Zpy hx]
  simp only [tx,e2]
  exact ⟨_,ZgG l40,rfl⟩
theorem Val.of {s:GSys} (hs:s.sys=true) {τ:List Int} {v:GTerm} (h:Val s τ v) (hf:v.fl) (cx:List (List Int)):Of s cx v τ :=
 ⟨h.form hs _,h.tell cx,h.wf hs,hf⟩
set_option linter.unusedSectionVars false
theorem Zta {s:GSys} {τ:List Int} (hs:s.sys=true) (ok:okL s.size τ=true) (h:WJ (hd τ)=true):QH (hd τ)=(4,hd τ - 19):=by
 have g:=box_G ok h
 have h16:=(GSys.sys_of hs).hi
 obtain ⟨g1,g2⟩:=g
 have b:=(Ke _).1 h
 have n1:Wc (hd τ) 0 2=false:=by rw [<- Bool.not_eq_true,Wb];omega
 have n2:Wc (hd τ) 3 18=false:=by rw [<- Bool.not_eq_true,Wb];omega
 have n3:Wc (hd τ) 19 34=true:=by rw [Wb];omega
 simp [QH,n1,n2,n3]
theorem len0 {α:Type} (l:List α):eqB (l.length:Int) 0=l.isEmpty:=by
 cases l with
 | nil=>rw [Qc.2]<;>simp
 | cons a b=>rw [Bool.eq_iff_iff,Qc];simp;omega
theorem valB_0 {τ:List Int} {op n:Int} {nl1 nl2:Bool} {ty:List Int} {ks:List GTerm} (e:hd τ=0):Z5 τ (.mk op n nl1 ty nl2 ks)=(eqB op 1 && (Wc n 0 2 && (ty.isEmpty && ks.isEmpty))):=by
 simp only [Z5,ZbG,KU,e,if_true,ZnK]
 rw [Bool.eq_iff_iff]
 simp [Qc,Wb]
 grind
theorem valB_1 {τ:List Int} {op n:Int} {nl1 nl2:Bool} {ty:List Int} {ks:List GTerm} (e:hd τ=1):Z5 τ (.mk op n nl1 ty nl2 ks)=(eqB op 4 && (eqB n 0 && (ty.isEmpty && (eqB ks.length 2 && (Z5 (QA τ) (ks.getD 0 (JL 0)) && Z5 (QX τ) (ks.getD 1 (JL 0))))))):=by
 simp only [Z5,ZbG,KU,e]
 rw [Bool.eq_iff_iff]
 simp [Qc]
 match ks with
 | []=>simp [YS]
 | [a]=>simp [YS]
 | [a,b]=>simp [YS];grind
 | a::b::c::d=>simp [YS];omega
theorem valB_2 {τ:List Int} {op n:Int} {nl1 nl2:Bool} {ty:List Int} {ks:List GTerm} (e:hd τ=2):Z5 τ (.mk op n nl1 ty nl2 ks)=(eqB n 0 && (eqB ks.length 1 && (if op=6 then ty == QX τ && Z5 (QA τ) (ks.getD 0 (JL 0)) else if op=7 then ty == QA τ && Z5 (QX τ) (ks.getD 0 (JL 0)) else false))):=by
 simp only [Z5,ZbG,KU,e]
 rw [Bool.eq_iff_iff]
 simp [Qc]
 match ks with
 | []=>split<;>simp [YS]
 | [a]=>split<;>simp [YS]<;>grind
 | a::b::c=>split<;>simp [YS]<;>omega
theorem valB_b {τ:List Int} {op n:Int} {nl1 nl2:Bool} {ty:List Int} {ks:List GTerm} (e:WJ (hd τ)=true):Z5 τ (.mk op n nl1 ty nl2 ks)=(eqB op 11 && (eqB n (hd τ - 19) && (ty.isEmpty && (eqB ks.length 1 && Z5 (QA τ) (ks.getD 0 (JL 0)))))):=by
 obtain ⟨h0,h1,h2⟩:=Zom e
 simp only [Z5,ZbG,KU,h0,h1,h2,if_false]
 rw [Bool.eq_iff_iff]
 simp [Qc]
 match ks with
 | []=>simp [YS]
 | [a]=>simp [YS];grind
 | a::b::c=>simp [YS];omega
theorem Zrg {s:GSys} (hs:s.sys=true):∀ (d:Nat) (v:GTerm) (τ:List Int),v.size<=d->v.wf->okL s.size τ=true->VY τ->Qe Tryz.prog Yq [L false τ,v.lv] (·=B (Z5 τ v)):=by
 intro d
 induction d with
 | zero=>intro v τ h;have:=v.size_pos;omega
 | succ d ih =>
  rintro ⟨op,n,nl1,ty,nl2,ks⟩ τ hsz wf ok hd'
  simp only [GTerm.size] at hsz
  simp only [GTerm.wf] at wf
  obtain ⟨_,_,hty,_,hks⟩:=wf
  have oh:=XX ok
  have l40:=QK ok
  have sh:=V3 (hd τ) (by unfold I64;omega)
  have pa:=Zfa (Ye ok)
  have hx:=ZV oh.2.2.2.1
  obtain ⟨d0,d1⟩:=ZeU hd'
  refine Qe.of_codeOf Zk8 Qx (by simp) ⟨_,rfl,by simp⟩ ?_
  simp (disch:=omega) [Zd8,Qt,Qo,hx,GTerm.cells]
  refine Qa sh (by simp) ?_
  simp (disch:=omega)
  refine Qa pa (by simp) ?_
  have wi:=J3 n 0 2
  have z0:∀ l:List Int,eqB (l.length:Int) 0=l.isEmpty:=fun l=>len0 l
  have y0:∀ l:List GTerm,eqB (l.length:Int) 0=l.isEmpty:=fun l=>len0 l
  rcases Zq2 ok hd' with e | e | e | e
  ·rw [valB_0 e,show QH (hd τ)=(0,-1) by rw [e];decide]
   have c0:eqB 0 0=true:=by decide
   cases q1:eqB op 1
   ·simp (disch:=omega) [c0,q1]
   ·simp (disch:=omega) [c0,q1]
    refine Qa wi (by simp) ?_
    cases q2:Wc n 0 2
    ·simp (disch:=omega) [c0,q1,q2]
    ·cases q3:ty.isEmpty
     ·simp (disch:=omega) [c0,q1,q2,z0,q3]
     ·cases q4:ks.isEmpty
      ·simp (disch:=omega) [c0,q1,q2,z0,q3,y0,q4]
      ·simp (disch:=omega) [c0,q1,q2,z0,q3,y0,q4]
  ·obtain ⟨_,o0,o1⟩:=Xs ok (WN (.inl e))
   rw [valB_1 e,show QH (hd τ)=(1,-1) by rw [e];decide,Vy (WN (.inl e))]
   have c0:eqB 1 0=false∧eqB 1 1=true:=by decide
   have i0:∀ u:Bool,QP 1 (.sl u false 1 [[L false (QA τ)],[L false (QX τ)]]) 0=some (.rp [L false (QA τ)]):=fun u=>by simp [QP]
   have i1:∀ u:Bool,QP 1 (.sl u false 1 [[L false (QA τ)],[L false (QX τ)]]) 1=some (.rp [L false (QX τ)]):=fun u=>by simp [QP]
   cases q1:eqB op 4
   ·simp (disch:=omega) [c0,q1]
   cases q2:eqB n 0
   ·simp (disch:=omega) [c0,q1,q2]
   cases q3:ty.isEmpty
   ·simp (disch:=omega) [c0,q1,q2,z0,q3]
   cases q4:eqB ks.length 2
   ·simp (disch:=omega) [c0,q1,q2,z0,q3,q4]
   obtain ⟨a,b,rfl⟩:=ZiQ (l:=ks) (by rw [Qc] at q4;omega)
   simp only [wfs] at hks
   simp only [WB] at hsz
   have k0:=Wq [a,b] false nl2 0 (by simp)
   have k1:=Wq [a,b] false nl2 1 (by simp)
   simp only [Int.natCast_zero,Int.natCast_one,List.getElem_cons_zero,List.getElem_cons_succ] at k0 k1
   have ha:=ih a (QA τ) (by omega) hks.1 o0 d0
   have hb:=ih b (QX τ) (by omega) hks.2.1 o1 d1
   have q4':eqB 2 2=true:=by decide
   simp (disch:=omega) [c0,q1,q2,z0,q3,q4',i0,k0]
   refine Qa ha (by simp) ?_
   cases q5:Z5 (QA τ) a
   ·simp (disch:=omega) [q5]
   simp (disch:=omega) [q5,i1,k1]
   refine Qa hb (by simp) ?_
   simp (disch:=omega)
  ·obtain ⟨_,o0,o1⟩:=Xs ok (WN (.inr e))
   rw [valB_2 e,show QH (hd τ)=(2,-1) by rw [e];decide,Vy (WN (.inr e))]
   have c0:eqB 2 0=false∧eqB 2 1=false∧eqB 2 2=true∧eqB 6 6=true∧eqB 6 7=false∧eqB 7 6=false∧eqB 7 7=true:=by decide
   have i0:∀ u:Bool,QP 1 (.sl u false 1 [[L false (QA τ)],[L false (QX τ)]]) 0=some (.rp [L false (QA τ)]):=fun u=>by simp [QP]
   have i1:∀ u:Bool,QP 1 (.sl u false 1 [[L false (QA τ)],[L false (QX τ)]]) 1=some (.rp [L false (QX τ)]):=fun u=>by simp [QP]
   have l0:=QK o0
   have l1:=QK o1
   cases q2:eqB n 0
   ·simp (disch:=omega) [c0,q2]
   cases q4:eqB ks.length 1
   ·simp (disch:=omega) [c0,q2,q4]
   obtain ⟨a,rfl⟩:=Zjh (l:=ks) (by rw [Qc] at q4;omega)
   simp only [wfs] at hks
   simp only [WB] at hsz
   have k0:=Wq [a] false nl2 0 (by simp)
   simp only [Int.natCast_zero,List.getElem_cons_zero] at k0
   have ha:=ih a (QA τ) (by omega) hks.1 o0 d0
   have hb:=ih a (QX τ) (by omega) hks.1 o1 d1
   have q4':eqB 1 1=true:=by decide
   have E0:=ZgK nl1 false ty (QX τ) (by have:=hty.1;omega)
   have E1:=ZgK nl1 false ty (QA τ) (by have:=hty.1;omega)
   by_cases h6:op=6
   ·subst h6
    simp (disch:=omega) [c0,q2,q4',i1,Qg]
    refine Qa E0 (by simp) ?_
    cases q5:(ty == QX τ)
    ·simp (disch:=omega) [q5]
    simp (disch:=omega) [q5,i0,k0]
    refine Qa ha (by simp) ?_
    simp (disch:=omega)
   ·by_cases h7:op=7
    ·subst h7
     simp (disch:=omega) [c0,q2,q4',i0,Qg]
     refine Qa E1 (by simp) ?_
     cases q5:(ty == QA τ)
     ·simp (disch:=omega) [q5]
     simp (disch:=omega) [q5,i1,k0]
     refine Qa hb (by simp) ?_
     simp (disch:=omega)
    ·have z6:eqB op 6=false:=by rw [Qb];exact h6
     have z7:eqB op 7=false:=by rw [Qb];exact h7
     simp (disch:=omega) [c0,q2,q4',z6,z7,h6,h7]
  ·obtain ⟨_,_,o0⟩:=ZbC ok (VF e)
   rw [valB_b e,Zta hs ok e,Zkb (VF e)]
   have c0:eqB 4 0=false∧eqB 4 1=false∧eqB 4 2=false:=by decide
   have i0:∀ u:Bool,QP 1 (.sl u false 1 [[L false (QA τ)]]) 0=some (.rp [L false (QA τ)]):=fun u=>by simp [QP]
   cases q1:eqB op 11
   ·simp (disch:=omega) [c0,q1]
   cases q2:eqB n (hd τ - 19)
   ·simp (disch:=omega) [c0,q1,q2]
   cases q3:ty.isEmpty
   ·simp (disch:=omega) [c0,q1,q2,z0,q3]
   cases q4:eqB ks.length 1
   ·simp (disch:=omega) [c0,q1,q2,z0,q3,q4]
   obtain ⟨a,rfl⟩:=Zjh (l:=ks) (by rw [Qc] at q4;omega)
   simp only [wfs] at hks
   simp only [WB] at hsz
   have k0:=Wq [a] false nl2 0 (by simp)
   simp only [Int.natCast_zero,List.getElem_cons_zero] at k0
   have ha:=ih a (QA τ) (by omega) hks.1 o0 d0
   have q4':eqB 1 1=true:=by decide
   simp (disch:=omega) [c0,q1,q2,z0,q3,q4',i0,k0]
   refine Qa ha (by simp) ?_
   simp (disch:=omega)
def ZdP (s:GSys) (ctx:Wk) (g:GTerm):Option TT:=match Z2 s ctx g with
 | none=>none
 | some x=>if (Y4 x.ty && ctx.all fun c=>Y4 c.2)=true then some x else none
def isDT (o:Option TT) (r:LV):Prop:=∃ u nl l,r=.tup [OU u nl l,B o.isSome]∧∀ x,o=some x->nl=false∧l=x.ty
theorem ZiR {s:GSys} (hs:s.sys=true) (sw:s.wf) (c:Bool×List Int) (hn:c.1=false) (ho:okL s.size c.2=true):FnB Tryz.prog (.fn Yb [.rp s.cells]) (eC c) (!Y4 c.2):=by
 obtain ⟨nl,l⟩:=c
 simp only at hn ho
 subst hn
 refine ⟨Yb,[L false l,.rp s.cells],by simp [ZW],by simp,?_⟩
 refine Qe.of_codeOf Zfj Qx (by simp) ⟨_,rfl,by simp⟩ ?_
 have da:=Zis hs sw false l ho
 simp (disch:=omega) [ZaB]
 refine Qa da (by simp) ?_
 simp (disch:=omega)
theorem ZmQ {s:GSys} {ctx:Wk} {g:GTerm} (a:Arg s ctx g) (nlc:Bool):Qe Tryz.prog KT [s.lv,LC nlc ctx,g.lv] (isDT (ZdP s ctx g)):=by
 refine Qe.of_codeOf Zhd Qx (by simp) ?_ ?_
 ·cases h:ZdP s ctx g with
  | some x=>exact ⟨.tup [OU true false x.ty,B true],⟨true,false,x.ty,rfl,fun y hy=>by simp at hy;subst hy;exact ⟨rfl,rfl⟩⟩,by simp⟩
  | none=>exact ⟨.tup [OU true false [],B false],⟨true,false,[],rfl,fun y hy=>by simp at hy⟩,by simp⟩
 have to:=Zs6 a nlc
 simp (disch:=omega) [ZbN,Qt,Qo]
 refine Qp (Qe.low to) (by simp) ?_
 rintro r ⟨hr,lo⟩
 unfold ZdP
 cases hx:Z2 s ctx g with
 | none =>
  rw [hx] at hr
  subst hr
  simp (disch:=omega) [Qo]
  exact ⟨false,true,[],rfl,fun y hy=>by simp at hy⟩
 | some x =>
  rw [hx] at hr
  subst hr
  obtain ⟨gx,hs,hc1,ht1,_,tx⟩:=VE a hx
  obtain ⟨f1,f2,_⟩:=a.flags hc1
  have da:=Zis hs a.sw false x.ty gx.1
  have cf:=Zdm (.fn Yb [.rp s.cells]) (fun c=>!Y4 c.2) (by simp) (by simp) nlc ctx a.cw (fun c hc=>ZiR hs a.sw c (f2 c hc) (f1 c hc))
  simp (disch:=omega) [Qo]
  refine Qa da (by simp) ?_
  cases hd:Y4 x.ty
  ·simp (disch:=omega) [Qo]
   exact ⟨false,false,x.ty,by simp,fun y hy=>by simp at hy⟩
  ·simp (disch:=omega) [Qo]
   refine Qa cf (by simp) ?_
   have e:(ctx.any fun c=>!Y4 c.2)=!(ctx.all fun c=>Y4 c.2):=by rw [List.not_all_eq_any_not]
   rw [e]
   cases hal:ctx.all fun c=>Y4 c.2
   ·simp (disch:=omega) [Qo]
    exact ⟨false,false,x.ty,by simp,fun y hy=>by simp at hy⟩
   ·simp (disch:=omega) [Qo]
    exact ⟨false,false,x.ty,by simp,fun y hy=>by simp at hy;subst hy;exact ⟨rfl,rfl⟩⟩
theorem Zov (nl:Bool) (ctx:Wk) (cw:ctx.wf) (h40:∀ c∈ctx,c.2.length<=40):Qe Tryz.prog VK [LC nl ctx] (·=B (ctx.all fun c=>Y4 c.2)):=by
 generalize hq:(ctx.all fun c=>Y4 c.2)=q
 refine Qe.of_codeOf ZhY Qx (by simp) ⟨_,rfl,by simp⟩ ?_
 have hlen:=cw.1
 simp (disch:=omega) [ZcB]
 refine WS ctx.length 0 (fun i t h=>h=[]∧t 3=N i∧q=(ctx.drop i).all fun c=>Y4 c.2) (fun t h=>h=[]∧q=true) (by simp [hq]) (by omega) ?_ ?_
 ·rintro i t1 hh hf hi ⟨rfl,e3,hj⟩
  (have e0:=hf 0 (by kernel_rfl);clear hf;simp [] at e0)
  by_cases h6:i < ctx.length
  ·have hb:ltB (i:Int) ctx.length=true:=by rw [Qf];omega
   have ix:=Kl ctx nl i h6
   have da:=Zh4 (ctx[i]).1 (ctx[i]).2 (by have:=(h40 _ (List.getElem_mem h6));omega)
   have hd:=List.drop_eq_getElem_cons h6
   rw [hd,List.all_cons] at hj
   simp (disch:=omega) [e0,e3,hb,ix]
   refine Qa da (by simp) ?_
   cases hx:Y4 (ctx[i]).2
   ·simp (disch:=omega)
    rw [hj,hx];rfl
   ·simp (disch:=omega) [e3,Qg]
    rw [hj,hx]
    exact ⟨h6,by simp⟩
  ·have hb:ltB (i:Int) ctx.length=false:=by rw [Qd];omega
   simp (disch:=omega) [e0,e3,hb]
   rw [hj,List.drop_of_length_le (by omega)];rfl
 ·rintro t1 hh hf ⟨rfl,hj⟩
  simp (disch:=omega) [hj]
theorem Zpq {nv size op n:Int} {nl1 nl2:Bool} {ty:List Int} {ks:List GTerm} (h:XC nv size true (.mk op n nl1 ty nl2 ks)=true) :
  (op=1->Wc n 0 2=true∧ty=[]∧ks=[])∧(op=4->n=0∧ty=[]∧∃ a b,ks=[a,b]∧XC nv size true a=true∧XC nv size true b=true) ∧
  (op=6∨op=7->n=0∧∃ a,ks=[a]∧XC nv size true a=true)∧(op=11->ty=[]∧∃ a,ks=[a]∧XC nv size true a=true):=by
 simp only [XC,ZaC,Bool.and_eq_true,Qc] at h
 obtain ⟨⟨h1,h2,h3⟩,h4⟩:=h
 refine ⟨?_,?_,?_,?_⟩
 ·rintro rfl
  simp [W1] at h1
  simp [Zdk,eqB] at h2
  simp [tyB,Xa,eqB] at h3
  exact ⟨h2,h3,h1⟩
 ·rintro rfl
  simp [W1] at h1
  simp [Zdk,eqB,XH] at h2
  simp [tyB,Xa,eqB] at h3
  obtain ⟨a,b,rfl⟩:=ZiQ (l:=ks) (by omega)
  simp [X8,Qy] at h4
  exact ⟨h2,h3,a,b,rfl,h4.1,h4.2⟩
 ·rintro (rfl | rfl)
  ·simp [W1] at h1
   simp [Zdk,eqB,XH] at h2
   obtain ⟨a,rfl⟩:=Zjh (l:=ks) (by omega)
   simp [X8,Qy] at h4
   exact ⟨h2,a,rfl,h4⟩
  ·simp [W1] at h1
   simp [Zdk,eqB,XH] at h2
   obtain ⟨a,rfl⟩:=Zjh (l:=ks) (by omega)
   simp [X8,Qy] at h4
   exact ⟨h2,a,rfl,h4⟩
 ·rintro rfl
  simp [W1] at h1
  simp [tyB,Xa,eqB] at h3
  obtain ⟨a,rfl⟩:=Zjh (l:=ks) (by omega)
  simp [X8,Qy] at h4
  exact ⟨h3,a,rfl,h4⟩
theorem Zri {s:GSys} (hs:s.sys=true) (nv:Int):∀ (d:Nat) (v:GTerm) (τ:List Int),v.size<=d->v.wf->okL s.size τ=true->VY τ->XC nv s.size true v=true->Qe Tryz.prog XT [L false τ,v.lv] (·=B (Z5 τ v)):=by
 intro d
 induction d with
 | zero=>intro v τ h;have:=v.size_pos;omega
 | succ d ih =>
  rintro ⟨op,n,nl1,ty,nl2,ks⟩ τ hsz wf ok hd' fm
  obtain ⟨m1,m4,m67,m11⟩:=Zpq fm
  simp only [GTerm.size] at hsz
  simp only [GTerm.wf] at wf
  obtain ⟨_,_,hty,_,hks⟩:=wf
  have oh:=XX ok
  have l40:=QK ok
  have hx:=ZV oh.2.2.2.1
  obtain ⟨d0,d1⟩:=ZeU hd'
  refine Qe.of_codeOf ZjU Qx (by simp) ⟨_,rfl,by simp⟩ ?_
  simp (disch:=omega) [Zer,Qt,Qo,hx,GTerm.cells]
  rcases Zq2 ok hd' with e | e | e | e
  ·rw [valB_0 e,e]
   have c0:eqB 0 0=true:=by decide
   cases q1:eqB op 1
   ·simp (disch:=omega) [c0,q1]
   ·obtain ⟨h1,h2,h3⟩:=m1 (Qc.1 q1)
    simp (disch:=omega) [c0,q1,h1,h2,h3]
  ·obtain ⟨_,o0,o1⟩:=Xs ok (WN (.inl e))
   have P0:=YF ok 0 (.inr (WN (.inl e)))
   have P1:=YF ok 1 (.inr (WN (.inl e)))
   rw [if_pos rfl] at P0
   rw [if_neg (by omega)] at P1
   rw [valB_1 e,e]
   have c0:eqB 1 0=false∧eqB 1 1=true:=by decide
   cases q1:eqB op 4
   ·simp (disch:=omega) [c0,q1]
   obtain ⟨rfl,rfl,a,b,rfl,fa,fb⟩:=m4 (Qc.1 q1)
   simp only [wfs] at hks
   simp only [WB] at hsz
   have k0:=Wq [a,b] false nl2 0 (by simp)
   have k1:=Wq [a,b] false nl2 1 (by simp)
   simp only [Int.natCast_zero,Int.natCast_one,List.getElem_cons_zero,List.getElem_cons_succ] at k0 k1
   have ha:=ih a (QA τ) (by omega) hks.1 o0 d0 fa
   have hb:=ih b (QX τ) (by omega) hks.2.1 o1 d1 fb
   have q4':eqB 2 2=true∧eqB 0 0=true:=by decide
   simp (disch:=omega) [c0,q1,q4',k0]
   refine Qa P0 (by simp) ?_
   simp (disch:=omega) [k0]
   refine Qa ha (by simp) ?_
   cases q5:Z5 (QA τ) a
   ·simp (disch:=omega) [q5]
   simp (disch:=omega) [q5,k1]
   refine Qa P1 (by simp) ?_
   simp (disch:=omega) [k1]
   refine Qa hb (by simp) ?_
   simp (disch:=omega)
  ·obtain ⟨_,o0,o1⟩:=Xs ok (WN (.inr e))
   have P0:=YF ok 0 (.inr (WN (.inr e)))
   have P1:=YF ok 1 (.inr (WN (.inr e)))
   rw [if_pos rfl] at P0
   rw [if_neg (by omega)] at P1
   rw [valB_2 e,e]
   have c0:eqB 2 0=false∧eqB 2 1=false∧eqB 2 2=true∧eqB 6 6=true∧eqB 6 7=false∧eqB 7 6=false∧eqB 7 7=true∧eqB 0 0=true∧eqB 1 1=true:=by decide
   have l0:=QK o0
   have l1:=QK o1
   have E0:=Zcc nl1 false ty (QX τ) (by have:=hty.1;omega)
   have E1:=Zcc nl1 false ty (QA τ) (by have:=hty.1;omega)
   by_cases h6:op=6
   ·subst h6
    obtain ⟨rfl,a,rfl,fa⟩:=m67 (.inl rfl)
    simp only [wfs] at hks
    simp only [WB] at hsz
    have k0:=Wq [a] false nl2 0 (by simp)
    simp only [Int.natCast_zero,List.getElem_cons_zero] at k0
    have ha:=ih a (QA τ) (by omega) hks.1 o0 d0 fa
    simp (disch:=omega) [c0]
    refine Qa P1 (by simp) ?_
    simp (disch:=omega)
    refine Qa E0 (by simp) ?_
    cases q5:(ty == QX τ)
    ·simp (disch:=omega) [q5]
    simp (disch:=omega) [q5]
    refine Qa P0 (by simp) ?_
    simp (disch:=omega) [k0]
    refine Qa ha (by simp) ?_
    simp (disch:=omega)
   ·have z6:eqB op 6=false:=by rw [Qb];exact h6
    by_cases h7:op=7
    ·subst h7
     obtain ⟨rfl,a,rfl,fa⟩:=m67 (.inr rfl)
     simp only [wfs] at hks
     simp only [WB] at hsz
     have k0:=Wq [a] false nl2 0 (by simp)
     simp only [Int.natCast_zero,List.getElem_cons_zero] at k0
     have ha:=ih a (QX τ) (by omega) hks.1 o1 d1 fa
     simp (disch:=omega) [c0]
     refine Qa P0 (by simp) ?_
     simp (disch:=omega)
     refine Qa E1 (by simp) ?_
     cases q5:(ty == QA τ)
     ·simp (disch:=omega) [q5]
     simp (disch:=omega) [q5]
     refine Qa P1 (by simp) ?_
     simp (disch:=omega) [k0]
     refine Qa ha (by simp) ?_
     simp (disch:=omega)
    ·have z7:eqB op 7=false:=by rw [Qb];exact h7
     simp (disch:=omega) [c0,z6,z7,h6,h7]
  ·obtain ⟨_,_,o0⟩:=ZbC ok (VF e)
   obtain ⟨n0,n1,n2⟩:=Zom e
   have P0:=YF ok 0 (.inl (VF e))
   rw [if_pos rfl] at P0
   have gr:=ZhB (hd τ) (by unfold I64;omega) oh.2.1
   have bg:=box_G ok e
   have h16:=(GSys.sys_of hs).hi
   have eg:Xx (hd τ)=hd τ - 19:=by
    have:=(Ke _).1 e
    obtain ⟨b1,b2⟩:=bg
    unfold Xx
    rw [if_neg (by omega),if_pos (by omega)]
   rw [eg] at gr
   have z0:eqB (hd τ) 0=false∧eqB (hd τ) 1=false∧eqB (hd τ) 2=false:=by
    simp only [Qb];exact ⟨n0,n1,n2⟩
   rw [valB_b e]
   cases q1:eqB op 11
   ·simp (disch:=omega) [z0,q1]
   obtain ⟨rfl,a,rfl,fa⟩:=m11 (Qc.1 q1)
   simp only [wfs] at hks
   simp only [WB] at hsz
   have k0:=Wq [a] false nl2 0 (by simp)
   simp only [Int.natCast_zero,List.getElem_cons_zero] at k0
   have ha:=ih a (QA τ) (by omega) hks.1 o0 d0 fa
   have q4':eqB 1 1=true:=by decide
   simp (disch:=omega) [z0,q1]
   refine Qa gr (by simp) ?_
   cases q2:eqB n (hd τ - 19)
   ·simp (disch:=omega) [q2]
   simp (disch:=omega) [q2,q4']
   refine Qa P0 (by simp) ?_
   simp (disch:=omega) [k0]
   refine Qa ha (by simp) ?_
   simp (disch:=omega)
theorem ZlQ {s:GSys} (hs:s.sys=true) (sw:s.wf) (nl:Bool) (l:List Int) (hl:Lok l):Qe Tryz.prog Zb1 [s.lv,L nl l] (·=B (okL s.size l)):=by
 refine Qe.of_codeOf ZmT Qx (by simp) ⟨_,rfl,by simp⟩ ?_
 have ts:=GSys.sys_of hs
 have h2:=ts.lo;have h16:=ts.hi
 have hI:I64 s.size:=⟨by omega,by omega⟩
 have IS:=Zal s sw
 rw [hs] at IS
 simp (disch:=omega) [ZfK,Qt,Qo]
 refine Qa IS (by simp) ?_
 simp (disch:=omega)
 refine Qa (Zid nl l hl) (by simp) ?_
 unfold okL
 cases hw:wty l
 ·simp (disch:=omega)
 ·simp (disch:=omega)
  refine Qa (Zep nl l hl s.size hI true) (by simp) ?_
  simp (disch:=omega)
theorem ZlD {s:GSys} (hs:s.sys=true) (sw:s.wf) (nl:Bool) (l:List Int) (ho:okL s.size l=true):Qe Tryz.prog Zca [s.lv,L nl l] (·=B (Y4 l)):=by
 refine Qe.of_codeOf ZmA Qx (by simp) ⟨_,rfl,by simp⟩ ?_
 have h40:=QK ho
 have it:=ZlQ hs sw nl l (ZgW (Ye ho))
 rw [ho] at it
 simp (disch:=omega) [ZfW,Qt,Qo]
 refine Qa it (by simp) ?_
 simp (disch:=omega)
 refine Qa (Zh4 nl l (by omega)) (by simp) ?_
 simp (disch:=omega)
theorem ZjT {s:GSys} (hs:s.sys=true) (sw:s.wf) (l:List Int) (v:GTerm) (vw:v.wf) (ho:okL s.size l=true) (hd:Y4 l=true):Qe Tryz.prog Za6 [s.lv,L false l,v.lv] (·=B (Z5 l v)):=by
 refine Qe.of_codeOf Zlv Qx (by simp) ⟨_,rfl,by simp⟩ ?_
 have da:=ZlD hs sw false l ho
 rw [hd] at da
 have it:=Zfo sw v vw 0 (by unfold I64;omega)
 rw [hs,Bool.true_and] at it
 have h40:=QK ho
 simp (disch:=omega) [Zeg,Qt,Qo]
 refine Qa da (by simp) ?_
 simp (disch:=omega)
 refine Qa it (by simp) ?_
 cases ht:v.termB s.size 0
 ·have e:Z5 l v=false:=by
   rw [<- Bool.not_eq_true]
   intro hv
   have V:=Val.ofB v.size v l (Nat.le_refl _) ho (ZaO.1 hd) hv
   have f:=V.form hs 0
   have sz:=V.size
   rw [<- Bool.not_eq_true] at ht
   refine ht ?_
   simp only [GTerm.termB,Bool.and_eq_true,decide_eq_true_eq,Wb]
   exact ⟨by omega,by omega,f⟩
  simp (disch:=omega) [e]
 ·have ht':=ht
  simp only [GTerm.termB,Bool.and_eq_true,decide_eq_true_eq] at ht'
  simp (disch:=omega)
  refine Qa (Zri hs 0 v.size v l (Nat.le_refl _) vw ho (ZaO.1 hd) ht'.2.2) (by simp) ?_
  simp (disch:=omega)
def allV (ctx:Wk) (vs:List GTerm):Bool:=(ctx.zip vs).all fun p=>Z5 p.1.2 p.2
def Zdz (s:GSys) (ctx:Wk) (g:GTerm) (vs:List GTerm):Option (GTerm×List Int):=match ZdP s ctx g with
 | none=>none
 | some _=>if vs.length=ctx.length then (if allV ctx vs=true then evO s g vs else none) else none
theorem Zrk (Γ:List (List Int)):((List.range Γ.length).map fun j=>Γ.getD j [])=Γ:=by
 refine List.ext_getElem (by simp) fun i h1 h2=>?_
 simp [List.getD_eq_getElem?_getD,h2]
theorem Zox {s:GSys} {ctx:Wk} {g:GTerm} {vs:List GTerm} {x:TT} (a:Arg s ctx g) (hx:ZdP s ctx g=some x) (hl:vs.length=ctx.length) (hv:allV ctx vs=true) (vf:∀ v∈vs,v.fl) :
  s.sys=true∧Xg s 3001 0 (valσ vs) g (List.range vs.length) 1≠.stuck∧∀ l σ v,Xg s 3001 0 (valσ vs) g (List.range vs.length) 1=.ok l σ v->Val s x.ty v:=by
 unfold ZdP at hx
 cases hy:Z2 s ctx g with
 | none=>rw [hy] at hx;simp at hx
 | some y =>
  rw [hy] at hx
  simp only at hx
  split at hx
  ·rename_i hd
   simp only [Option.some.injEq] at hx
   subst hx
   obtain ⟨gx,hs,hc1,ht1,h8,tx⟩:=VE a hy
   obtain ⟨f1,f2,_⟩:=a.flags hc1
   rw [Bool.and_eq_true,List.all_eq_true] at hd
   obtain ⟨hd1,hd2⟩:=hd
   have ts:=GSys.sys_of hs
   have g1:s.G 1:=⟨by omega,by have:=ts.lo;omega⟩
   unfold GTerm.termB at ht1
   simp only [Bool.and_eq_true,decide_eq_true_eq] at ht1
   have w:WT s (ctx.map Prod.snd) (valσ vs):=by
    refine ⟨by simp [valσ,hl],fun l hl=>?_,fun j c hj=>?_⟩
    ·obtain ⟨c,hc,rfl⟩:=List.mem_map.1 hl
     exact f1 c hc
    ·simp only [valσ,List.getElem?_map,Option.map_eq_some_iff] at hj
     obtain ⟨v,hj,rfl⟩:=hj
     have h1:j < vs.length:=by
      rcases Nat.lt_or_ge j vs.length with g | g
      ·exact g
      ·rw [List.getElem?_eq_none g] at hj;simp at hj
     have h2:j < ctx.length:=by omega
     have ev:vs[j]=v:=by rw [List.getElem?_eq_getElem h1] at hj;simpa using hj
     have hz:=List.all_eq_true.1 hv ((ctx[j],vs[j])) (by
      rw [List.mem_iff_getElem]
      exact ⟨j,by simp;omega,by simp⟩)
     rw [ev] at hz
     have eg:(ctx.map Prod.snd).getD j []=(ctx[j]).2:=by simp [List.getD_eq_getElem?_getD,h2]
     have V:=Val.ofB v.size v (ctx[j]).2 (Nat.le_refl _) (f1 _ (List.getElem_mem h2)) (ZaO.1 (hd2 _ (List.getElem_mem h2))) hz
     rw [eg]
     exact ⟨⟨by simp,V.of hs (vf v (by rw [<- ev];exact List.getElem_mem h1)) _⟩,GSys.G0 ts,GSys.G0 ts⟩
   have hT:HT s (ctx.map Prod.snd) g (List.range vs.length) y.ty:=by
    refine ⟨fun j hj=>by simp at hj ⊢;omega,?_⟩
    have e:((List.range vs.length).map fun j=>(ctx.map Prod.snd).getD j [])=ctx.map Prod.snd:=by
     have:=Zrk (ctx.map Prod.snd)
     rwa [List.length_map,<- hl] at this
    rw [e]
    exact ⟨by simpa using ht1.2.2,⟨y,tx,rfl⟩,a.gw,a.gf⟩
   refine ⟨hs,?_,fun l σ v h=>tell_val hs 3001 0 _ g _ 1 _ y.ty w hT g1 (ZaO.1 hd1) _ _ _ h⟩
   rcases Znj hs 3001 0 (valσ vs) g (List.range vs.length) 1 _ y.ty w hT g1 (ZaO.1 hd1) with h | ⟨l,σ,v,Δ,h,_⟩
   ·rw [h];simp
   ·rw [h];simp
  ·simp at hx
theorem Zf7 {s:GSys} {ctx:Wk} {g:GTerm} {x:TT} (a:Arg s ctx g) (hx:ZdP s ctx g=some x):s.sys=true∧ctx.length<=8∧(∀ c∈ctx,okL s.size c.2=true∧c.1=false∧Y4 c.2=true)∧Z2 s ctx g=some x∧Y4 x.ty=true:=by
 unfold ZdP at hx
 cases hy:Z2 s ctx g with
 | none=>rw [hy] at hx;simp at hx
 | some y =>
  rw [hy] at hx
  simp only at hx
  split at hx
  ·rename_i hd
   simp only [Option.some.injEq] at hx
   subst hx
   obtain ⟨gx,hs,hc1,ht1,h8,tx⟩:=VE a hy
   obtain ⟨f1,f2,_⟩:=a.flags hc1
   rw [Bool.and_eq_true,List.all_eq_true] at hd
   exact ⟨hs,h8,fun c hc=>⟨f1 c hc,f2 c hc,hd.2 c hc⟩,rfl,hd.1⟩
  ·simp at hx
structure ZOk (h:List Box):Prop where
 len:2 < h.length
 at2:h[2]?=some (some [N 0,N 0,.sl true true 1 [],.sl true true 1 []])
theorem ZOk.app {h:List Box} (z:ZOk h) (k:List Box):ZOk (h++k):=⟨by have:=z.len;simp;omega,by rw [Q7 z.len];exact z.at2⟩
theorem ZpL {s:GSys} {ctx:Wk} {g:GTerm} {vs:List GTerm} (a:Arg s ctx g) (nlc nlv:Bool) (vw:∀ v∈vs,v.wf) (vf:∀ v∈vs,v.fl) (vl:vs.length<=1099511627776):Qe Tryz.prog ZE [s.lv,LC nlc ctx,g.lv,.sl false nlv 4 (Q9 vs)] (fun r=>isEv (Zdz s ctx g vs) r∧QB r):=by
 refine Qe.of_codeOf Zi9 Qx (by simp) (ZjA _) ?_
 have dt:=ZmQ a nlc
 have cl:=a.cw.1
 simp (disch:=omega) [Zdy,Qt,Qo]
 refine Qp (Qe.low dt) (by simp) ?_
 rintro r ⟨⟨u0,n0,l0,rfl,hx0⟩,lo⟩
 unfold Zdz
 cases hx:ZdP s ctx g with
 | none =>
  simp (disch:=omega) [Qo]
  exact ⟨⟨_,_,_,rfl⟩,by simp [QB,QS,QL]⟩
 | some x =>
  obtain ⟨hs,h8,hcx,_,_⟩:=Zf7 a hx
  simp only
  by_cases hl:vs.length=ctx.length
  ·have hq:eqB (vs.length:Int) ctx.length=true:=by rw [Qc];omega
   rw [if_pos hl]
   simp (disch:=omega) [Qo,hq]
   refine WS vs.length 0 (fun i t h'=>t 34=N i∧allV ctx vs=((ctx.zip vs).drop i).all (fun p=>Z5 p.1.2 p.2)∧ZOk h') (fun t h'=>allV ctx vs=true∧ZOk h') ⟨by simp,by simp [allV],by simp,by simp⟩ (Nat.zero_le _) ?_ ?_
   ·rintro i t1 h1' hf hi ⟨e34,hj,zo⟩
    have f1:=hf 1 (by kernel_rfl);have f8:=hf 8 (by kernel_rfl);have f32:=hf 32 (by kernel_rfl);have f33:=hf 33 (by kernel_rfl)
    clear hf
    simp at f1 f8 f32 f33
    by_cases h6:i < vs.length
    ·have h6c:i < ctx.length:=by omega
     have hb6:ltB (i:Int) vs.length=true:=by rw [Qf];omega
     have ix:=Wq vs false nlv i h6
     have ic:=Kl ctx nlc i h6c
     obtain ⟨o1,o2,o3⟩:=hcx _ (List.getElem_mem h6c)
     have iv:=Zrg hs (vs[i]).size vs[i] (ctx[i]).2 (Nat.le_refl _) (vw _ (List.getElem_mem h6)) o1 (ZaO.1 o3)
     have hz:(ctx.zip vs).drop i=(ctx[i],vs[i])::(ctx.zip vs).drop (i+1):=by
      rw [List.drop_eq_getElem_cons (by simp;omega)]
      simp
     rw [hz,List.all_cons] at hj
     simp only at hj
     have ec:eC ctx[i]=L false (ctx[i]).2:=by simp [eC,o2]
     rw [ec] at ic
     have hi6:∀ _:Unit,i < vs.length:=fun _=>h6
     generalize vs[i]=v at *
     clear ec o2
     generalize (ctx[i]).2=τ at *
     obtain ⟨op,n,nl1,ty,nl2,ks⟩:=v
     simp only [GTerm.cells] at ix
     have z2:=zo.at2
     have zl:∀ _:Unit,2 < h1'.length:=fun _=>zo.len
     have ga:∀ k:List Box,(h1'++k)[2]?=some (some [N 0,N 0,.sl true true 1 [],.sl true true 1 []]):=fun k=>(zo.app k).at2
     have gs:∀ (k:List Box) (x:Box),((h1'++k).set 2 x)[2]?=some x:=fun k x=>List.getElem?_set_self (zo.app k).len
     have gt:∀ (k:List Box) (x:Box),(h1'.set 2 x++k)[2]?=some x:=fun k x=>by rw [List.getElem?_append_left (by rw [List.length_set];exact zo.len)];exact List.getElem?_set_self zo.len
     have zz:=fun k=>zo.app k
     clear h6 h6c zo hz
     simp (disch:=omega) [e34,f1,f8,f32,f33,hb6,ix,ic,QN]
     refine Qa iv (by simp) ?_
     cases hv:Z5 τ (.mk op n nl1 ty nl2 ks)
     ·rw [hv,Bool.false_and] at hj
      rw [if_neg (by rw [hj];simp)]
      simp (disch:=omega) [f8,ga,gs,gt]
      exact ⟨⟨_,_,_,rfl⟩,by simp [QB,QS,QL]⟩
     ·rw [hv,Bool.true_and] at hj
      simp (disch:=omega) [e34,Qg]
      exact ⟨hi6 (),hj,zz _⟩
    ·have hb6:ltB (i:Int) vs.length=false:=by rw [Qd];omega
     simp (disch:=omega) [e34,f33,hb6]
     rw [List.drop_of_length_le (by simp;omega)] at hj
     exact ⟨hj,zo⟩
   ·rintro t1 h1' hf ⟨hv,zo⟩
    have f3:=hf 3 (by kernel_rfl);have f4:=hf 4 (by kernel_rfl);have f6:=hf 6 (by kernel_rfl);have f8:=hf 8 (by kernel_rfl)
    clear hf
    simp at f3 f4 f6 f8
    obtain ⟨_,hns,_⟩:=Zox a hx hl hv vf
    have EV:=Zpa hs a.sw nlv (by omega) hns
    rw [if_pos hv]
    unfold Yu
    have z2:=zo.at2
    have gs:∀ (x:Box),(h1'.set 2 x)[2]?=some x:=fun x=>List.getElem?_set_self zo.len
    clear zo
    simp (disch:=omega) [f3,f4,f6,f8]
    refine Qp (Qe.low EV) (by simp) ?_
    rintro r ⟨⟨hr,hw⟩,lo3⟩
    cases he:evO s g vs with
    | none =>
     rw [he] at hr
     obtain ⟨u,u1,u2,rfl⟩:=hr
     simp (disch:=omega) [f8,z2,gs]
     exact ⟨⟨_,_,_,rfl⟩,by simp [QB,QS,QL]⟩
    | some p =>
     obtain ⟨v,bk⟩:=p
     rw [he] at hr
     obtain ⟨z,u,nl,rfl,w,cs,rfl,csh,cn,cf⟩:=hr
     have c4:cs.length=4:=by rw [<- We,csh];simp
     have cal:=VN csh
     have cf':cs.take 4=cs:=List.take_of_length_le (by omega)
     simp (disch:=omega) [f8,z2,gs,c4,cal,cf',csh,List.take_of_length_le,List.drop_of_length_le]
     exact ⟨by simpa using lo3,⟨_,u,nl,rfl,w,cs,rfl,csh,cn,cf⟩,hw⟩
  ·have hq:eqB (vs.length:Int) ctx.length=false:=by rw [Qb];omega
   rw [if_neg hl]
   simp (disch:=omega) [Qo,hq]
   exact ⟨⟨_,_,_,rfl⟩,by simp [QB,QS,QL]⟩
theorem Zjj {s:GSys} {ctx:Wk} {g:GTerm} {vs:List GTerm} (a:Arg s ctx g) (nlc nlv:Bool) (vw:∀ v∈vs,v.wf) (vf:∀ v∈vs,v.fl) (vl:vs.length<=1099511627776):Qe Tryz.prog Kx [s.lv,LC nlc ctx,g.lv,.sl false nlv 4 (Q9 vs)] (isEv (Zdz s ctx g vs)):=by
 refine Qe.of_codeOf ZiT Qx (by simp) (by obtain ⟨r,h1,h2⟩:=ZjA (Zdz s ctx g vs);exact ⟨r,h1.1,h2⟩) ?_
 have to:=Zmn a nlc
 have cl:=a.cw.1
 simp (disch:=omega) [Zdw,Qt,Qo]
 refine Qp (Qe.low to) (by simp) ?_
 rintro r ⟨hr,lo⟩
 unfold Zdz
 cases hy:Z2 s ctx g with
 | none =>
  rw [hy] at hr
  obtain ⟨u1,u2,rfl⟩:=hr
  have hx:ZdP s ctx g=none:=by simp [ZdP,hy]
  rw [hx]
  simp (disch:=omega) [Qo]
  exact ⟨_,_,_,rfl⟩
 | some x =>
  rw [hy] at hr
  obtain ⟨u1,u2,rfl⟩:=hr
  obtain ⟨gx,hs,hc1,ht1,h8,tx⟩:=VE a hy
  obtain ⟨f1,f2,_⟩:=a.flags hc1
  have h40:=QK gx.1
  have da:=Zh4 false x.ty (by omega)
  have AD:=Zov nlc ctx a.cw (fun c hc=>(QK (f1 c hc)).2)
  simp (disch:=omega) [Qo]
  refine Qa da (by simp) ?_
  cases hd:Y4 x.ty
  ·have hx:ZdP s ctx g=none:=by simp [ZdP,hy,hd]
   rw [hx]
   simp (disch:=omega) [Qo]
   exact ⟨_,_,_,rfl⟩
  simp (disch:=omega) [Qo]
  refine Qa AD (by simp) ?_
  cases hal:ctx.all fun c=>Y4 c.2
  ·have hx:ZdP s ctx g=none:=by simp only [ZdP,hy,hd,hal];rfl
   rw [hx]
   simp (disch:=omega) [Qo]
   exact ⟨_,_,_,rfl⟩
  have hx:ZdP s ctx g=some x:=by simp only [ZdP,hy,hd,hal];rfl
  rw [hx]
  obtain ⟨_,_,hcx,_,_⟩:=Zf7 a hx
  simp only
  by_cases hl:vs.length=ctx.length
  ·have hq:eqB (vs.length:Int) ctx.length=true:=by rw [Qc];omega
   rw [if_pos hl]
   simp (disch:=omega) [Qo,hq]
   refine WS vs.length 0 (fun i t h'=>t 14=N i∧allV ctx vs=((ctx.zip vs).drop i).all (fun p=>Z5 p.1.2 p.2)∧h'=[none,none,some [N 0,N 0,.sl true true 1 [],.sl true true 1 []]]) (fun t h'=>allV ctx vs=true∧h'=[none,none,some [N 0,N 0,.sl true true 1 [],.sl true true 1 []]]) ⟨by simp,by simp [allV],by simp⟩ (Nat.zero_le _) ?_ ?_
   ·rintro i t1 h1' hf hi ⟨e14,hj,rfl⟩
    have f1:=hf 1 (by kernel_rfl);have f3:=hf 3 (by kernel_rfl);have f4:=hf 4 (by kernel_rfl);have f8:=hf 8 (by kernel_rfl)
    clear hf
    simp at f1 f3 f4 f8
    by_cases h6:i < vs.length
    ·have h6c:i < ctx.length:=by omega
     have hb6:ltB (i:Int) vs.length=true:=by rw [Qf];omega
     have ix:=Wq vs false nlv i h6
     have ic:=Kl ctx nlc i h6c
     obtain ⟨o1,o2,o3⟩:=hcx _ (List.getElem_mem h6c)
     have iv:=ZjT hs a.sw (ctx[i]).2 vs[i] (vw _ (List.getElem_mem h6)) o1 o3
     have hz:(ctx.zip vs).drop i=(ctx[i],vs[i])::(ctx.zip vs).drop (i+1):=by
      rw [List.drop_eq_getElem_cons (by simp;omega)]
      simp
     rw [hz,List.all_cons] at hj
     simp only at hj
     have ec:eC ctx[i]=L false (ctx[i]).2:=by simp [eC,o2]
     rw [ec] at ic
     have hi6:∀ _:Unit,i < vs.length:=fun _=>h6
     generalize vs[i]=v at *
     clear ec o2
     generalize (ctx[i]).2=τ at *
     obtain ⟨op,n,nl1,ty,nl2,ks⟩:=v
     simp only [GTerm.cells] at ix
     clear h6 h6c hz
     simp (disch:=omega) [e14,f1,f3,f4,f8,hb6,ix,ic]
     refine Qa iv (by simp) ?_
     cases hv:Z5 τ (.mk op n nl1 ty nl2 ks)
     ·rw [hv,Bool.false_and] at hj
      rw [if_neg (by rw [hj];simp)]
      simp (disch:=omega) [f8]
      exact ⟨_,_,_,rfl⟩
     ·rw [hv,Bool.true_and] at hj
      simp (disch:=omega) [e14,Qg]
      exact ⟨hi6 (),hj⟩
    ·have hb6:ltB (i:Int) vs.length=false:=by rw [Qd];omega
     simp (disch:=omega) [e14,f3,hb6]
     rw [List.drop_of_length_le (by simp;omega)] at hj
     exact hj
   ·rintro t1 h1' hf ⟨hv,rfl⟩
    have f3:=hf 3 (by kernel_rfl);have f4:=hf 4 (by kernel_rfl);have f6:=hf 6 (by kernel_rfl);have f8:=hf 8 (by kernel_rfl)
    clear hf
    simp at f3 f4 f6 f8
    obtain ⟨_,hns,_⟩:=Zox a hx hl hv vf
    have EV:=l6Run_ok hs a.sw nlv (by omega) hns
    rw [if_pos hv]
    unfold Yu
    simp (disch:=omega) [f3,f4,f6,f8]
    refine Qp (Qe.low EV) (by simp) ?_
    rintro r ⟨hr,lo3⟩
    cases he:evO s g vs with
    | none =>
     rw [he] at hr
     obtain ⟨u,u1,u2,rfl⟩:=hr
     simp (disch:=omega) [f8]
     exact ⟨_,_,_,rfl⟩
    | some p =>
     obtain ⟨v,bk⟩:=p
     rw [he] at hr
     obtain ⟨z,u,nl,rfl,w,cs,rfl,csh,cn,cf⟩:=hr
     have c4:cs.length=4:=by rw [<- We,csh];simp
     have cal:=VN csh
     have cf':cs.take 4=cs:=List.take_of_length_le (by omega)
     simp (disch:=omega) [f8,c4,cal,cf',csh,List.take_of_length_le,List.drop_of_length_le]
     exact ⟨by simpa using lo3,_,u,nl,rfl,w,cs,rfl,csh,cn,cf⟩
  ·have hq:eqB (vs.length:Int) ctx.length=false:=by rw [Qb];omega
   rw [if_neg hl]
   simp (disch:=omega) [Qo,hq]
   exact ⟨_,_,_,rfl⟩
def noT:GTerm:=.mk 0 0 true [] true []
theorem nm_size {a b:GTerm} (h:a.nm=b.nm):a.size=b.size:=by rw [<- Zn2 a,h,Zn2]
theorem ZhF {sz:Nat}:∀ {a b:List (List LV)} {n:Nat} {cells:List LV} {bs:List Box},Xn (a++b) sz n cells bs ↔ ∃ c1 b1 c2 b2,cells=c1++c2∧bs=b1++b2∧Xn a sz n c1 b1∧Xn b sz (n+b1.length) c2 b2
 | [],b,n,cells,bs=>by
  simp only [List.nil_append,Xn]
  constructor
  ·intro h;exact ⟨[],[],cells,bs,by simp,by simp,⟨rfl,rfl⟩,by simpa using h⟩
  ·rintro ⟨c1,b1,c2,b2,rfl,rfl,⟨rfl,rfl⟩,h⟩;simpa using h
 | row::a,b,n,cells,bs=>by
  simp only [List.cons_append,Xn]
  constructor
  ·rintro ⟨c1,b1,c2,b2,h1,h2,h3,rfl,rfl⟩
   obtain ⟨c3,b3,c4,b4,rfl,rfl,h4,h5⟩:=ZhF.1 h3
   exact ⟨c1++c3,b1++b3,c4,b4,by simp,by simp,⟨c1,b1,c3,b3,h1,h2,h4,rfl,rfl⟩,by simpa [Nat.add_assoc] using h5⟩
  ·rintro ⟨c1,b1,c2,b2,rfl,rfl,⟨c3,b3,c4,b4,h1,h2,h3,rfl,rfl⟩,h5⟩
   exact ⟨c3,b3,c4++c2,b4++b2,h1,h2,ZhF.2 ⟨c4,b4,c2,b2,rfl,rfl,h3,by simpa [Nat.add_assoc] using h5⟩,by simp,by simp⟩
theorem Zh0:∀ {xs:List LV} {n:Nat} {ys:List LV} {bs:List Box},WQ xs n ys bs->ys.length=xs.length
 | [],n,ys,bs,h=>by simp only [WQ] at h;simp [h.1]
 | x::xs,n,ys,bs,h=>by
  simp only [WQ] at h
  obtain ⟨y,b1,ys',b2,_,h2,rfl,_⟩:=h
  simp [Zh0 h2]
theorem Znl {sz:Nat}:∀ {Qj:List (List LV)} {n:Nat} {cells:List LV} {bs:List Box},Xn Qj sz n cells bs->cells.length=Qj.length * sz
 | [],n,cells,bs,h=>by simp only [Xn] at h;simp [h.1]
 | row::Qj,n,cells,bs,h=>by
  simp only [Xn] at h
  obtain ⟨c1,b1,c2,b2,h1,h2,h3,rfl,rfl⟩:=h
  rw [List.length_append,Zh0 h2,Znl h3,h1,List.length_cons,Nat.succ_mul];omega
mutual
def GTerm.ownF:GTerm->List LV
 | .mk op n nl1 ty nl2 ks=>[N op,N n,OU (!nl1) nl1 ty,.sl (!nl2) nl2 4 (Xu ks)]
def Xu:List GTerm->List (List LV)
 | []=>[]
 | k::ks=>k.ownF::Xu ks
end
theorem ZI:∀ ks:List GTerm,Xu ks=ks.map GTerm.ownF
 | []=>by simp [Xu]
 | k::ks=>by simp [Xu,ZI ks]
@[simp] theorem K3 (ks:List GTerm):(Xu ks).length=ks.length:=by simp [ZI]
@[simp] theorem ownF_length (t:GTerm):t.ownF.length=4:=by cases t;simp [GTerm.ownF]
mutual
theorem ZcU:∀ t:GTerm,shareAll t.ownF=t.cells
 | .mk op n nl1 ty nl2 ks=>by
  simp only [GTerm.ownF,GTerm.cells,shareAll,share,Ziu ks]
  congr 3
  simp
theorem Ziu:∀ ks:List GTerm,Qv (Xu ks)=Q9 ks
 | []=>by simp [Xu,Q9,Qv]
 | k::ks=>by simp only [Xu,Q9,Qv,ZcU k,Ziu ks]
end
mutual
theorem Zqt:∀ t:GTerm,t.own=t.norm.ownF
 | .mk op n nl1 ty nl2 ks=>by simp [GTerm.own,GTerm.norm,GTerm.ownF,Zgr ks]
theorem Zgr:∀ ks:List GTerm,Zbu ks=Xu (Yn ks)
 | []=>by simp [Zbu,Yn,Xu]
 | k::ks=>by simp [Zbu,Yn,Xu,Zqt k,Zgr ks]
end
mutual
def GTerm.cnt:GTerm->Nat
 | .mk _ _ _ ty _ ks=>2+ty.length+YY ks
def YY:List GTerm->Nat
 | []=>0
 | k::ks=>k.cnt+YY ks
end
mutual
def mkT (k:Int):GTerm->GTerm
 | .mk _ _ nl1 ty nl2 ks=>.mk k (k+1) nl1 (Wt mI (k+2) ty.length) nl2 (Vg (k+2+ty.length) ks)
def Vg (k:Int):List GTerm->List GTerm
 | []=>[]
 | t::ks=>mkT k t::Vg (k+t.cnt) ks
end
theorem Zj1:∀ a b:List GTerm,YY (a++b)=YY a+YY b
 | [],b=>by simp [YY]
 | k::a,b=>by simp [YY,Zj1 a b];omega
theorem Znw:∀ (a:List GTerm) (b:GTerm) (k:Int),Vg k (a++[b])=Vg k a++[mkT (k+YY a) b]
 | [],b,k=>by simp [Vg,YY]
 | t::a,b,k=>by
  simp only [List.cons_append,Vg,Znw a b,YY]
  congr 4
  push_cast;omega
@[simp] theorem V9:∀ (a:List GTerm) (k:Int),(Vg k a).length=a.length
 | [],k=>by simp [Vg]
 | t::a,k=>by simp [Vg,V9 a]
theorem Zp4:∀ (a:List GTerm) (k:Int) (i:Nat) (h:i < a.length),(Vg k a)[i]'(by simpa using h)=mkT (k+YY (a.take i)) a[i]
 | [],k,i,h=>by simp at h
 | t::a,k,0,h=>by simp [Vg,YY]
 | t::a,k,i+1,h=>by
  simp only [Vg,List.getElem_cons_succ,List.take_succ_cons,YY]
  rw [Zp4 a _ i (by simpa using h)]
  congr 1
  push_cast;omega
theorem ZhU {ks:List GTerm} {i:Nat} (h:i < ks.length):YY (ks.take (i+1))=YY (ks.take i)+(ks[i]).cnt:=by
 rw [List.take_succ_eq_append_getElem h,Zj1];simp [YY]
theorem cnts_le (ks:List GTerm) (i:Nat):YY (ks.take i)<=YY ks:=by
 have:=Zj1 (ks.take i) (ks.drop i)
 rw [List.take_append_drop] at this;omega
theorem Zse {ks:List GTerm} {i:Nat} (h:i < ks.length):YY (ks.take i)+(ks[i]).cnt<=YY ks:=by
 rw [<- ZhU h];exact cnts_le _ _
theorem thT {op n:Int} {T K:LV} {m:Nat} {cs:List LV} {bs:List Box}:WQ [N op,N n,T,K] m cs bs ↔ ∃ yT bT yK bK,cs=[N op,N n,yT,yK]∧bs=bT++bK∧Th T m yT bT∧Th K (m+bT.length) yK bK:=by
 simp only [WQ,Th]
 constructor
 ·rintro ⟨_,_,_,_,⟨rfl,rfl⟩,⟨_,_,_,_,⟨rfl,rfl⟩,⟨yT,bT,_,_,h1,⟨yK,bK,_,_,h2,⟨rfl,rfl⟩,rfl,rfl⟩,rfl,rfl⟩,rfl,rfl⟩,rfl,rfl⟩
  exact ⟨yT,bT,yK,bK,rfl,by simp,by simpa using h1,by simpa using h2⟩
 ·rintro ⟨yT,bT,yK,bK,rfl,rfl,h1,h2⟩
  exact ⟨_,[],_,_,⟨rfl,rfl⟩,⟨_,[],_,_,⟨rfl,rfl⟩,⟨yT,bT,_,_,by simpa using h1,⟨yK,bK,_,[],by simpa using h2,⟨rfl,rfl⟩,rfl,rfl⟩,rfl,rfl⟩,rfl,rfl⟩,rfl,by simp⟩
theorem Zco:∀ ks:List GTerm,ks.length<=WB ks
 | []=>by simp [WB]
 | k::ks=>by have:=Zco ks;have:=k.size_pos;simp [WB];omega
theorem ex_i {u nl:Bool} {l:List Int} {n:Nat} {y:LV} {b:List Box} (h:Th (OU u nl l) n y b) (k:Int):∃ b',b'.length=b.length∧Th (OU u nl (Wt mI k l.length)) n y b':=by
 have hm:(Wt mI k l.length).length=l.length:=Kj _ k l.length
 rcases (Zay (fun n:Int=>Value.int .i64 n)).1 h with ⟨rfl,rfl,rfl⟩ | ⟨rfl,hne,slack,cap,hcap,rfl,rfl⟩
 ·exact ⟨[],rfl,(Zay (fun n:Int=>Value.int .i64 n)).2 (.inl ⟨rfl,rfl,rfl⟩)⟩
 ·have hne2:Wt mI k l.length≠[]:=by
   intro h;rw [h] at hm;exact hne (List.eq_nil_of_length_eq_zero (by simpa using hm.symm))
  exact ⟨[some ((Wt mI k l.length).map (fun x=>.sc ((fun n:Int=>Value.int .i64 n) x))++List.replicate slack .dead)],rfl,(Zay (fun n:Int=>Value.int .i64 n)).2 (.inr ⟨rfl,hne2,slack,cap,by rw [hm];exact hcap,by rw [hm],rfl⟩)⟩
mutual
theorem ex_t:∀ (t:GTerm) (k:Int) (n:Nat) (c:List LV) (b:List Box),WQ t.ownF n c b->∃ c' b',b'.length=b.length∧c'.length=c.length∧WQ (mkT k t).ownF n c' b'
 | .mk op m nl1 ty nl2 ks,k,n,c,b,h=>by
  simp only [GTerm.ownF,mkT] at h ⊢
  obtain ⟨yT,bT,yK,bK,rfl,rfl,h1,h2⟩:=thT.1 h
  obtain ⟨bT',q1,q2⟩:=ex_i h1 (k+2)
  simp only [Th] at h2
  rcases h2 with ⟨hn,rfl,rfl⟩ | ⟨rfl,hne,cells,bs',slack,cap,hrow,hcap,rfl,rfl⟩
  ·have hks:ks=[]:=by rw [ZI] at hn;simpa using hn
   subst hks
   exact ⟨_,bT',by simp [q1],by simp,thT.2 ⟨yT,bT',.sl false nl2 4 [],[],rfl,by simp,q2,by simp [Th,Vg,Xu]⟩⟩
  ·obtain ⟨cells',bs2,q3,q4⟩:=ex_s ks (k+2+ty.length) _ _ _ hrow
   refine ⟨_,bT'++(bs2++[some (cells'++List.replicate slack .dead)]),by simp [q1,q3],by simp,thT.2 ⟨yT,bT',.ha (n+bT.length+bs2.length) 4 0 ks.length cap,_,rfl,rfl,q2,?_⟩⟩
   simp only [Th]
   refine .inr ⟨trivial,?_,cells',bs2,slack,cap,by rw [q1];exact q4,by simpa using hcap,by simp [q1],rfl⟩
   intro h
   have:=congrArg List.length h
   rw [K3,V9] at this
   exact hne (by rw [ZI,List.eq_nil_of_length_eq_zero this];rfl)
theorem ex_s:∀ (ks:List GTerm) (k:Int) (n:Nat) (cells:List LV) (bs:List Box),Xn (Xu ks) 4 n cells bs->∃ cells' bs',bs'.length=bs.length∧Xn (Xu (Vg k ks)) 4 n cells' bs'
 | [],k,n,cells,bs,h=>⟨cells,bs,rfl,by simpa [Vg] using h⟩
 | t::ks,k,n,cells,bs,h=>by
  simp only [Xu,Vg,Xn] at h ⊢
  obtain ⟨c1,b1,c2,b2,_,h1,h2,rfl,rfl⟩:=h
  obtain ⟨c1',b1',q1,q2,q3⟩:=ex_t t k n c1 b1 h1
  obtain ⟨c2',b2',q4,q5⟩:=ex_s ks (k+t.cnt) _ c2 b2 h2
  exact ⟨_,b1'++b2',by simp [q1,q4],c1',b1',c2',b2',by simp,q3,by rw [q1];exact q5,rfl,rfl⟩
end
theorem ex_sl {u nl:Bool} {ks:List GTerm} {n:Nat} {y:LV} {bs:List Box} (h:Th (.sl u nl 4 (Xu ks)) n y bs) (k:Int):∃ bs',bs'.length=bs.length∧Th (.sl u nl 4 (Xu (Vg k ks))) n y bs':=by
 simp only [Th] at h
 rcases h with ⟨hn,rfl,rfl⟩ | ⟨rfl,hne,cells,bs',slack,cap,hrow,hcap,rfl,rfl⟩
 ·have hks:ks=[]:=by rw [ZI] at hn;simpa using hn
  subst hks
  exact ⟨[],rfl,by simp [Th,Vg,Xu]⟩
 ·obtain ⟨cells',bs2,q3,q4⟩:=ex_s ks k _ _ _ hrow
  refine ⟨bs2++[some (cells'++List.replicate slack .dead)],by simp [q3],?_⟩
  simp only [Th]
  refine .inr ⟨trivial,?_,cells',bs2,slack,cap,q4,by simpa using hcap,by simp [q3],rfl⟩
  intro h
  have:=congrArg List.length h
  rw [K3,V9] at this
  exact hne (by rw [ZI,List.eq_nil_of_length_eq_zero this];rfl)
theorem XZ {P:Program} {K:St->Prop} {s:St} {d:Nat} {f:FuncId} {vals:List LV} {h0:List Box} {R:LV->List Box->Prop} (c:QE P f vals h0 R) (e:s.h=h0) (hk:∀ r h',R r h'->K { t:=upd s.t d r,h:=h' }):Jf P .any f vals (some d) K s :=
 Qm (by rw [e];exact c) hk
theorem ZgA (d:Nat):∀ (ks:List GTerm) (u nl:Bool) (k:Int) (h1 h2:List Box) (y:LV) (bs:List Box),WB ks<=d->0<=k∧k+YY ks<=4611686018427387904->WB ks<=1000000000000000->Th (.sl u nl 4 (Xu ks)) h1.length y bs ->
  QE Tryz.prog Ze [y,N k] (h1++bs++h2) (fun r h'=>r=N (k+YY ks)∧∃ bs',bs'.length=bs.length∧Th (.sl u nl 4 (Xu (Vg k ks))) h1.length y bs'∧h'=h1++bs'++h2):=by
 induction d with
 | zero =>
  intro ks u nl k h1 h2 y bs hsz hk hkl ht
  have hks:ks=[]:=List.eq_nil_of_length_eq_zero (by have:=Zco ks;omega)
  subst hks
  simp only [Th,Xu] at ht
  rcases ht with ⟨_,rfl,rfl⟩ | ⟨_,h,_⟩
  ·refine QE.of_codeOf VJ Qx (by simp) ⟨_,_,rfl,[],rfl,by simp [Th,Vg,Xu],rfl⟩ ?_
   simp (disch:=omega) [J6]
   refine Wf 0 0 (fun i t h=>t 5=N 0∧t 1=N k∧h=h1++h2) (by simp) (by omega) ?_
   rintro i t1 hh hf hi ⟨e5,e1,rfl⟩
   (have e0:=hf 0 (by kernel_rfl);clear hf;simp [] at e0)
   simp (disch:=omega) [e0,e1,e5]
   refine QM (.inr rfl) (by simp) ?_
   simp [Th,Vg,Xu,YY]
  ·exact absurd rfl h
 | succ d ih =>
  intro ks u nl k h1 h2 y bs hsz hk hkl' ht
  have hkl:=Nat.le_trans (Zco ks) hkl'
  have ht0:=ht
  simp only [Th] at ht
  rcases ht with ⟨hnil,rfl,rfl⟩ | ⟨rfl,hne,cells,bs',slack,cap,hrow,hcap,rfl,rfl⟩
  ·have hks:ks=[]:=by rw [ZI] at hnil;simpa using hnil
   subst hks
   refine QE.of_codeOf VJ Qx (by simp) ⟨_,_,rfl,[],rfl,by simp [Th,Vg,Xu],rfl⟩ ?_
   simp (disch:=omega) [J6]
   refine Wf 0 0 (fun i t h=>t 5=N 0∧t 1=N k∧h=h1++h2) (by simp) (by omega) ?_
   rintro i t1 hh hf hi ⟨e5,e1,rfl⟩
   (have e0:=hf 0 (by kernel_rfl);clear hf;simp [] at e0)
   simp (disch:=omega) [e0,e1,e5]
   refine QM (.inr rfl) (by simp) ?_
   simp [Th,Vg,Xu,YY]
  ·rw [K3] at hcap
   obtain ⟨A,hA⟩:∃ A,h1++bs'=A:=⟨_,rfl⟩
   have hAl:h1.length+bs'.length=A.length:=by rw [<- hA];simp
   have hh0:h1++(bs'++[some (cells++List.replicate slack .dead)])++h2=A++some (cells++List.replicate slack .dead)::h2:=by rw [<- hA];simp
   rw [hh0,hAl]
   refine QE.of_codeOf VJ Qx (by simp) (by
    obtain ⟨bs2,q1,q2⟩:=ex_sl ht0 k
    rw [hAl] at q2
    exact ⟨_,_,rfl,bs2,q1,q2,rfl⟩) ?_
   simp (disch:=omega) [J6]
   refine Wf ks.length 0 (fun i t h=>t 5=N i∧t 1=N (k+YY (ks.take i))∧∃ cD bD cR bR,h=h1++(bD++bR)++some (cD++(cR++List.replicate slack .dead))::h2∧bD.length+bR.length=bs'.length ∧
    Xn (Xu (Vg k (ks.take i))) 4 h1.length cD bD∧Xn (Xu (ks.drop i)) 4 (h1.length+bD.length) cR bR) ?_ (by omega) ?_
   ·refine ⟨by simp,by simp [YY],[],[],cells,bs',by rw [<- hA];simp,by simp,by simp [Vg,Xu,Xn],by simpa using hrow⟩
   rintro i t1 hh hf hi ⟨e5,e1,cD,bD,cR,bR,rfl,hbl,hD,hR⟩
   (have e0:=hf 0 (by kernel_rfl);clear hf;simp [] at e0)
   by_cases h6:i < ks.length
   ·have hb:ltB (i:Int) ks.length=true:=by rw [Qf];omega
    have hck:=Zse h6
    have hct:=ZhU h6
    have hcDl:=Znl hD
    have hsk:=YM h6
    rw [K3,V9,List.length_take,Nat.min_eq_left hi] at hcDl
    rw [List.drop_eq_getElem_cons h6] at hR
    obtain ⟨⟨op,n,nl1,ty,nl2,kk⟩,hki⟩:∃ g,ks[i]=g:=⟨_,rfl⟩
    rw [hki] at hR hck hct hsk
    simp only [Xu,Xn,GTerm.ownF] at hR
    obtain ⟨c1,b1,c2,b2,_,hT,hR2,rfl,rfl⟩:=hR
    obtain ⟨yT,bT,yK,bK,rfl,rfl,hyT,hyK⟩:=thT.1 hT
    simp only [GTerm.cnt,GTerm.size] at hck hct hsk
    obtain ⟨A1,hA1⟩:∃ A1,h1++(bD++(bT++bK++b2))=A1:=⟨_,rfl⟩
    have hA1l:A.length=A1.length:=by rw [<- hA1,<- hAl];simp at hbl ⊢;omega
    rw [hA1l] at e0
    rw [hA1]
    have htk:∀ (j:Nat) (rest:List LV),List.take (i * 4+j) (cD++rest)=cD++rest.take j:=fun j rest=>by
     rw [<- hcDl,List.take_append,List.take_of_length_le (by omega)];simp
    have hdr:∀ (j:Nat) (rest:List LV),List.drop (i * 4+j) (cD++rest)=rest.drop j:=fun j rest=>by
     rw [<- hcDl,List.drop_append];simp
    have hdr2:∀ (rest:List LV),List.drop (i * 4+1+1) (cD++rest)=rest.drop 2:=fun rest=>hdr 2 rest
    have htk0:∀ (rest:List LV),List.take (i * 4) (cD++rest)=cD:=fun rest=>List.take_left' hcDl
    have sT:=Th.share _ _ _ _ hyT
    have sK:=Th.share _ _ _ _ hyK
    have aT:=Th.alive _ _ _ _ hyT
    have aK:=Th.alive _ _ _ _ hyK
    simp (disch:=omega) [e0,e1,e5,hb,Zy,Qg,htk,hdr,hdr2,htk0,sT,sK]
    refine ⟨by omega,by omega,⟨by omega,aT⟩,?_⟩
    obtain ⟨k',hk'⟩:∃ k':Int,k+YY (ks.take i)=k':=⟨_,rfl⟩
    rw [hk']
    rw [show k'+1+1=k'+2 by omega]
    obtain ⟨X,hX⟩:∃ X,X=cD++N k'::N (k'+1)::yT::yK::(c2++List.replicate slack .dead):=⟨_,rfl⟩
    rw [<- hX]
    have MI:=JI (!nl1) nl1 ty (k'+2) (by omega) (h1++bD) (bK++b2++some X::h2) yT bT (by simpa using hyT)
    refine XZ MI (by simp [<- hA1]) ?_
    rintro r h' ⟨rfl,bT',hbT,hyT2,rfl⟩
    obtain ⟨A2,hA2⟩:∃ A2,h1++bD++bT'++(bK++b2)=A2:=⟨_,rfl⟩
    have hA2l:A1.length=A2.length:=by rw [<- hA1,<- hA2];simp;omega
    have hh2:h1++bD++bT'++(bK++b2++some X::h2)=A2++some X::h2:=by rw [<- hA2];simp
    rw [hA2l] at e0
    rw [hh2,hX]
    simp (disch:=omega) [e0,e1,e5,hb,Zy,Qg,htk,hdr,hdr2,htk0,sT,sK]
    refine ⟨⟨by omega,aK⟩,?_⟩
    rw [<- hX]
    have MK:=ih kk (!nl2) nl2 (k'+2+ty.length) (h1++bD++bT') (b2++some X::h2) yK bK (by omega) (by omega) (by omega) (by
     have:(h1++bD++bT').length=h1.length+bD.length+bT.length:=by simp;omega
     rw [this];exact hyK)
    refine XZ MK (by simp [<- hA2]) ?_
    rintro r h' ⟨rfl,bK',hbK,hyK2,rfl⟩
    simp (disch:=omega) [e0,e1,e5,Qg,h6]
    refine ⟨by omega,cD++[N k',N (k'+1),yT,yK],bD++(bT'++bK'),c2,b2,by simp [hX],by simp at hbl ⊢;omega,?_,?_⟩
    ·rw [List.take_succ_eq_append_getElem h6,hki,Znw,ZI,List.map_append,<- ZI,hk']
     refine ZhF.2 ⟨cD,bD,_,_,rfl,rfl,hD,?_⟩
     simp only [List.map_cons,List.map_nil,mkT,GTerm.ownF,Xn]
     refine ⟨_,bT'++bK',[],[],rfl,thT.2 ⟨yT,bT',yK,bK',rfl,rfl,by simpa using hyT2,?_⟩,⟨rfl,rfl⟩,by simp,by simp⟩
     simpa [Nat.add_assoc] using hyK2
    ·have:h1.length+(bD++(bT'++bK')).length=h1.length+bD.length+(bT++bK).length:=by simp;omega
     rw [this];exact hR2
   ·have hb:ltB (i:Int) ks.length=false:=by rw [Qd];omega
    have hik:i=ks.length:=by omega
    have e:=List.take_of_length_le (l:=ks) (i:=i) (by omega)
    rw [e] at hD e1
    rw [List.drop_of_length_le (by omega)] at hR
    simp only [Xu,Xn] at hR
    obtain ⟨rfl,rfl⟩:=hR
    simp (disch:=omega) [e0,e1,e5,hb]
    refine QM (.inr rfl) (by simp at hbl ⊢;rw [<- hA];simp;omega) ?_
    refine ⟨by simp,bD++[some (cD++List.replicate slack .dead)],by simp at hbl ⊢;omega,?_,by simp⟩
    simp only [Th]
    refine .inr ⟨trivial,?_,cD,bD,slack,cap,hD,by simpa using hcap,?_,rfl⟩
    ·intro h
     have:=congrArg List.length h
     rw [K3,V9] at this
     exact hne (by rw [ZI,List.eq_nil_of_length_eq_zero this];rfl)
    ·simp at hbl ⊢
     omega
def topT (k:Int):GTerm->GTerm
 | .mk op n nl1 ty nl2 ks=>.mk op n nl1 (Wt mI k ty.length) nl2 (Vg (k+ty.length) ks)
def GTerm.tcnt:GTerm->Nat
 | .mk _ _ _ ty _ ks=>ty.length+YY ks
theorem ZiJ (t:GTerm) (k:Int) (h1 h2:List Box) (cs:List LV) (bs:List Box) (hk:0<=k∧k+t.tcnt<=4611686018427387904) (hs:t.size<=1000000000000000) (ht:WQ t.ownF h1.length cs bs) :
  QE Tryz.prog Kz [.agg cs,N k] (h1++bs++h2) (fun r h'=>r=N (k+t.tcnt)∧∃ bs' ex,bs'.length=bs.length∧WQ (topT k t).ownF h1.length cs bs'∧h'=h1++bs'++h2++ex):=by
 obtain ⟨op,n,nl1,ty,nl2,ks⟩:=t
 simp only [GTerm.ownF,GTerm.tcnt,GTerm.size,topT] at *
 obtain ⟨yT,bT,yK,bK,rfl,rfl,hT,hK⟩:=thT.1 ht
 have sT:=Th.share _ _ _ _ hT
 have sK:=Th.share _ _ _ _ hK
 have m1:=fun X=>JI (!nl1) nl1 ty k (by omega) h1 (bK++X) yT bT hT
 have m2:=fun (bT':List Box) (hl:bT'.length=bT.length) X=>ZgA (WB ks) ks (!nl2) nl2 (k+ty.length) (h1++bT') X yK bK (Nat.le_refl _) (by omega) (by omega) (by rw [List.length_append,hl];exact hK)
 refine QE.of_codeOf Zi8 Qx (by simp) ?_ ?_
 ·obtain ⟨r1,_,rfl,c1,l1,g1,rfl⟩:=(m1 []).2.1
  obtain ⟨r2,_,rfl,c2,l2,g2,rfl⟩:=(m2 c1 l1 []).2.1
  exact ⟨_,_,rfl,c1++c2,[],by simp [l1,l2],thT.2 ⟨yT,c1,yK,c2,rfl,rfl,g1,by rw [List.length_append] at g2;exact g2⟩,rfl⟩
 ·simp (disch:=omega) [ZdF,Qt,Qo,sT,sK]
  refine XZ (m1 (h2++[none])) (by simp) ?_
  rintro r h' ⟨rfl,c1,l1,g1,rfl⟩
  simp (disch:=omega) [sT,sK]
  refine XZ (m2 c1 l1 (h2++[none])) (by simp) ?_
  rintro r h' ⟨rfl,c2,l2,g2,rfl⟩
  simp (disch:=omega) [sT,sK]
  refine QM (.inr rfl) (by simp;omega) ?_
  exact ⟨by simp;omega,c1++c2,by simp [l1,l2],thT.2 ⟨yT,c1,yK,c2,rfl,rfl,g1,by rw [List.length_append] at g2;exact g2⟩,[none],by simp⟩
theorem Zps (ctx:Wk) (k:Int) (h1 h2:List Box) (y:LV) (bs:List Box) (hk:0<=k∧k+cws ctx<=4611686018427387904) (hkl:ctx.length<=1000000000000000) (ht:Th ctx.own h1.length y bs) :
  QE Tryz.prog Vw [y,N k] (h1++bs++h2) (fun r h'=>r=N (k+cws ctx)∧∃ bs',bs'.length=bs.length∧h'=h1++bs'++h2):=by
 simp only [Wk.own,Th] at ht
 rcases ht with ⟨hnil,rfl,rfl⟩ | ⟨_,hne,cells,bs',slack,cap,hrow,hcap,rfl,rfl⟩
 ·have hks:ctx=[]:=by simpa using hnil
  subst hks
  refine QE.of_codeOf Zcq Qx (by simp) ⟨_,_,rfl,[],rfl,rfl⟩ ?_
  simp (disch:=omega) [VB]
  refine Wf 0 0 (fun i t h=>t 5=N 0∧t 1=N k∧h=h1++h2) (by simp) (by omega) ?_
  rintro i t1 hh hf hi ⟨e5,e1,rfl⟩
  (have e0:=hf 0 (by kernel_rfl);clear hf;simp [] at e0)
  simp (disch:=omega) [e0,e1,e5]
  refine QM (.inr rfl) (by simp) ?_
  simp [cws]
 ·rw [List.length_map] at hcap
  obtain ⟨A,hA⟩:∃ A,h1++bs'=A:=⟨_,rfl⟩
  have hAl:h1.length+bs'.length=A.length:=by rw [<- hA];simp
  have hh0:h1++(bs'++[some (cells++List.replicate slack .dead)])++h2=A++some (cells++List.replicate slack .dead)::h2:=by rw [<- hA];simp
  rw [hh0,hAl]
  refine QE.of_codeOf Zcq Qx (by simp) ⟨_,_,rfl,bs'++[some (cells++List.replicate slack .dead)],rfl,rfl⟩ ?_
  simp (disch:=omega) [VB]
  refine Wf ctx.length 0 (fun i t h=>t 5=N i∧t 1=N (k+cws (ctx.take i))∧∃ cD bD cR bR,h=h1++(bD++bR)++some (cD++(cR++List.replicate slack .dead))::h2∧bD.length+bR.length=bs'.length ∧
   cD.length=i∧Xn ((ctx.drop i).map fun c=>[OU true false c.2]) 1 (h1.length+bD.length) cR bR) ?_ (by omega) ?_
  ·refine ⟨by simp,by simp [cws],[],[],cells,bs',by rw [<- hA];simp,by simp,by simp,by simpa using hrow⟩
  rintro i t1 hh hf hi ⟨e5,e1,cD,bD,cR,bR,rfl,hbl,hcDl,hR⟩
  (have e0:=hf 0 (by kernel_rfl);clear hf;simp [] at e0)
  have hcw:∀ j,cws (ctx.take j)<=cws ctx:=fun j=>by
   have:∀ a b:Wk,cws (a++b)=cws a+cws b:=fun a b=>by
    induction a with
    | nil=>simp [cws]
    | cons x a ih=>simp [cws,ih];omega
   have:=this (ctx.take j) (ctx.drop j)
   rw [List.take_append_drop] at this;omega
  by_cases h6:i < ctx.length
  ·have hb:ltB (i:Int) ctx.length=true:=by rw [Qf];omega
   have hct:cws (ctx.take (i+1))=cws (ctx.take i)+(ctx[i]).2.length:=by
    have:∀ (a:Wk) (x:Bool×List Int),cws (a++[x])=cws a+x.2.length:=fun a x=>by
     induction a with
     | nil=>simp [cws]
     | cons y a ih=>simp [cws,ih];omega
    rw [List.take_succ_eq_append_getElem h6,this]
   have hci:=hcw (i+1)
   rw [List.drop_eq_getElem_cons h6] at hR
   simp only [List.map_cons,Xn,WQ] at hR
   obtain ⟨c1,b1,c2,b2,_,⟨yT,bT,_,_,hyT,⟨rfl,rfl⟩,rfl,rfl⟩,hR2,rfl,rfl⟩:=hR
   simp only [List.append_nil] at hR2
   obtain ⟨A1,hA1⟩:∃ A1,h1++(bD++(bT++[]++b2))=A1:=⟨_,rfl⟩
   have hA1l:A.length=A1.length:=by rw [<- hA1,<- hAl];simp at hbl ⊢;omega
   rw [hA1l] at e0
   rw [hA1]
   have hdr0:∀ (rest:List LV),List.drop i (cD++rest)=rest:=fun rest=>List.drop_left' hcDl
   have sT:=Th.share _ _ _ _ hyT
   have aT:=Th.alive _ _ _ _ hyT
   simp (disch:=omega) [e0,e1,e5,hb,Zy,Qg,hdr0,sT]
   refine ⟨⟨by omega,aT⟩,?_⟩
   have MI:=JI true false (ctx[i]).2 (k+cws (ctx.take i)) (by omega) (h1++bD) (b2++some (cD++yT::(c2++List.replicate slack .dead))::h2) yT bT (by simpa using hyT)
   refine XZ MI (by simp [<- hA1]) ?_
   rintro r h' ⟨rfl,bT',hbT,hyT2,rfl⟩
   simp (disch:=omega) [e0,e1,e5,Qg,h6]
   refine ⟨by omega,cD++[yT],bD++bT',c2,b2,by simp,by simp at hbl ⊢;omega,by simp [hcDl],?_⟩
   have:h1.length+(bD++bT').length=h1.length+bD.length+bT.length:=by simp;omega
   rw [this];simpa using hR2
  ·have hb:ltB (i:Int) ctx.length=false:=by rw [Qd];omega
   have hik:i=ctx.length:=by omega
   have e:=List.take_of_length_le (l:=ctx) (i:=i) (by omega)
   rw [e] at e1
   simp (disch:=omega) [e0,e1,e5,hb]
   refine QM (.inr rfl) (by simp at hbl ⊢;rw [<- hA];simp;omega) ⟨by simp,bD++bR++[some (cD++(cR++List.replicate slack .dead))],by simp at hbl ⊢;omega,by simp⟩
theorem ZoN (d:Nat):∀ (ks:List GTerm) (nl:Bool) (k:Int),WB ks<=d->0<=k∧k+YY ks<=4611686018427387904->WB ks<=1000000000000000 ->
  Qe Tryz.prog Ka [.sl false nl 4 (Q9 (Vg k ks)),N k] (·=N (k+YY ks)):=by
 induction d with
 | zero =>
  intro ks nl k hsz hk _
  have hks:ks=[]:=List.eq_nil_of_length_eq_zero (by have:=Zco ks;omega)
  subst hks
  refine Qe.of_codeOf Zcs Qx (by simp) ⟨_,rfl,by simp⟩ ?_
  simp (disch:=omega) [Vq]
  refine Wf 0 0 (fun i t _=>t 5=N 0∧t 1=N k) (by simp) (by omega) ?_
  rintro i t1 hh hf hi ⟨e5,e1⟩
  (have e0:=hf 0 (by kernel_rfl);clear hf;simp [] at e0)
  simp (disch:=omega) [e0,e1,e5,Vg,Q9,YY]
 | succ d ih =>
  intro ks nl k hsz hk hs
  have hkl:=Zco ks
  refine Qe.of_codeOf Zcs Qx (by simp) ⟨_,rfl,by simp⟩ ?_
  simp (disch:=omega) [Vq]
  refine Wf ks.length 0 (fun i t _=>t 5=N i∧t 1=N (k+YY (ks.take i))) (by simp [YY]) (by omega) ?_
  rintro i t1 hh hf hi ⟨e5,e1⟩
  (have e0:=hf 0 (by kernel_rfl);clear hf;simp [] at e0)
  by_cases h6:i < ks.length
  ·have hb:ltB (i:Int) ks.length=true:=by rw [Qf];omega
   have hck:=Zse h6
   have hct:=ZhU h6
   have hsk:=YM h6
   have hix:=Wq (Vg k ks) false nl i (by simpa using h6)
   rw [Zp4 ks k i h6] at hix
   obtain ⟨⟨op,n,nl1,ty,nl2,kk⟩,hki⟩:∃ g,ks[i]=g:=⟨_,rfl⟩
   rw [hki] at hix hck hct hsk
   simp only [GTerm.cnt,GTerm.size,mkT,GTerm.cells] at hix hck hct hsk
   obtain ⟨k',hk'⟩:∃ k':Int,k+YY (ks.take i)=k':=⟨_,rfl⟩
   rw [hk'] at hix e1
   have HI:=Zd0 nl1 (k'+2) ty.length (by omega)
   have HK:=ih kk nl2 (k'+2+ty.length) (by omega) (by omega) (by omega)
   have q1:eqB k' k'=true:=by rw [Qc]
   have q2:eqB (k'+1) (k'+1)=true:=by rw [Qc]
   have q3:ltB (k'+2+(ty.length:Int)) 0=false:=by rw [Qd];omega
   have q4:ltB (k'+2+(ty.length:Int)+(YY kk:Int)) 0=false:=by rw [Qd];omega
   have e12:k'+1+1=k'+2:=by omega
   simp (disch:=omega) [e0,e1,e5,hb,hix,q1,q2,Qg,e12]
   refine Qa HI (by simp) ?_
   simp (disch:=omega) [e0,e1,e5,hix,q3]
   refine Qa HK (by simp) ?_
   simp (disch:=omega) [e0,e1,e5,hix,q4,Qg,h6]
   omega
  ·have hb:ltB (i:Int) ks.length=false:=by rw [Qd];omega
   have e:=List.take_of_length_le (l:=ks) (i:=i) (by omega)
   rw [e] at e1
   simp (disch:=omega) [e0,e1,e5,hb]
theorem ZqI (t:GTerm) (k:Int) (hk:0<=k∧k+t.tcnt<=4611686018427387904) (hs:t.size<=1000000000000000):Qe Tryz.prog Ks [(topT k t).lv,N k] (·=N (k+t.tcnt)):=by
 obtain ⟨op,n,nl1,ty,nl2,ks⟩:=t
 simp only [GTerm.tcnt,GTerm.size,topT,GTerm.lv,GTerm.cells] at *
 have HI:=Zd0 nl1 k ty.length (by omega)
 have HK:=ZoN (WB ks) ks nl2 (k+ty.length) (Nat.le_refl _) (by omega) (by omega)
 have q3:ltB (k+(ty.length:Int)) 0=false:=by rw [Qd];omega
 have q4:ltB (k+(ty.length:Int)+(YY ks:Int)) 0=false:=by rw [Qd];omega
 refine Qe.of_codeOf Zji Qx (by simp) ⟨_,rfl,by simp⟩ ?_
 simp (disch:=omega) [Zdu,Qt,Qo]
 refine Qa HI (by simp) ?_
 simp (disch:=omega) [q3]
 refine Qa HK (by simp) ?_
 simp (disch:=omega) [q4]
 omega
abbrev nT:List Int:=tabL (nTm 1) 3 3 0
abbrev nilS:LV:=.sl true true 1 []
theorem ZbI {h h1 bs h2:List Box} {t y:LV} (hw:QB t) (ht:Th t h1.length y bs) (he:h=h1++bs++h2):YU h (share t) y :=
 Th.view h _ y _ bs hw ht fun i b hi=>by
  rw [he,List.append_assoc,List.getElem?_append_right (by omega),Nat.add_sub_cancel_left,List.getElem?_append_left]
  ·exact hi
  ·rcases Nat.lt_or_ge i bs.length with g | g
   ·exact g
   ·rw [List.getElem?_eq_none g] at hi;simp at hi
theorem Zcu {h:List Box} {xs ys:List LV} (k:WW h xs ys):YU h (.agg xs) (.agg ys):=by simp only [YU];exact ⟨ys,rfl,k⟩
theorem Zir (h:List Box) (s:GSys):WW h s.cells s.cells :=
 QC Zc6 (QC (ZaM (by simp) (by simp)) (QC (ZaM (by simp) (by simp)) (QC (ZaM (by simp) (by simp)) Wx)))
theorem ZqD (h:List Box) (nl:Bool) (c:Wk):YU h (LC nl c) (LC nl c):=ZaM (by simp) (by simp)
theorem ZaG (h:List Box):∀ g:GTerm,WW h g.cells g.cells
 | .mk op n nl1 ty nl2 ks=>by
  simp only [GTerm.cells]
  exact QC Zc6 (QC Zc6 (QC (ZaM (by simp) (by simp)) (QC (ZaM (by simp) (by simp)) Wx)))
theorem ZnV (c:Wk):QB c.own:=by
 simp only [Wk.own,QB]
 refine ⟨?_,?_⟩
 ·cases c with
  | nil=>simp
  | cons x c=>exact .inr ⟨trivial,trivial,fun r hr=>by obtain ⟨y,_,rfl⟩:=List.mem_map.1 hr;rfl⟩
 ·induction c with
  | nil=>simp [QL]
  | cons x c ih =>
   have w:=Zc (fun n:Int=>Value.int .i64 n) true false x.2 (.inr ⟨rfl,rfl⟩)
   simp only [List.map_cons,QL,QS]
   exact ⟨⟨w,trivial⟩,ih⟩
theorem Znz (s:GSys):QB (.agg s.own):=by
 have w1:=Zc (fun n:Int=>Value.int .i64 n) true false s.plus (.inr ⟨rfl,rfl⟩)
 have w2:=Zc (fun n:Int=>Value.int .i64 n) true false s.times (.inr ⟨rfl,rfl⟩)
 have w3:=Zc (fun n:Bool=>Value.bool n) true false s.below (.inr ⟨rfl,rfl⟩)
 simp only [GSys.own,QB,QS] at w1 w2 w3 ⊢
 exact ⟨trivial,w1,w2,w3,trivial⟩
mutual
theorem ZhV:∀ t:GTerm,QS t.own
 | .mk op n nl1 ty nl2 ks=>by
  have h:=Zgm ks
  have w:=Zc (fun n:Int=>Value.int .i64 n) true false ty (.inr ⟨rfl,rfl⟩)
  simp only [GTerm.own,QS,QB] at w ⊢
  refine ⟨trivial,trivial,w,⟨?_,h⟩,trivial⟩
  cases ks with
  | nil=>simp [Zbu]
  | cons k ks=>exact .inr ⟨trivial,trivial,fun r hr=>by rw [Zjz] at hr;obtain ⟨g,_,rfl⟩:=List.mem_map.1 hr;simp⟩
theorem Zgm:∀ ks:List GTerm,QL (Zbu ks)
 | []=>by simp [Zbu,QL]
 | t::ks=>by simp only [Zbu,QL];exact ⟨ZhV t,Zgm ks⟩
end
theorem Zin:∀ {xs:List LV} {n:Nat} {ys:List LV} {bs:List Box},WQ xs n ys bs->WK ys=true
 | [],n,ys,bs,h=>by simp only [WQ] at h;simp [h.1,WK]
 | x::xs,n,ys,bs,h=>by
  simp only [WQ] at h
  obtain ⟨y,b1,ys',b2,h1,h2,rfl,_⟩:=h
  simp [WK,Th.alive _ _ _ _ h1,Zin h2]
theorem th4 {xs:List LV} {n:Nat} {y:LV} {bs:List Box} (h:Th (.agg xs) n y bs) (hl:xs.length=4):∃ a b c d,y=.agg [a,b,c,d]∧WQ xs n [a,b,c,d] bs∧(share a=a∧share b=b∧share c=c∧share d=d)∧(a.alive=true∧b.alive=true∧c.alive=true∧d.alive=true):=by
 have hs:=Th.share _ _ _ _ h
 simp only [Th] at h
 obtain ⟨ys,rfl,h⟩:=h
 obtain ⟨a,b,c,d,rfl⟩:=len4 ((Zh0 h).trans hl)
 have ha:=Zin h
 simp only [share,shareAll,LV.agg.injEq,List.cons.injEq,and_true] at hs
 simp only [WK,Bool.and_eq_true,and_true] at ha
 exact ⟨a,b,c,d,rfl,h,hs,ha⟩
theorem ZrR (s:GSys) (k:Int) (h1 h2:List Box) (p0 p1 p2 p3:LV) (bs:List Box) (hk:0<=k∧k+s.w<=4611686018427387904) (ht:WQ s.own h1.length [p0,p1,p2,p3] bs) :
  QE Tryz.prog Z0 [.agg [p0,p1,p2,p3],N k] (h1++bs++h2) (fun r h'=>r=N (k+s.w)∧∃ bs' ex,bs'.length=bs.length∧h'=h1++bs'++h2++ex):=by
 simp only [GSys.own,WQ] at ht
 obtain ⟨y0,c0,_,_,t0,⟨y1,c1,_,_,t1,⟨y2,c2,_,_,t2,⟨y3,c3,_,_,t3,⟨rfl,rfl⟩,rfl,rfl⟩,rfl,rfl⟩,rfl,rfl⟩,he,rfl⟩:=ht
 simp only [Th] at t0
 obtain ⟨rfl,rfl⟩:=t0
 simp only [List.cons.injEq,and_true] at he
 obtain ⟨rfl,rfl,rfl,rfl⟩:=he
 unfold GSys.w at hk
 have:=ZmF true false true false true false s.size s.plus s.times s.below k (by omega) h1 h2 _ _ _ c1 c2 c3 (by simpa using t1) (by simpa using t2) (by simpa [Nat.add_assoc] using t3)
 have e:h1++([]++(c1++(c2++(c3++[]))))++h2=h1++c1++c2++c3++h2:=by simp
 rw [e]
 refine this.mono fun r h' hr=>?_
 obtain ⟨rfl,d1,d2,d3,l1,l2,l3,_,_,_,ex,rfl⟩:=hr
 exact ⟨by unfold GSys.w;simp only [LV.sc.injEq,Value.int.injEq,true_and];push_cast;omega,d1++d2++d3,ex,by simp [l1,l2,l3],by simp⟩
mutual
theorem ZhK:∀ (t:GTerm) (n:Nat) (c:List LV) (b:List Box),WQ t.ownF n c b->QS t.ownF
 | .mk op m nl1 ty nl2 ks,n,c,b,h=>by
  simp only [GTerm.ownF] at h ⊢
  obtain ⟨yT,bT,yK,bK,rfl,rfl,h1,h2⟩:=thT.1 h
  have w1:QB (OU (!nl1) nl1 ty):=Zc (fun n:Int=>Value.int .i64 n) (!nl1) nl1 ty (by
   rcases (Zay (fun n:Int=>Value.int .i64 n)).1 h1 with ⟨rfl,_⟩ | ⟨rfl,_⟩
   ·exact .inl rfl
   ·exact .inr ⟨rfl,rfl⟩)
  have w2:QB (.sl (!nl2) nl2 4 (Xu ks)):=by
   simp only [Th] at h2
   simp only [QB]
   rcases h2 with ⟨hn,_⟩ | ⟨rfl,_,cells,bs',_,_,hrow,_⟩
   ·exact ⟨.inl hn,by rw [hn];simp [QL]⟩
   ·exact ⟨.inr ⟨rfl,rfl,fun r hr=>by rw [ZI] at hr;obtain ⟨g,_,rfl⟩:=List.mem_map.1 hr;simp⟩,Zns ks _ _ _ hrow⟩
  simp only [QS,QB] at w1 w2 ⊢
  exact ⟨trivial,trivial,w1,w2,trivial⟩
theorem Zns:∀ (ks:List GTerm) (n:Nat) (c:List LV) (b:List Box),Xn (Xu ks) 4 n c b->QL (Xu ks)
 | [],_,_,_,_=>by simp [Xu,QL]
 | t::ks,n,c,b,h=>by
  simp only [Xu,Xn,QL] at h ⊢
  obtain ⟨c1,b1,c2,b2,_,h1,h2,_⟩:=h
  exact ⟨ZhK t _ _ _ h1,Zns ks _ _ _ h2⟩
end
mutual
theorem Zsl:∀ t:GTerm,t.wf->t.cnt<=1099511627779 * t.size
 | .mk op n nl1 ty nl2 ks,h=>by
  simp only [GTerm.wf] at h
  have:=Zkt ks h.2.2.2.2
  have:=h.2.2.1.1
  simp only [GTerm.cnt,GTerm.size];omega
theorem Zkt:∀ ks:List GTerm,wfs ks->YY ks<=1099511627779 * WB ks
 | [],_=>by simp [YY]
 | k::ks,h=>by
  simp only [wfs] at h
  have:=Zsl k h.1
  have:=Zkt ks h.2
  simp only [YY,WB];omega
end
theorem Zqu (t:GTerm):t.tcnt<=t.cnt:=by cases t;simp [GTerm.tcnt,GTerm.cnt]
mutual
theorem w_cnt:∀ t:GTerm,t.norm.cnt<=2+3 * t.w∧t.norm.size<=1+t.w
 | .mk op n nl1 ty nl2 ks=>by
  have:=Zq9 ks
  simp only [GTerm.norm,GTerm.cnt,GTerm.size,GTerm.w];omega
theorem Zq9:∀ ks:List GTerm,YY (Yn ks)<=3 * (ks.length+tws ks)∧WB (Yn ks)<=ks.length+tws ks
 | []=>by simp [Yn,YY,WB]
 | k::ks=>by
  have:=w_cnt k
  have:=Zq9 ks
  simp only [Yn,YY,WB,tws,List.length_cons];omega
end
mutual
theorem ZsE:∀ (t:GTerm),t.norm.fl
 | .mk op n nl1 ty nl2 ks=>by simp only [GTerm.norm,GTerm.fl];exact ⟨fun h=>by simp at h,ZjL ks⟩
theorem ZjL:∀ (ks:List GTerm),fls (Yn ks)
 | []=>by simp [Yn,fls]
 | k::ks=>by simp only [Yn,fls];exact ⟨ZsE k,ZjL ks⟩
end
mutual
theorem th_share:∀ (x x':LV) (n:Nat) (y:LV) (bs:List Box),Th x n y bs->QB x'->share x=share x'->Th x' n y bs
 | .sc v,x',n,y,bs,h,w,e=>by
  cases x'<;>simp [QB] at w<;>simp [share] at e
  subst e;exact h
 | .sl u nl sz Qj,x',n,y,bs,h,w,e=>by
  cases x'<;>simp [QB] at w<;>simp [share] at e
  rename_i u' nl' sz' rows'
  obtain ⟨rfl,rfl,e⟩:=e
  simp only [Th] at h ⊢
  rcases h with ⟨rfl,h⟩ | ⟨h1,h2,cells,bs',slack,cap,h3,h4⟩
  ·have:rows'=[]:=by
    cases rows' with
    | nil=>rfl
    | cons a b=>simp [Qv] at e
   exact .inl ⟨this,h⟩
  ·have hl:Qj.length=rows'.length:=by
    have:=congrArg List.length e
    simpa [Xc] using this
   have hn:rows'≠[]:=by
    intro e0;subst e0;exact h2 (List.eq_nil_of_length_eq_zero (by simpa using hl))
   exact .inr ⟨h1,hn,cells,bs',slack,cap,ZiB _ _ _ _ _ _ h3 w.2 e,by rw [<- hl];exact h4⟩
 | .agg xs,x',n,y,bs,h,w,e=>by
  cases x'<;>simp [QB] at w<;>simp [share] at e
  simp only [Th] at h ⊢
  obtain ⟨ys,h1,h2⟩:=h
  exact ⟨ys,h1,VZ _ _ _ _ _ h2 w e⟩
 | .tup xs,x',n,y,bs,h,w,e=>by
  cases x'<;>simp [QB] at w<;>simp [share] at e
  simp only [Th] at h ⊢
  obtain ⟨ys,h1,h2⟩:=h
  exact ⟨ys,h1,VZ _ _ _ _ _ h2 w e⟩
 | .ha ..,x',n,y,bs,h,w,e=>by simp [Th] at h
 | .raw ..,x',n,y,bs,h,w,e=>by simp [Th] at h
 | .ptr ..,x',n,y,bs,h,w,e=>by simp [Th] at h
 | .rp ..,x',n,y,bs,h,w,e=>by simp [Th] at h
 | .fn ..,x',n,y,bs,h,w,e=>by simp [Th] at h
 | .fnm ..,x',n,y,bs,h,w,e=>by simp [Th] at h
 | .dead,x',n,y,bs,h,w,e=>by simp [Th] at h
 | .both ..,x',n,y,bs,h,w,e=>by simp [Th] at h
theorem VZ:∀ (x x':List LV) (n:Nat) (y:List LV) (bs:List Box),WQ x n y bs->QS x'->shareAll x=shareAll x'->WQ x' n y bs
 | [],x',n,y,bs,h,w,e=>by
  cases x' with
  | nil=>exact h
  | cons a b=>simp [shareAll] at e
 | x::xs,x',n,y,bs,h,w,e=>by
  cases x' with
  | nil=>simp [shareAll] at e
  | cons a b =>
   simp only [shareAll,List.cons.injEq] at e
   simp only [QS] at w
   simp only [WQ] at h ⊢
   obtain ⟨y,b1,ys',b2,h1,h2,h3⟩:=h
   exact ⟨y,b1,ys',b2,th_share _ _ _ _ _ h1 w.1 e.1,VZ _ _ _ _ _ h2 w.2 e.2,h3⟩
theorem ZiB:∀ (x x':List (List LV)) (sz n:Nat) (y:List LV) (bs:List Box),Xn x sz n y bs->QL x'->Qv x=Qv x'->Xn x' sz n y bs
 | [],x',sz,n,y,bs,h,w,e=>by
  cases x' with
  | nil=>exact h
  | cons a b=>simp [Qv] at e
 | x::xs,x',sz,n,y,bs,h,w,e=>by
  cases x' with
  | nil=>simp [Qv] at e
  | cons a b =>
   simp only [Qv,List.cons.injEq] at e
   simp only [QL] at w
   simp only [Xn] at h ⊢
   obtain ⟨c1,b1,c2,b2,h0,h1,h2,h3⟩:=h
   have hl:x.length=a.length:=by
    have:=congrArg List.length e.1
    simpa [We] using this
   exact ⟨c1,b1,c2,b2,by rw [<- hl];exact h0,VZ _ _ _ _ _ h1 w.1 e.1,ZiB _ _ _ _ _ _ h2 w.2 e.2,h3⟩
end
mutual
theorem Zkg:∀ (t:GTerm) (cs:List LV),QS cs->shareAll cs=t.cells->QS t.ownF
 | .mk op n nl1 ty nl2 ks,cs,h,e=>by
  simp only [GTerm.cells] at e
  obtain ⟨a,b,c,d,rfl⟩:=len4 (show cs.length=4 by rw [<- We,e];rfl)
  simp only [shareAll,List.cons.injEq,and_true] at e
  obtain ⟨_,_,e3,e4⟩:=e
  simp only [QS,and_true] at h
  obtain ⟨_,_,hc,hd⟩:=h
  cases c<;>simp [QB] at hc<;>simp [share] at e3
  rename_i u1 m1 z1 rows1
  obtain ⟨rfl,rfl,e3⟩:=e3
  cases d<;>simp [QB] at hd<;>simp [share] at e4
  rename_i u2 m2 z2 rows2
  obtain ⟨rfl,rfl,e4⟩:=e4
  have w:=Zc (fun n:Int=>Value.int .i64 n) (!m1) m1 ty (by
   rcases hc.1 with rfl | ⟨_,rfl,_⟩
   ·left
    cases ty with
    | nil=>rfl
    | cons a b=>simp [Qv] at e3
   ·exact .inr ⟨rfl,rfl⟩)
  have h2:=ZiP ks rows2 hd.2 e4
  simp only [GTerm.ownF,QS,QB] at w ⊢
  refine ⟨trivial,trivial,w,⟨?_,h2⟩,trivial⟩
  rcases hd.1 with rfl | ⟨_,rfl,_⟩
  ·left
   cases ks with
   | nil=>rfl
   | cons a b=>simp [Qv,Q9] at e4
  ·exact .inr ⟨rfl,rfl,fun r hr=>by rw [ZI] at hr;obtain ⟨g,_,rfl⟩:=List.mem_map.1 hr;simp⟩
theorem ZiP:∀ (ks:List GTerm) (Qj:List (List LV)),QL Qj->Qv Qj=Q9 ks->QL (Xu ks)
 | [],Qj,_,_=>by simp [Xu,QL]
 | t::ks,Qj,h,e=>by
  cases Qj with
  | nil=>simp [Qv,Q9] at e
  | cons r Qj =>
   simp only [Qv,Q9,List.cons.injEq] at e
   simp only [QL] at h
   simp only [Xu,QL];exact ⟨Zkg t r h.1 e.1,ZiP ks Qj h.2 e.2⟩
end
theorem th_isTF {v:GTerm} {r y:LV} {n:Nat} {bs:List Box} (h:isTF v r) (hw:QB r) (ht:Th r n y bs):∃ (w:GTerm) (ys:List LV),w.nm=v.nm∧w.fl∧y=.agg ys∧WQ w.ownF n ys bs:=by
 obtain ⟨w,cs,rfl,h1,h2,h3⟩:=h
 simp only [QB] at hw
 simp only [Th] at ht
 obtain ⟨ys,rfl,ht⟩:=ht
 exact ⟨w,ys,h2,h3,rfl,VZ _ _ _ _ _ ht (Zkg w cs hw h1) (by rw [h1,ZcU])⟩
mutual
theorem Zo3:∀ a:GTerm,a.nm.wf->a.wf
 | .mk op n nl1 ty nl2 ks,h=>by
  simp only [GTerm.wf,GTerm.nm] at *
  exact ⟨h.1,h.2.1,h.2.2.1,by have:=h.2.2.2.1;rw [Zkk] at this;exact this,ZpH ks h.2.2.2.2⟩
theorem ZpH:∀ a:List GTerm,wfs (nms a)->wfs a
 | [],_=>by simp [wfs]
 | a::a',h=>by
  simp only [wfs,nms] at *
  exact ⟨Zo3 a h.1,ZpH a' h.2⟩
end
theorem Zof:∀ {ks:List GTerm},wfs ks->∀ k∈ks,k.wf
 | [],_,k,h=>by simp at h
 | a::ks,w,k,h=>by
  simp only [wfs] at w
  rcases List.mem_cons.1 h with rfl | h
  ·exact w.1
  ·exact Zof w.2 k h
theorem Zsf:∀ {ks:List GTerm},(∀ k∈ks,k.raw)->raws ks
 | [],_=>by simp [raws]
 | a::ks,h=>by
  simp only [raws]
  exact ⟨h a (by simp),Zsf fun k hk=>h k (by simp [hk])⟩
structure EO where
 v:GTerm
 bk:List Int
 ok:Bool
def Zch (o:Option (GTerm×List Int)):EO:=match o with
 | none=>⟨noT,[],false⟩
 | some (v,bk)=>⟨v,bk,true⟩
def isEvU (o:EO) (r:LV):Prop:=∃ z u nl,r=.tup [z,OU u nl o.bk,B o.ok]∧isTF o.v z
theorem isEv.uni {o:Option (GTerm×List Int)} {r:LV} (h:isEv o r) (lo:Low 0 r):∃ r',nz r'=nz r∧(isEvU (Zch o) r'∧(QB r->QB r'))∧Low 0 r':=by
 cases o with
 | none =>
  obtain ⟨u,u1,u2,rfl⟩:=h
  refine ⟨.tup [.agg noT.ownC,.sl u true 1 [],B false],by simp [noT,GTerm.ownC,Zac,nz,YA],⟨⟨_,u,true,rfl,noT.nm,_,rfl,Za3 _,by simp [Zch,noT,GTerm.nm,nms],by simp [noT,GTerm.nm,nms,GTerm.fl,flOk,fls]⟩,fun _=>?_⟩,by simp⟩
  have:=Zc1 noT
  simp [QB,QS,QL] at this ⊢
  exact this
 | some p =>
  obtain ⟨v,bk⟩:=p
  obtain ⟨z,u,nl,rfl,hz⟩:=h
  exact ⟨_,rfl,⟨⟨z,u,nl,rfl,hz⟩,id⟩,lo⟩
theorem evalU_ok {s:GSys} {ctx:Wk} {g:GTerm} {vs:List GTerm} (a:Arg s ctx g) (vf:∀ v∈vs,v.fl):(Zch (Zdz s ctx g vs)).v.wf∧(Zch (Zdz s ctx g vs)).v.size<=400∧(Zch (Zdz s ctx g vs)).bk.length<=8:=by
 have nn:(Zch none).v.wf∧(Zch none).v.size<=400∧(Zch none).bk.length<=8:=by simp [Zch,noT,GTerm.wf,GTerm.size,wfs,WB,I64,Lok]
 unfold Zdz
 cases hx:ZdP s ctx g with
 | none=>exact nn
 | some x =>
  simp only
  split
  ·rename_i hl
   split
   ·rename_i hv
    obtain ⟨hs,_,val⟩:=Zox a hx hl hv vf
    obtain ⟨_,h8,_,ty,_⟩:=Zf7 a hx
    obtain ⟨gx,_⟩:=VE a ty
    have h40:=QK gx.1
    unfold evO
    cases ht:Xg s 3001 0 (valσ vs) g (List.range vs.length) 1 with
    | stuck=>exact nn
    | fail=>exact nn
    | ok l σ v =>
     have V:=val l σ v ht
     have sz:=V.size
     refine ⟨V.wf hs,by show v.size<=400;omega,?_⟩
     simp [Zch];omega
   ·exact nn
  ·exact nn
theorem Zq5 {s:GSys} {ctx:Wk} {g:GTerm} {vs:List GTerm} (a:Arg s ctx g) (nlc nlv:Bool) (vw:∀ v∈vs,v.wf) (vf:∀ v∈vs,v.fl) (vl:vs.length<=1099511627776):Qe Tryz.prog ZE [s.lv,LC nlc ctx,g.lv,.sl false nlv 4 (Q9 vs)] (fun r=>isEvU (Zch (Zdz s ctx g vs)) r∧QB r) :=
 Qe.nzR (Qe.low (ZpL a nlc nlv vw vf vl)) fun r h=>by
  obtain ⟨r',h1,h2,h3⟩:=h.1.1.uni h.2
  exact ⟨r',h1,⟨h2.1,h2.2 h.1.2⟩,h3⟩
theorem Zlt {s:GSys} {ctx:Wk} {g:GTerm} {vs:List GTerm} (a:Arg s ctx g) (nlc nlv:Bool) (vw:∀ v∈vs,v.wf) (vf:∀ v∈vs,v.fl) (vl:vs.length<=1099511627776):Qe Tryz.prog Kx [s.lv,LC nlc ctx,g.lv,.sl false nlv 4 (Q9 vs)] (isEvU (Zch (Zdz s ctx g vs))) :=
 Qe.nzR (Qe.low (Zjj a nlc nlv vw vf vl)) fun r h=>by
  obtain ⟨r',h1,h2,h3⟩:=h.1.uni h.2
  exact ⟨r',h1,h2.1,h3⟩
theorem th_ev {o:EO} {r y:LV} {n:Nat} {bs:List Box} (h:isEvU o r) (hw:QB r) (ht:Th r n y bs):∃ (w:GTerm) (a b c d yI:LV) (bz bI:List Box) (nl:Bool),w.nm=o.v.nm∧y=.tup [.agg [a,b,c,d],yI,B o.ok]∧bs=bz++bI∧WQ w.ownF n [a,b,c,d] bz∧(nl=true->o.bk=[])∧Th (OU (!nl) nl o.bk) (n+bz.length) yI bI ∧
  (share a=a∧share b=b∧share c=c∧share d=d∧share yI=yI)∧(a.alive=true∧b.alive=true∧c.alive=true∧d.alive=true):=by
 obtain ⟨z,u,nl,rfl,hz⟩:=h
 simp only [QB,QS] at hw
 obtain ⟨hwz,hwc,_⟩:=hw
 simp only [Th,WQ] at ht
 obtain ⟨ys,rfl,y1,b1,ys1,b2,t1,⟨y2,b3,ys2,b4,t2,⟨y4,b7,ys4,b8,⟨rfl,rfl⟩,⟨rfl,rfl⟩,rfl,rfl⟩,rfl,rfl⟩,rfl,rfl⟩:=ht
 have t2':Th (OU u nl o.bk) (n+b1.length) y2 b3:=by simpa only [Th] using t2
 obtain ⟨w,ys,w1,w2,rfl,w3⟩:=th_isTF hz hwz t1
 obtain ⟨a,b,c,d,e4,_,⟨s1,s2,s3,s4⟩,al⟩:=th4 (xs:=w.ownF) (n:=n) (y:=.agg ys) (bs:=b1) (by simp only [Th];exact ⟨_,rfl,w3⟩) (by simp)
 cases e4
 have sy:=Th.share _ _ _ _ t2'
 refine ⟨w,a,b,c,d,y2,b1,b3,nl,w1,rfl,by simp,w3,?_,?_,⟨s1,s2,s3,s4,sy⟩,al⟩
 ·rintro rfl
  rcases (Zay (fun n:Int=>Value.int .i64 n)).1 t2' with ⟨h,_⟩ | ⟨h,_⟩
  ·exact h
  ·simp at h
 ·exact (Zay (fun n:Int=>Value.int .i64 n)).2 ((Zay (fun n:Int=>Value.int .i64 n)).1 t2')
theorem Zm9 {nl:Bool} {l:List Int} (h:nl=true->l=[]):QB (OU (!nl) nl l):=Zc (fun n:Int=>Value.int .i64 n) _ _ _ (by
 cases nl with
 | true=>exact .inl (h rfl)
 | false=>exact .inr ⟨rfl,rfl⟩)
theorem ZkP (vs:List GTerm):QB (.sl true false 4 (Zbu vs)):=by
 simp only [QB]
 exact ⟨.inr ⟨trivial,trivial,fun r hr=>by rw [Zjz] at hr;obtain ⟨g,_,rfl⟩:=List.mem_map.1 hr;simp⟩,Zgm vs⟩
theorem ZqC (s:GSys) (nlc:Bool) (ctx:Wk) (g:GTerm) (nlv:Bool) (vs:List GTerm) (hs:s.raw) (hc:ctx.raw) (hg:g.raw) (hv:(∀ k∈vs,k.raw)∧vs.length<=9223372036854775807):Qe Tryz.prog K8 [s.lv,LC nlc ctx,g.lv,.sl false nlv 4 (vs.map GTerm.cells)] (·=B true):=by
 rw [<- ZaX]
 refine Qe.of_codeOf Zc7 Qx (by simp) ⟨_,rfl,by simp⟩ ?_
 have whB:∀ b:Bool,∀ r,r=B b->QB r:=by rintro b r rfl;simp [QB]
 have whN:∀ b:Int,∀ r,r=N b->QB r:=by rintro b r rfl;simp [QB]
 have z1:=ZqN s hs 1048576 (by omega) (by omega)
 simp (disch:=omega) [KQ,Qt,Qo]
 refine Qa z1 (by simp) ?_
 simp (disch:=omega)
 (with_reducible first | refine Qk (fun h1=>?_) (fun h1=>?_) | refine Ql (fun h1=>?_) (fun h1=>?_))
 ·simp (disch:=omega)
 simp only [Qf,Qd,Qi,Qh,Qc,Qb,Bool.not_true,Bool.not_false] at h1
 have r1:=X1 (a:=s.w) (m:=1048576) (by omega)
 have z2:=ZrJ nlc ctx hc _ h1 (by omega)
 simp (disch:=omega)
 refine Qa z2 (by simp) ?_
 simp (disch:=omega)
 (with_reducible first | refine Qk (fun h2=>?_) (fun h2=>?_) | refine Ql (fun h2=>?_) (fun h2=>?_))
 ·simp (disch:=omega)
 simp only [Qf,Qd,Qi,Qh,Qc,Qb,Bool.not_true,Bool.not_false] at h2
 have r2:=X1 (a:=ctx.length+cws ctx) h1
 have z3:=Znf _ g (Nat.le_refl _) hg _ h2 (by omega)
 simp (disch:=omega)
 refine Qa z3 (by simp) ?_
 simp (disch:=omega)
 (with_reducible first | refine Qk (fun h3=>?_) (fun h3=>?_) | refine Ql (fun h3=>?_) (fun h3=>?_))
 ·simp (disch:=omega)
 simp only [Qf,Qd,Qi,Qh,Qc,Qb,Bool.not_true,Bool.not_false] at h3
 have r3:=X1 (a:=g.w) h2
 have z4:=Zke nlv vs hv.2 _ h3 (by omega) (fun k hk m m0 m1=>Znf _ k (Nat.le_refl _) (hv.1 k hk) m m0 m1)
 simp (disch:=omega)
 refine Qa z4 (by simp) ?_
 simp (disch:=omega)
 (with_reducible first | refine Qk (fun h4=>?_) (fun h4=>?_) | refine Ql (fun h4=>?_) (fun h4=>?_))
 ·simp (disch:=omega)
 simp only [Qf,Qd,Qi,Qh,Qc,Qb,Bool.not_true,Bool.not_false] at h4
 have r4:=X1 (a:=vs.length+tws vs) h3
 have wb:s.w<=1048576∧ctx.length+cws ctx<=1048576∧g.w<=1048576∧vs.length+tws vs<=1048576:=by
  unfold Xi at h1 h2 h3 h4 r1 r2 r3 r4
  grind
 clear z1 z2 z3 z4
 have sw:s.wf:=GSys.wf_of hs (by omega)
 have cw:ctx.wf:=⟨by omega,fun c hc'=>⟨by have:=Zjx hc';omega,(hc.2 c hc').2⟩⟩
 have gw:g.wf:=wf_of g hg (by omega)
 have vw:wfs vs:=ZrG vs (Zsf hv.1) (by omega)
 have t1:=Zqw s sw
 have t2:=ZrZ nlc ctx cw
 have t3:=ZnB _ g (Nat.le_refl _) gw
 have t4:=Zkq nlv vs (by omega) (fun k hk=>ZnB _ k (Nat.le_refl _) (Zof vw k hk))
 have a:Arg s.norm ctx.norm g.norm:=⟨sw,Wk.norm_wf cw,norm_wf g gw,fun c hc' h=>by obtain ⟨d,_,rfl⟩:=List.mem_map.1 hc';simp at h,ZsE g⟩
 have vw':=Zof (Zkn vs vw)
 have vf':=ZaK.1 (ZjL vs)
 have vl':(Yn vs).length=vs.length:=ZcM vs
 have SP:=Zlt a false false vw' vf' (by omega)
 have IM:=Zq5 a false false vw' vf' (by omega)
 obtain ⟨ow,os,oc⟩:=evalU_ok a vf'
 generalize Zch (Zdz s.norm ctx.norm g.norm (Yn vs))=o at *
 obtain ⟨G,bk,ok⟩:=o
 simp only at ow os oc
 simp (disch:=omega)
 refine Qa t1 (by simp) ?_
 simp (disch:=omega)
 refine Qa t2 (by simp) ?_
 simp (disch:=omega)
 refine Qa t3 (by simp) ?_
 simp (disch:=omega)
 refine Qa t4 (by simp) ?_
 have eCx:LC false ctx.norm=.sl false false 1 (ctx.map fun x=>[.sl false false 1 (x.2.map fun x=>[N x])]):=by simp [Wk.norm]
 rw [eCx] at SP IM
 simp (disch:=omega)
 refine Qp (Qe.low SP) (by simp) ?_
 rintro r ⟨⟨z,us,ns,rfl,w,cs,rfl,csh,cn,_⟩,lo⟩
 simp only at cn
 have c4:cs.length=4:=by rw [<- We,csh];simp
 have cal:=VN csh
 have tk4:List.take 4 cs=cs:=List.take_of_length_le (by omega)
 simp (disch:=omega) [c4,cal,csh,tk4]
 refine KI t1 (QC (Zcu (Zir _ s)) Wx) (by rintro r rfl;exact Znz s) fun x0 y0 b0 e hx0=>?_
 subst e
 have hx0':Th (.agg s.own) ([none,none,some cs]:List Box).length y0 b0:=by simpa using hx0
 obtain ⟨p0,p1,p2,p3,rfl,tx0,⟨sp0,sp1,sp2,sp3⟩,ap0,ap1,ap2,ap3⟩:=th4 hx0 rfl
 clear hx0 tx0
 simp (disch:=omega) [sp0,sp1,sp2,sp3]
 refine KI t2 (QC (ZqD _ nlc ctx) Wx) (by rintro r rfl;exact ZnV ctx) fun x1 y1 b1 e hx1=>?_
 subst e
 have sy1:=Th.share _ _ _ _ hx1
 have hx1':Th ctx.own ([none,none,some cs]++b0++[some [p0,p1,p2,p3]]:List Box).length y1 b1:=by simpa using hx1
 clear hx1
 simp (disch:=omega) [sp0,sp1,sp2,sp3,sy1]
 refine KI t3 (QC (Zcu (ZaG _ g)) Wx) (by rintro r rfl;simp only [QB];exact ZhV g) fun x2 y2 b2 e hx2=>?_
 subst e
 have hx2':Th (.agg g.own) ([none,none,some cs]++b0++[some [p0,p1,p2,p3]]++b1:List Box).length y2 b2:=by simpa using hx2
 obtain ⟨q0,q1,q2,q3,rfl,tx2,⟨sq0,sq1,sq2,sq3⟩,aq0,aq1,aq2,aq3⟩:=th4 hx2 (by simp)
 clear hx2 tx2
 simp (disch:=omega) [sp0,sp1,sp2,sp3,ap0,ap1,ap2,ap3,sq0,sq1,sq2,sq3,aq0,aq1,aq2,aq3,sy1]
 have vV:∀ h,YU h (.sl false nlv 4 (Q9 vs)) (.sl false nlv 4 (Q9 vs)):=fun h=>ZaM (by simp) (by simp)
 refine KI t4 (QC (vV _) Wx) (by rintro r rfl;exact ZkP vs) fun x3 y3 b3 e hx3=>?_
 subst e
 have sy3:=Th.share _ _ _ _ hx3
 have hx3':Th (.sl true false 4 (Zbu vs)) ([none,none,some cs]++b0++[some [p0,p1,p2,p3]]++b1++b2++[some [q0,q1,q2,q3]]:List Box).length y3 b3:=by simpa using hx3
 clear hx3
 simp (disch:=omega) [sp0,sp1,sp2,sp3,ap0,ap1,ap2,ap3,sq0,sq1,sq2,sq3,aq0,aq1,aq2,aq3,sy1,sy3]
 have v0:∀ h,(∃ h2,h=[none,none,some cs]++b0++h2)->YU h (share (.agg s.own)) (.agg [p0,p1,p2,p3]):=fun h ⟨h2,he⟩=>ZbI (h:=h) (h2:=h2) (Znz s) hx0' he
 have v1:∀ h,(∃ h2,h=[none,none,some cs]++b0++[some [p0,p1,p2,p3]]++b1++h2)->YU h (share ctx.own) y1:=fun h ⟨h2,he⟩=>ZbI (h:=h) (h2:=h2) (ZnV ctx) hx1' he
 have v2:∀ h,(∃ h2,h=[none,none,some cs]++b0++[some [p0,p1,p2,p3]]++b1++b2++h2)->YU h (share (.agg g.own)) (.agg [q0,q1,q2,q3]):=fun h ⟨h2,he⟩=>ZbI (h:=h) (h2:=h2) (show QB (.agg g.own) by simp only [QB];exact ZhV g) hx2' he
 have v3:∀ h,(∃ h2,h=[none,none,some cs]++b0++[some [p0,p1,p2,p3]]++b1++b2++[some [q0,q1,q2,q3]]++b3++h2)->YU h (share (.sl true false 4 (Zbu vs))) y3:=fun h ⟨h2,he⟩=>ZbI (h:=h) (h2:=h2) (ZkP vs) hx3' he
 have ev0:share (.agg s.own)=s.norm.lv:=by simp only [share,GSys.share_own]
 have ev2:share (.agg g.own)=g.norm.lv:=by simp only [share,Zgw]
 have ev3:share (.sl true false 4 (Zbu vs))=.sl false false 4 (Q9 (Yn vs)):=by simp only [share,ZcK]
 rw [ev0] at v0
 rw [share_own,eCx] at v1
 rw [ev2] at v2
 rw [ev3] at v3
 refine KI IM (QC (v0 _ (by simp)) (QC (v1 _ (by simp)) (QC (v2 _ (by simp)) (QC (v3 _ (by simp)) Wx)))) (fun r h=>h.2) fun x4 y4 bg hr hx4=>?_
 obtain ⟨wi,g0,g1,g2,g3,yI,bz,bI,nI,wnm,rfl,rfl,tg,hnI,tI,⟨sg0,sg1,sg2,sg3,sy⟩,ag0,ag1,ag2,ag3⟩:=th_ev hr.1 hr.2 hx4
 clear hx4 hr
 simp only at wnm hnI tI
 have sv:=And.intro sp0 (And.intro sp1 (And.intro sp2 (And.intro sp3 (And.intro ap0 (And.intro ap1 (And.intro ap2 (And.intro ap3 (And.intro sq0 (And.intro sq1 (And.intro sq2 (And.intro sq3 (And.intro aq0 (And.intro aq1 (And.intro aq2 (And.intro aq3 (And.intro sy1 (And.intro sy3 (And.intro c4 (And.intro cal (And.intro csh (And.intro tk4 (And.intro sg0 (And.intro sg1 (And.intro sg2 (And.intro sg3 (And.intro ag0 (And.intro ag1 (And.intro ag2 (And.intro ag3 sy)))))))))))))))))))))))))))))
 simp (disch:=omega) [sv]
 have Gw:wi.wf:=Zo3 _ (by rw [wnm];exact wf_nm _ ow)
 have Gs:wi.size<=400:=by rw [nm_size wnm];exact os
 have EQ:=Ze1 wi.size wi (Nat.le_refl _) Gw w
 rw [Zf8 wi w (by rw [wnm,cn])] at EQ
 have EI:=ZaT nI ns bk bk (by omega)
 rw [show (bk == bk)=true by simp] at EI
 have tg':WQ wi.ownF ([none,none,some cs]++b0++[some [p0,p1,p2,p3]]++b1++b2++[some [q0,q1,q2,q3]]++b3:List Box).length [g0,g1,g2,g3] bz:=by simpa using tg
 have tI':Th (OU (!nI) nI bk) ([none,none,some cs]++b0++[some [p0,p1,p2,p3]]++b1++b2++[some [q0,q1,q2,q3]]++b3++bz:List Box).length yI bI:=(congrArg (fun n=>Th (OU (!nI) nI bk) n yI bI) (by simp;omega)).mp tI
 clear tg tI
 have vg:∀ (P h:List Box),P.length=([none,none,some cs]++b0++[some [p0,p1,p2,p3]]++b1++b2++[some [q0,q1,q2,q3]]++b3:List Box).length->(∃ h2,h=P++bz++h2)->YU h wi.lv (.agg [g0,g1,g2,g3]):=fun P h hl ⟨h2,he⟩=>by
  have:=ZbI (h:=h) (h1:=P) (h2:=h2) (t:=.agg wi.ownF) (y:=.agg [g0,g1,g2,g3]) (bs:=bz) (by simp only [QB];exact ZhK _ _ _ _ tg') (by simp only [Th];exact ⟨_,rfl,by rw [hl];exact tg'⟩) he
  simpa only [share,ZcU] using this
 have shI:∀ (u n:Bool) (l:List Int),share (OU u n l)=L n l:=fun u n l=>by simp
 have vI:∀ (P h:List Box),P.length=([none,none,some cs]++b0++[some [p0,p1,p2,p3]]++b1++b2++[some [q0,q1,q2,q3]]++b3++bz:List Box).length->(∃ h2,h=P++bI++h2)->YU h (L nI bk) yI:=fun P h hl ⟨h2,he⟩=>by
  have:=ZbI (h:=h) (h1:=P) (h2:=h2) (t:=OU (!nI) nI bk) (y:=yI) (bs:=bI) (Zm9 hnI) (by rw [hl];exact tI') he
  rwa [shI] at this
 have vL:∀ h,YU h (L ns bk) (L ns bk):=fun h=>ZaM (by simp) (by simp)
 refine XD EQ (QC (vg ([none,none,some cs]++b0++[some [p0,p1,p2,p3]]++b1++b2++[some [q0,q1,q2,q3]]++b3) _ rfl ⟨bI++[some [g0,g1,g2,g3]],by simp⟩) (QC (Zcu (ZaG _ w)) Wx)) (whB _) ?_
 rintro r rfl
 have hbb:∀ x:Bool,XB .bool .neq (B x) (B x)=some (B false):=fun x=>by simp [XB,neg]
 simp (disch:=omega) [sv,hbb]
 refine XD EI (QC (vI ([none,none,some cs]++b0++[some [p0,p1,p2,p3]]++b1++b2++[some [q0,q1,q2,q3]]++b3++bz) _ rfl ⟨[some [g0,g1,g2,g3]],by simp⟩) (QC (vL _) Wx)) (whB _) ?_
 rintro r rfl
 simp (disch:=omega) [sv,hbb]
 have E0:=Zqv s.norm s.norm sw
 rw [GSys.same_refl] at E0
 have E1:=Zrh false false ctx.norm ctx.norm (Wk.norm_wf cw)
 rw [Zf0,eCx] at E1
 have E2:=Ze1 g.norm.size g.norm (Nat.le_refl _) (norm_wf g gw) g.norm
 rw [same_refl] at E2
 have E3:=Zk7 false false (Yn vs) (Yn vs) (by omega) (fun x hx y=>Ze1 x.size x (Nat.le_refl _) (vw' x hx) y)
 rw [ZfY] at E3
 have vCx:∀ h,YU h (.sl false false 1 (ctx.map fun x=>[.sl false false 1 (x.2.map fun x=>[N x])])) (.sl false false 1 (ctx.map fun x=>[.sl false false 1 (x.2.map fun x=>[N x])])):=fun h=>by rw [<- eCx];exact ZqD h false ctx.norm
 have vVn:∀ h,YU h (.sl false false 4 (Q9 (Yn vs))) (.sl false false 4 (Q9 (Yn vs))):=fun h=>ZaM (by simp) (by simp)
 refine Qa t1 (by simp) ?_
 simp (disch:=omega) [sv]
 refine XD E0 (QC (v0 _ (by simp)) (QC (Zcu (Zir _ s.norm)) Wx)) (whB _) ?_
 rintro r rfl
 simp (disch:=omega) [sv]
 refine Qa t2 (by simp) ?_
 simp (disch:=omega) [sv]
 refine XD E1 (QC (v1 _ (by simp)) (QC (vCx _) Wx)) (whB _) ?_
 rintro r rfl
 simp (disch:=omega) [sv]
 refine Qa t3 (by simp) ?_
 simp (disch:=omega) [sv]
 refine XD E2 (QC (v2 _ (by simp)) (QC (Zcu (ZaG _ g.norm)) Wx)) (whB _) ?_
 rintro r rfl
 simp (disch:=omega) [sv]
 refine Qa t4 (by simp) ?_
 simp (disch:=omega) [sv]
 refine XD E3 (QC (v3 _ (by simp)) (QC (vVn _) Wx)) (whB _) ?_
 rintro r rfl
 simp (disch:=omega) [sv]
 have tS:WQ s.own ([none,none,some cs]:List Box).length [p0,p1,p2,p3] b0:=by
  have:=hx0'
  simp only [Th] at this
  obtain ⟨ys,e,h⟩:=this
  cases e;exact h
 have tT:WQ g.norm.ownF ([none,none,some cs]++b0++[some [p0,p1,p2,p3]]++b1:List Box).length [q0,q1,q2,q3] b2:=by
  have:=hx2'
  simp only [Th] at this
  obtain ⟨ys,e,h⟩:=this
  cases e;rw [<- Zqt];exact h
 have tV:Th (.sl true false 4 (Xu (Yn vs))) ([none,none,some cs]++b0++[some [p0,p1,p2,p3]]++b1++b2++[some [q0,q1,q2,q3]]:List Box).length y3 b3:=by rw [<- Zgr];exact hx3'
 have wc:=w_cnt g
 have wcs:=Zq9 vs
 have tcg:=Zqu g.norm
 have M1:=fun X=>ZrR s 1 [none,none,some cs] X p0 p1 p2 p3 b0 (by omega) tS
 refine XZ (M1 (some [p0,p1,p2,p3]::(b1++(b2++some [q0,q1,q2,q3]::(b3++(bz++(bI++[some [g0,g1,g2,g3]]))))))) (by simp) ?_
 rintro r h' ⟨rfl,c0,ex0,l0,rfl⟩
 simp (disch:=omega) [sv,<- l0]
 have M2:=fun X=>Zps ctx (1+s.w) ([none,none,some cs]++c0++[some [p0,p1,p2,p3]]) X y1 b1 (by omega) (by omega) (by
  have e:([none,none,some cs]++c0++[some [p0,p1,p2,p3]]:List Box).length=([none,none,some cs]++b0++[some [p0,p1,p2,p3]]:List Box).length:=by simp [l0]
  rw [e];exact hx1')
 refine XZ (M2 (b2++some [q0,q1,q2,q3]::(b3++(bz++(bI++some [g0,g1,g2,g3]::ex0))))) (by simp) ?_
 rintro r h' ⟨rfl,c1,l1,rfl⟩
 simp (disch:=omega) [sv,<- l0,<- l1]
 have M3:=fun X=>ZiJ g.norm (1+s.w+cws ctx) ([none,none,some cs]++c0++[some [p0,p1,p2,p3]]++c1) X [q0,q1,q2,q3] b2 (by omega) (by omega) (by
  have e:([none,none,some cs]++c0++[some [p0,p1,p2,p3]]++c1:List Box).length=([none,none,some cs]++b0++[some [p0,p1,p2,p3]]++b1:List Box).length:=by simp [l0,l1]
  rw [e];exact tT)
 refine XZ (M3 (some [q0,q1,q2,q3]::(b3++(bz++(bI++some [g0,g1,g2,g3]::ex0))))) (by simp) ?_
 rintro r h' ⟨rfl,c2,ex2,l2,_,rfl⟩
 simp (disch:=omega) [sv,<- l0,<- l1,<- l2]
 have M6:=fun X=>ZgA (WB (Yn vs)) (Yn vs) true false (1+s.w+cws ctx+g.norm.tcnt) ([none,none,some cs]++c0++[some [p0,p1,p2,p3]]++c1++c2++[some [q0,q1,q2,q3]]) X y3 b3 (Nat.le_refl _) (by omega) (by omega) (by
  have e:([none,none,some cs]++c0++[some [p0,p1,p2,p3]]++c1++c2++[some [q0,q1,q2,q3]]:List Box).length=([none,none,some cs]++b0++[some [p0,p1,p2,p3]]++b1++b2++[some [q0,q1,q2,q3]]:List Box).length:=by simp [l0,l1,l2]
  rw [e];exact tV)
 refine XZ (M6 (bz++(bI++some [g0,g1,g2,g3]::(ex0++ex2)))) (by simp) ?_
 rintro r h' ⟨rfl,c3,l3,_,rfl⟩
 have hk3:ltB (1+(s.w:Int)+(cws ctx:Int)+(g.norm.tcnt:Int)+(YY (Yn vs):Int)) 0=false:=by rw [Qd];omega
 simp (disch:=omega) [sv,<- l0,<- l1,<- l2,<- l3,hk3]
 obtain ⟨P,hP⟩:∃ P:List Box,[none,none,some cs]++c0++[some [p0,p1,p2,p3]]++c1++c2++[some [q0,q1,q2,q3]]++c3=P:=⟨_,rfl⟩
 have hPl:P.length=([none,none,some cs]++b0++[some [p0,p1,p2,p3]]++b1++b2++[some [q0,q1,q2,q3]]++b3:List Box).length:=by rw [<- hP];simp [l0,l1,l2,l3]
 have hPX:∀ X:List Box,none::none::some cs::(c0++some [p0,p1,p2,p3]::(c1++(c2++some [q0,q1,q2,q3]::(c3++X))))=P++X:=fun X=>by rw [<- hP];simp
 refine XD EQ (QC (vg P _ hPl ⟨bI++some [g0,g1,g2,g3]::(ex0++ex2),by simp [hPX]⟩) (QC (Zcu (ZaG _ w)) Wx)) (whB _) ?_
 rintro r rfl
 simp (disch:=omega) [sv,<- l0,<- l1,<- l2,<- l3,hbb]
 have hPb:(P++bz).length=([none,none,some cs]++b0++[some [p0,p1,p2,p3]]++b1++b2++[some [q0,q1,q2,q3]]++b3++bz:List Box).length:=by rw [List.length_append,hPl,<- List.length_append]
 refine XD EI (QC (vI (P++bz) _ hPb ⟨some [g0,g1,g2,g3]::(ex0++ex2),by simp [hPX]⟩) (QC (vL _) Wx)) (whB _) ?_
 rintro r rfl
 simp (disch:=omega) [sv,<- l0,<- l1,<- l2,<- l3,hbb]
 have tcG:wi.tcnt<=461168601842738:=by
  have:=Zqu wi
  have:=Zsl wi Gw
  omega
 have M4:=fun X=>ZiJ wi 1 P X [g0,g1,g2,g3] bz (by omega) (by omega) (by rw [hPl];exact tg')
 refine XZ (M4 (bI++some [g0,g1,g2,g3]::(ex0++ex2))) (by simp [hPX]) ?_
 rintro r h' ⟨rfl,cg,ex4,l4,tg4,rfl⟩
 rw [<- hP]
 simp (disch:=omega) [sv,<- l0,<- l1,<- l2,<- l3,<- l4]
 have M5:=fun X=>JI (!nI) nI bk (1+wi.tcnt) (by omega) (P++cg) X yI bI (by rw [List.length_append,l4,<- List.length_append,hPb];exact tI')
 refine XZ (M5 (some [g0,g1,g2,g3]::(ex0++(ex2++ex4)))) (by rw [<- hP];simp) ?_
 rintro r h' ⟨rfl,cI,l5,tI5,rfl⟩
 have vm:∀ (h:List Box),(∃ h2,h=P++cg++h2)->YU h (topT 1 wi).lv (.agg [g0,g1,g2,g3]):=fun h ⟨h2,he⟩=>by
  have:=ZbI (h:=h) (h1:=P) (h2:=h2) (t:=.agg (topT 1 wi).ownF) (y:=.agg [g0,g1,g2,g3]) (bs:=cg) (by simp only [QB];exact ZhK _ _ _ _ tg4) (by simp only [Th];exact ⟨_,rfl,tg4⟩) he
  simpa only [share,ZcU] using this
 have hnM:nI=true->Wt mI (1+wi.tcnt) bk.length=[]:=fun e=>by rw [hnI e];rfl
 have vn:∀ (h:List Box),(∃ h2,h=P++cg++cI++h2)->YU h (L nI (Wt mI (1+wi.tcnt) bk.length)) yI:=fun h ⟨h2,he⟩=>by
  have:=ZbI (h:=h) (h1:=P++cg) (h2:=h2) (t:=OU (!nI) nI (Wt mI (1+wi.tcnt) bk.length)) (y:=yI) (bs:=cI) (Zm9 hnM) tI5 he
  rwa [shI] at this
 have HD:=ZqI wi 1 (by omega) (by omega)
 have HI:=Zd0 nI (1+wi.tcnt) bk.length (by omega)
 have hq1:ltB (1+(wi.tcnt:Int)) 0=false:=by rw [Qd];omega
 have hq2:ltB (1+(wi.tcnt:Int)+(bk.length:Int)) 0=false:=by rw [Qd];omega
 have hq3:eqB (1+(wi.tcnt:Int)+(bk.length:Int)) (1+(wi.tcnt:Int)+(bk.length:Int))=true:=by rw [Qc]
 rw [<- hP]
 simp (disch:=omega) [sv,<- l0,<- l1,<- l2,<- l3,<- l4,<- l5]
 refine XD HD (QC (vm _ ⟨cI++some [g0,g1,g2,g3]::(ex0++(ex2++ex4)),by simp [hPX]⟩) (QC Zc6 Wx)) (whN _) ?_
 rintro r rfl
 simp (disch:=omega) [sv,<- l0,<- l1,<- l2,<- l3,<- l4,<- l5,hq1,hq2,hq3]
 refine XD HI (QC (vn _ ⟨some [g0,g1,g2,g3]::(ex0++(ex2++ex4)),by simp [hPX]⟩) (QC Zc6 Wx)) (whN _) ?_
 rintro r rfl
 simp (disch:=omega) [sv,<- l0,<- l1,<- l2,<- l3,<- l4,<- l5,hq1,hq2,hq3]
 refine Qa t1 (by simp) ?_
 simp (disch:=omega)
 refine Qa t2 (by simp) ?_
 simp (disch:=omega)
 refine Qa t3 (by simp) ?_
 simp (disch:=omega)
 refine Qa t4 (by simp) ?_
 simp (disch:=omega)
 refine Qp (Qe.low (IM.mono fun r h=>h.1)) (by simp) ?_
 rintro r ⟨⟨z2,u2,n2,rfl,w2,cs2,rfl,csh2,cn2,_⟩,lo2⟩
 simp only at cn2
 have c42:cs2.length=4:=by rw [<- We,csh2];simp
 have cal2:=VN csh2
 have tk42:List.take 4 cs2=cs2:=List.take_of_length_le (by omega)
 have EQ2:=Ze1 w2.size w2 (Nat.le_refl _) (Zo3 _ (by rw [cn2];exact wf_nm _ ow)) w
 rw [Zf8 w2 w (by rw [cn2,cn])] at EQ2
 have EI2:=ZaT n2 ns bk bk (by omega)
 rw [show (bk == bk)=true by simp] at EI2
 simp (disch:=omega) [sv,<- l0,<- l1,<- l2,<- l3,<- l4,<- l5,hq1,hq2,hq3,c42,cal2,csh2,tk42]
 refine Qa EQ2 (by simp) ?_
 simp (disch:=omega) [sv,<- l0,<- l1,<- l2,<- l3,<- l4,<- l5,hbb]
 refine Qa EI2 (by simp) ?_
 simp (disch:=omega) [sv,<- l0,<- l1,<- l2,<- l3,<- l4,<- l5,hbb]
 refine XD HD (QC (vm _ ⟨cI++some [g0,g1,g2,g3]::(ex0++(ex2++(ex4++[some cs2]))),by simp [hPX]⟩) (QC Zc6 Wx)) (whN _) ?_
 rintro r rfl
 simp (disch:=omega) [sv,<- l0,<- l1,<- l2,<- l3,<- l4,<- l5,hq1,hq2,hq3]
 refine XD HI (QC (vn _ ⟨some [g0,g1,g2,g3]::(ex0++(ex2++(ex4++[some cs2]))),by simp [hPX]⟩) (QC Zc6 Wx)) (whN _) ?_
 rintro r rfl
 simp (disch:=omega) [sv,<- l0,<- l1,<- l2,<- l3,<- l4,<- l5,hq1,hq2,hq3]
end Go.Proofs.YtbmepminmpjlcaaGreat