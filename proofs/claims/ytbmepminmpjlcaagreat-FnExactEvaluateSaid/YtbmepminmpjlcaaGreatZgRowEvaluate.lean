/- Part 7 of the proof of the row of the text YtbmepminmpjlcaaGreatZRowEvaluate: texts joined. No conditions. -/
import Derived.Test.YtbmepminmpjlcaaGreatZfRowEvaluate
set_option linter.unusedSimpArgs false
set_option linter.unusedVariables false
set_option linter.unusedSectionVars false
namespace Go.Proofs.YtbmepminmpjlcaaGreat
open Go Go.TL
open Go.Proofs.YtbmepminmpjlcaaGreat.Ty
set_option linter.unusedSimpArgs false
set_option linter.unusedVariables false
set_option maxRecDepth 20000
set_option maxHeartbeats 4000000
theorem kids0 {ks:List GTerm} (h:(ks.length:Int)=0):ks=[]:=by cases ks with
 | nil=>rfl
 | cons a l=>simp at h;omega
theorem kids1 {ks:List GTerm} (h:(ks.length:Int)=1):∃ a,ks=[a]:=by
 match ks,h with
 | [a],_=>exact ⟨a,rfl⟩
 | [],h=>simp at h
 | _::_::_,h=>simp at h;omega
theorem ZpP {ks:List GTerm} (h:(ks.length:Int)=2):∃ a b,ks=[a,b]:=by
 match ks,h with
 | [a,b],_=>exact ⟨a,b,rfl⟩
 | [],h=>simp at h
 | [_],h=>simp at h
 | _::_::_::_,h=>simp at h;omega
theorem kids3 {ks:List GTerm} (h:(ks.length:Int)=3):∃ a b c,ks=[a,b,c]:=by
 match ks,h with
 | [a,b,c],_=>exact ⟨a,b,c,rfl⟩
 | [],h=>simp at h
 | [_],h=>simp at h
 | [_,_],h=>simp at h
 | _::_::_::_::_,h=>simp at h;omega
theorem ZpJ {s:GSys} {cx:List (List Int)} {op n:Int} {nl1 nl2:Bool} {gty:List Int} {a:GTerm} {ks:List GTerm} {x:TT} (h:Qr s (Qz op gty 0 []++cx) a=.ok x) (h2:QU s op n 0 (hd x.ty)≠0) :
  Qr s cx (.mk op n nl1 gty nl2 (a::ks))=.bad (QU s op n 0 (hd x.ty)) []:=by
 have h':Qr s (Qz op gty 0 (first [])++cx) a=.ok x:=h
 simp [Qr,Wi,h',h2]
theorem ZcC {ty nd:List Int} {ks:List TT} {r:LV} (h:(Zkz ty nd).told r):(Z3 ty nd ks).told r:=by
 unfold Zkz at h
 unfold Z3
 split at h
 ·rename_i q;rw [if_pos q];exact h
 ·rename_i q;rw [if_neg q];exact h
theorem ZkV {s:GSys} (g:Int):∀ (a b:List Int),Zf2 s a g b=Y6 s a (Wg s g b)
 | [],b=>by simp [Zf2,Y6]
 | x::a,[]=>by simp [Zf2,Y6,Wg]
 | x::a,y::b=>by
  have:=ZkV (s:=s) g a b
  simp only [Zf2,Y6,Wg,List.zipWith_cons_cons,List.map_cons] at this ⊢
  rw [this]
structure KidT (s:GSys) (cx:Wk) (k:GTerm):Prop where
 tell:∀ nl,Qe Tryz.prog WZ [s.lv,LC nl cx,k.lv] (Qr s (cx.map Prod.snd) k).told
 good:∀ y,Qr s (cx.map Prod.snd) k=.ok y->y.good s cx.length
 small:k.size<=1000000
theorem ZsN {s:GSys} (hsy:s.sys=true) (d:Nat):∀ (g:GTerm) (nlc:Bool) (ctx:Wk),g.size<=d->g.wf->g.fl->(∀ c∈ctx,okL s.size c.2=true)->(∀ c∈ctx,c.1=false)->ctx.length+2 * g.size<=100000->XC ctx.length s.size true g=true ->
  Qe Tryz.prog WZ [s.lv,LC nlc ctx,g.lv] (Qr s (ctx.map Prod.snd) g).told:=by
 induction d with
 | zero=>intro g _ _ h;have:=g.size_pos;omega
 | succ d ih =>
  rintro ⟨op,n,nl1,gty,nl2,ks⟩ nlc ctx hsz hw hfl hc hcf hlen hform
  have t:=GSys.sys_of hsy
  have h16:=t.hi
  simp only [XC,Bool.and_eq_true] at hform
  obtain ⟨hnode,hforms⟩:=hform
  have no:=ZeV hnode
  simp only [GTerm.wf] at hw
  obtain ⟨wop,wn,wty,wk,wks⟩:=hw
  simp only [GTerm.fl] at hfl
  obtain ⟨fl1,flk⟩:=hfl
  simp only [GTerm.size] at hsz hlen
  obtain ⟨many,hvar,hgr,hty,o1,o2⟩:=no
  have kid:∀ (i:Nat) (hi:i < ks.length) (more:Wk),more.length=(Qy op i).toNat->(∀ c∈more,okL s.size c.2=true)->(∀ c∈more,c.1=false)->KidT s (more++ctx) ks[i]:=by
   intro i hi more hml hmo hmf
   have ha:=V8 op i
   have hf:=Zg4 hforms i hi
   simp only [Nat.zero_add] at hf
   have hks:=YM hi
   have e:(((more++ctx).length:Nat):Int)=ctx.length+Qy op i:=by rw [List.length_append];omega
   have hok:∀ c∈more++ctx,okL s.size c.2=true:=fun c h=>(List.mem_append.1 h).elim (hmo c) (hc c)
   have hfl':∀ c∈more++ctx,c.1=false:=fun c h=>(List.mem_append.1 h).elim (hmf c) (hcf c)
   refine ⟨fun nl=>ih ks[i] nl (more++ctx) (by omega) ((ZbM.1 wks) _ (List.getElem_mem hi)) ((ZaK.1 flk) _ (List.getElem_mem hi)) hok hfl' (by rw [List.length_append];omega) (by rw [e];exact hf),fun y hy=>?_,by omega⟩
   have:=Zbb t ks[i] ((more++ctx).map Prod.snd) y (fun l hl=>by
    obtain ⟨c,h1,rfl⟩:=List.mem_map.1 hl
    exact hok c h1) (by rw [List.length_map,e];exact hf) hy
   rw [List.length_map] at this
   exact this
  have hops:op=0∨op=1∨op=2∨op=3∨op=4∨op=5∨op=6∨op=7∨op=8∨op=9∨op=10∨op=11∨op=12:=by omega
  have hz:eqB 0 0=true:=by rw [Qc]
  have hm:ctx.length<=100000:=by omega
  refine Qe.of_codeOf ZmI Qx (by simp) (ZbJ _ fun f p h=>ZR _ _ f p h) ?_
  rcases hops with e | e | e | e | e | e | e | e | e | e | e | e | e
  all_goals subst e
  all_goals simp [W1] at many
  ·
   obtain rfl:ks=[]:=by first | exact many | exact kids0 (by omega)
   obtain ⟨v0,v1⟩:=hvar rfl
   obtain ⟨v,rfl⟩:∃ v:Nat,n=v:=⟨n.toNat,by omega⟩
   have hv:v < ctx.length:=by omega
   have hx:=Kl ctx nlc v hv
   have hxo:=hc _ (List.getElem_mem hv)
   have hxf:=hcf _ (List.getElem_mem hv)
   have hget:(ctx.map Prod.snd).getD v []=ctx[v].2:=by simp [List.getD_eq_getElem?_getD,hv]
   generalize ctx[v]=c at hx hxo hxf hget
   obtain ⟨cf,cl⟩:=c
   simp only at hxo hxf hget
   subst hxf
   have hlen2:=QK hxo
   rw [tell_var,show ((v:Int)).toNat=v by omega,hget,List.length_map]
   simp (disch:=omega) [WI,Qt,Qo,GTerm.cells,hz]
   refine KI (ZaV ctx.length (by omega)) (by simp only [WW,YU];exact ⟨_,[],rfl,rfl,rfl⟩) (by rintro r rfl;exact Zc (fun n:Int=>Value.int .i64 n) true false _ (.inr ⟨rfl,rfl⟩)) ?_
   rintro tz y bs rfl hth
   rcases (Zay (fun n:Int=>Value.int .i64 n)).1 hth with ⟨h0,_,_⟩ | ⟨_,hne,slack,cap,⟨hcap,hsl⟩,rfl,rfl⟩
   ·exfalso
    have h9:=congrArg List.length h0
    rw [show (zeros ctx.length).length=ctx.length by simp [zeros]] at h9
    have h9:ctx.length=0:=h9
    omega
   have hzl:(zeros ctx.length).length=ctx.length:=by simp [zeros]
   clear hth
   have hst:=Zpd (zeros ctx.length) (List.replicate slack .dead) v 1 (by omega)
   have hsp:=ZiM (zeros ctx.length) (List.replicate slack .dead) v 1 (by omega)
   simp (disch:=omega) [hx,Zy (show v < (zeros ctx.length).length by omega)]
   refine ⟨by omega,?_⟩
   rw [frz_at (xs:=List.take v ((zeros ctx.length).map N++List.replicate slack .dead)++N 1::List.drop (v+1) ((zeros ctx.length).map N++List.replicate slack .dead)) (by simp) (by simp;omega) hcap,hst]
   generalize (zeros ctx.length).set v 1=zz
   simp (disch:=omega) [hx]
   refine Qa (KF false cl (by omega)) (by simp) ?_
   simp (disch:=omega)
   exact ⟨true,true,true,true,by simp⟩
  ·
   obtain rfl:ks=[]:=by first | exact many | exact kids0 (by omega)
   have e10:eqB 1 0=false:=by rw [Qb];omega
   have e11:eqB 1 1=true:=by rw [Qc]
   rw [Zk9]
   simp (disch:=omega) [WI,Qt,Qo,GTerm.cells,e10,e11,Qn]
   refine Qa (ZaV ctx.length (by omega)) (by simp) ?_
   simp (disch:=omega)
   exact ⟨true,true,true,true,by simp⟩
  ·obtain ⟨a,b,rfl⟩:=ZpP (by omega)
   have ka:=kid 0 (by simp) [] (by simp [Qy]) (by simp) (by simp)
   simp only [List.nil_append,List.getElem_cons_zero] at ka
   have kb:=kid 1 (by simp) [] (by simp [Qy]) (by simp) (by simp)
   simp only [List.nil_append,List.getElem_cons_succ,List.getElem_cons_zero] at kb
   have E:∀ k:Int,k≠2->eqB 2 k=false:=fun k h=>by rw [Qb];omega
   have E2:eqB 2 2=true:=by rw [Qc]
   have a0:Qz 2 gty 0 []++ctx.map Prod.snd=ctx.map Prod.snd:=by simp [Qz,Qy]
   have of:=X3 s 2 n nl1 gty nl2 [a,b] 0 (by simp) nlc ctx _ (WH ka.small) (ka.tell nlc)
   simp only [GTerm.lv,GTerm.cells] at of
   simp (disch:=omega) [WI,Qt,Qo,GTerm.cells,E,E2]
   refine Qp (Qe.low of) (by simp) ?_
   rintro r ⟨hr,lo⟩
   cases hA:Qr s (ctx.map Prod.snd) a with
   | bad f p =>
    rw [hA] at hr
    simp only [ofR] at hr
    obtain ⟨hf,u1,u2,u4,n4',rfl⟩:=hr
    have hf0:eqB f 0=false:=by rw [Qb];exact hf
    rw [Zd (by rw [a0];exact hA)]
    simp (disch:=omega) [Qt,Qo,hf0]
    exact ⟨hf,false,false,false,n4',by simp⟩
   | ok x =>
    have hxg:=ka.good x hA
    rw [hA] at hr
    simp only [ofR] at hr
    obtain ⟨u1,u2,u4,n4',rfl⟩:=hr
    have hx:=XX hxg.1
    have lx:=QK hxg.1
    have hxi:QP 1 (L false x.ty) 0=some (.rp [N (hd x.ty)]):=ZV hx.2.2.2.1
    by_cases q:hd x.ty=0
    ·have hq:eqB (hd x.ty) 0=true:=by rw [Qc];exact q
     simp (disch:=omega) [Qt,Qo,hz,hxi,hq,E,E2]
     have tk:=Zms hsy nlc ctx hm n nl1 gty nl2 a b x n4' hxg hA q kb.small (kb.tell nlc) kb.good
     simp only [GTerm.lv,GTerm.cells] at tk
     refine Qp (Qe.low tk) (by simp) ?_
     rintro r ⟨hr,lo⟩
     cases hT:Qr s (ctx.map Prod.snd) (GTerm.mk 2 n nl1 gty nl2 [a,b]) with
     | ok z =>
      rw [hT] at hr
      obtain ⟨v1,v2,v4,m4,rfl⟩:=hr
      simp (disch:=omega)
      exact ⟨v1,v2,v4,m4,by simp⟩
     | bad f p =>
      rw [hT] at hr
      obtain ⟨hf,v1,v2,v4,m4,rfl⟩:=hr
      simp (disch:=omega)
      exact ⟨hf,v1,v2,v4,m4,by simp⟩
    ·have hq:eqB (hd x.ty) 0=false:=by rw [Qb];exact q
     have fo:=fo_add (n:=n) (i:=0) hxg.1
     rw [if_neg q] at fo
     rw [ZpJ (by rw [a0];exact hA) (by rw [fo];omega),fo]
     simp (disch:=omega) [Qt,Qo,hz,hxi,hq,E,E2]
     refine Qp (Qe.low (Xq 2 (by omega))) (by simp) ?_
     rintro r ⟨⟨h3,w1,w2,w4,k4,rfl⟩,lo⟩
     simp (disch:=omega)
     exact ⟨by omega,w1,w2,w4,k4,by simp⟩
  ·obtain ⟨a,b,c,rfl⟩:=kids3 (by omega)
   have ka:=kid 0 (by simp) [] (by simp [Qy]) (by simp) (by simp)
   simp only [List.nil_append,List.getElem_cons_zero] at ka
   have kb:=kid 1 (by simp) [] (by simp [Qy]) (by simp) (by simp)
   simp only [List.nil_append,List.getElem_cons_succ,List.getElem_cons_zero] at kb
   have kc:=kid 2 (by simp) [] (by simp [Qy]) (by simp) (by simp)
   simp only [List.nil_append,List.getElem_cons_succ,List.getElem_cons_zero] at kc
   have E:∀ k:Int,k≠3->eqB 3 k=false:=fun k h=>by rw [Qb];omega
   have E2:eqB 3 3=true:=by rw [Qc]
   have a0:Qz 3 gty 0 []++ctx.map Prod.snd=ctx.map Prod.snd:=by simp [Qz,Qy]
   have of:=X3 s 3 n nl1 gty nl2 [a,b,c] 0 (by simp) nlc ctx _ (WH ka.small) (ka.tell nlc)
   simp only [GTerm.lv,GTerm.cells] at of
   simp (disch:=omega) [WI,Qt,Qo,GTerm.cells,E,E2]
   refine Qp (Qe.low of) (by simp) ?_
   rintro r ⟨hr,lo⟩
   cases hA:Qr s (ctx.map Prod.snd) a with
   | bad f p =>
    rw [hA] at hr
    simp only [ofR] at hr
    obtain ⟨hf,u1,u2,u4,n4',rfl⟩:=hr
    have hf0:eqB f 0=false:=by rw [Qb];exact hf
    rw [Zd (by rw [a0];exact hA)]
    simp (disch:=omega) [Qt,Qo,hf0]
    exact ⟨hf,false,false,false,n4',by simp⟩
   | ok x =>
    have hxg:=ka.good x hA
    rw [hA] at hr
    simp only [ofR] at hr
    obtain ⟨u1,u2,u4,n4',rfl⟩:=hr
    have hx:=XX hxg.1
    have lx:=QK hxg.1
    have hxi:QP 1 (L false x.ty) 0=some (.rp [N (hd x.ty)]):=ZV hx.2.2.2.1
    by_cases q:hd x.ty=0
    ·have hq:eqB (hd x.ty) 0=true:=by rw [Qc];exact q
     simp (disch:=omega) [Qt,Qo,hz,hxi,hq,E,E2]
     have tk:=Zoe hsy nlc ctx hm n nl1 gty nl2 a b c x n4' hxg hA q kb.small kc.small (kb.tell nlc) kb.good (kc.tell nlc) kc.good
     simp only [GTerm.lv,GTerm.cells] at tk
     refine Qp (Qe.low tk) (by simp) ?_
     rintro r ⟨hr,lo⟩
     cases hT:Qr s (ctx.map Prod.snd) (GTerm.mk 3 n nl1 gty nl2 [a,b,c]) with
     | ok z =>
      rw [hT] at hr
      obtain ⟨v1,v2,v4,m4,rfl⟩:=hr
      simp (disch:=omega)
      exact ⟨v1,v2,v4,m4,by simp⟩
     | bad f p =>
      rw [hT] at hr
      obtain ⟨hf,v1,v2,v4,m4,rfl⟩:=hr
      simp (disch:=omega)
      exact ⟨hf,v1,v2,v4,m4,by simp⟩
    ·have hq:eqB (hd x.ty) 0=false:=by rw [Qb];exact q
     have fo:=fo_if0 (n:=n) hxg.1
     rw [if_neg q] at fo
     rw [ZpJ (by rw [a0];exact hA) (by rw [fo];omega),fo]
     simp (disch:=omega) [Qt,Qo,hz,hxi,hq,E,E2]
     refine Qp (Qe.low (Xq 2 (by omega))) (by simp) ?_
     rintro r ⟨⟨h3,w1,w2,w4,k4,rfl⟩,lo⟩
     simp (disch:=omega)
     exact ⟨by omega,w1,w2,w4,k4,by simp⟩
  ·obtain ⟨a,b,rfl⟩:=ZpP (by omega)
   have ka:=kid 0 (by simp) [] (by simp [Qy]) (by simp) (by simp)
   simp only [List.nil_append,List.getElem_cons_zero] at ka
   have kb:=kid 1 (by simp) [] (by simp [Qy]) (by simp) (by simp)
   simp only [List.nil_append,List.getElem_cons_succ,List.getElem_cons_zero] at kb
   have E:∀ k:Int,k≠4->eqB 4 k=false:=fun k h=>by rw [Qb];omega
   have E2:eqB 4 4=true:=by rw [Qc]
   have a0:Qz 4 gty 0 []++ctx.map Prod.snd=ctx.map Prod.snd:=by simp [Qz,Qy]
   have of:=X3 s 4 n nl1 gty nl2 [a,b] 0 (by simp) nlc ctx _ (WH ka.small) (ka.tell nlc)
   simp only [GTerm.lv,GTerm.cells] at of
   simp (disch:=omega) [WI,Qt,Qo,GTerm.cells,E,E2]
   refine Qp (Qe.low of) (by simp) ?_
   rintro r ⟨hr,lo⟩
   cases hA:Qr s (ctx.map Prod.snd) a with
   | bad f p =>
    rw [hA] at hr
    simp only [ofR] at hr
    obtain ⟨hf,u1,u2,u4,n4',rfl⟩:=hr
    have hf0:eqB f 0=false:=by rw [Qb];exact hf
    rw [Zd (by rw [a0];exact hA)]
    simp (disch:=omega) [Qt,Qo,hf0]
    exact ⟨hf,false,false,false,n4',by simp⟩
   | ok x =>
    have hxg:=ka.good x hA
    rw [hA] at hr
    simp only [ofR] at hr
    obtain ⟨u1,u2,u4,n4',rfl⟩:=hr
    have hx:=XX hxg.1
    have lx:=QK hxg.1
    have hxi:QP 1 (L false x.ty) 0=some (.rp [N (hd x.ty)]):=ZV hx.2.2.2.1
    simp (disch:=omega) [Qt,Qo,hz,hxi,E,E2]
    rw [ZnG hA]
    have of2:=X3 s 4 n nl1 gty nl2 [a,b] 1 (by simp) nlc ctx _ (WH kb.small) (kb.tell nlc)
    simp only [GTerm.lv,GTerm.cells] at of2
    refine Qp (Qe.low of2) (by simp) ?_
    rintro r ⟨hr,lo⟩
    cases hB:Qr s (ctx.map Prod.snd) b with
    | bad f p =>
     rw [hB] at hr
     simp only [ofR] at hr
     obtain ⟨hf,v1,v2,v4,m4',rfl⟩:=hr
     have hf0:eqB f 0=false:=by rw [Qb];exact hf
     simp (disch:=omega) [Qt,Qo,hf0]
     exact ⟨hf,false,false,false,m4',by simp⟩
    | ok y =>
     have hyg:=kb.good y hB
     rw [hB] at hr
     simp only [ofR] at hr
     obtain ⟨v1,v2,v4,m4',rfl⟩:=hr
     have ly:=QK hyg.1
     have s1:=ZL t false false x.needs 1 (GSys.G1 t) y.needs (by rw [hxg.2.1];omega) (by rw [hxg.2.1,hyg.2.1]) hxg.2.2 hyg.2.2
     rw [ZbF hsy _ _ hyg.2.2] at s1
     obtain ⟨z,hzz⟩:∃ z,z=1::(x.ty++y.ty):=⟨_,rfl⟩
     have gl:=ZcS 1 false false false x.ty y.ty (by omega) (by omega)
     dsimp only
     rw [<- hzz] at gl ⊢
     simp (disch:=omega) [Qt,Qo,hz,Qn]
     refine Qa gl (by simp) ?_
     simp (disch:=omega)
     refine Qa s1 (by simp) ?_
     simp (disch:=omega)
     have dn:=ZcD z (Y6 s x.needs y.needs)
     refine Qp (Qe.low dn) (by simp) ?_
     rintro r ⟨hr,lo⟩
     have hl:=ZcC (ks:=[x,y]) hr
     unfold Z3 at hl ⊢
     by_cases q9:z.length<=40
     ·rw [if_pos q9] at hl ⊢
      obtain ⟨v1,v2,v4,m4,rfl⟩:=hl
      simp (disch:=omega)
      exact ⟨v1,v2,v4,m4,by simp⟩
     ·rw [if_neg q9] at hl ⊢
      obtain ⟨hf,v1,v2,v4,m4,rfl⟩:=hl
      simp (disch:=omega)
      exact ⟨hf,v1,v2,v4,m4,by simp⟩
  ·obtain ⟨a,b,rfl⟩:=ZpP (by omega)
   have ka:=kid 0 (by simp) [] (by simp [Qy]) (by simp) (by simp)
   simp only [List.nil_append,List.getElem_cons_zero] at ka
   have E:∀ k:Int,k≠5->eqB 5 k=false:=fun k h=>by rw [Qb];omega
   have E2:eqB 5 5=true:=by rw [Qc]
   have a0:Qz 5 gty 0 []++ctx.map Prod.snd=ctx.map Prod.snd:=by simp [Qz,Qy]
   have of:=X3 s 5 n nl1 gty nl2 [a,b] 0 (by simp) nlc ctx _ (WH ka.small) (ka.tell nlc)
   simp only [GTerm.lv,GTerm.cells] at of
   simp (disch:=omega) [WI,Qt,Qo,GTerm.cells,E,E2]
   refine Qp (Qe.low of) (by simp) ?_
   rintro r ⟨hr,lo⟩
   cases hA:Qr s (ctx.map Prod.snd) a with
   | bad f p =>
    rw [hA] at hr
    simp only [ofR] at hr
    obtain ⟨hf,u1,u2,u4,n4',rfl⟩:=hr
    have hf0:eqB f 0=false:=by rw [Qb];exact hf
    rw [Zd (by rw [a0];exact hA)]
    simp (disch:=omega) [Qt,Qo,hf0]
    exact ⟨hf,false,false,false,n4',by simp⟩
   | ok x =>
    have hxg:=ka.good x hA
    rw [hA] at hr
    simp only [ofR] at hr
    obtain ⟨u1,u2,u4,n4',rfl⟩:=hr
    have hx:=XX hxg.1
    have lx:=QK hxg.1
    have hxi:QP 1 (L false x.ty) 0=some (.rp [N (hd x.ty)]):=ZV hx.2.2.2.1
    have kb:hd x.ty=1->KidT s ([(false,QX x.ty),(false,QA x.ty)]++ctx) b:=fun q=>by
     have two:=Xs hxg.1 (by rw [q];exact YG.1)
     have:=kid 1 (by simp) [(false,QX x.ty),(false,QA x.ty)] (by simp [Qy]) (by simp [two.2.1,two.2.2]) (by simp)
     simpa using this
    have hgn:=hgr (by simp [XH,Qc])
    simp (disch:=omega) [Qt,Qo,hz,hxi,E,E2]
    have tk:=Zmb hsy nlc ctx hm n nl1 gty nl2 a b x n4' hgn hxg hA (by have:=YM (ks:=[a,b]) (i:=1) (by simp);simp at this;omega) (fun q=>(kb q).tell false) (fun q y hy=>(kb q).good y hy)
    simp only [GTerm.lv,GTerm.cells] at tk
    refine Qp (Qe.low tk) (by simp) ?_
    rintro r ⟨hr,lo⟩
    cases hT:Qr s (ctx.map Prod.snd) (GTerm.mk 5 n nl1 gty nl2 [a,b]) with
    | ok z =>
     rw [hT] at hr
     obtain ⟨v1,v2,v4,m4,rfl⟩:=hr
     simp (disch:=omega)
     exact ⟨v1,v2,v4,m4,by simp⟩
    | bad f p =>
     rw [hT] at hr
     obtain ⟨hf,v1,v2,v4,m4,rfl⟩:=hr
     simp (disch:=omega)
     exact ⟨hf,v1,v2,v4,m4,by simp⟩
  ·obtain ⟨a,rfl⟩:=kids1 (by omega)
   have ka:=kid 0 (by simp) [] (by simp [Qy]) (by simp) (by simp)
   simp only [List.nil_append,List.getElem_cons_zero] at ka
   have E:∀ k:Int,k≠6->eqB 6 k=false:=fun k h=>by rw [Qb];omega
   have E2:eqB 6 6=true:=by rw [Qc]
   have a0:Qz 6 gty 0 []++ctx.map Prod.snd=ctx.map Prod.snd:=by simp [Qz,Qy]
   have of:=X3 s 6 n nl1 gty nl2 [a] 0 (by simp) nlc ctx _ (WH ka.small) (ka.tell nlc)
   simp only [GTerm.lv,GTerm.cells] at of
   simp (disch:=omega) [WI,Qt,Qo,GTerm.cells,E,E2]
   refine Qp (Qe.low of) (by simp) ?_
   rintro r ⟨hr,lo⟩
   cases hA:Qr s (ctx.map Prod.snd) a with
   | bad f p =>
    rw [hA] at hr
    simp only [ofR] at hr
    obtain ⟨hf,u1,u2,u4,n4',rfl⟩:=hr
    have hf0:eqB f 0=false:=by rw [Qb];exact hf
    rw [Zd (by rw [a0];exact hA)]
    simp (disch:=omega) [Qt,Qo,hf0]
    exact ⟨hf,false,false,false,n4',by simp⟩
   | ok x =>
    have hxg:=ka.good x hA
    rw [hA] at hr
    simp only [ofR] at hr
    obtain ⟨u1,u2,u4,n4',rfl⟩:=hr
    have hx:=XX hxg.1
    have lx:=QK hxg.1
    have hxi:QP 1 (L false x.ty) 0=some (.rp [N (hd x.ty)]):=ZV hx.2.2.2.1
    have hgt:=hty (by simp [Xa,Qc])
    have lg:=QK hgt
    rw [Znn hA]
    obtain ⟨z,hzz⟩:∃ z,z=2::(x.ty++gty):=⟨_,rfl⟩
    have gl:=ZcS 2 false false nl1 x.ty gty (by omega) (by omega)
    rw [<- hzz] at gl ⊢
    simp (disch:=omega) [Qt,Qo,hz,hxi,E,E2,Qn]
    refine Qa gl (by simp) ?_
    simp (disch:=omega)
    have dn:=ZcD z x.needs
    refine Qp (Qe.low dn) (by simp) ?_
    rintro r ⟨hr,lo⟩
    have hl:=ZcC (ks:=[x]) hr
    unfold Z3 at hl ⊢
    by_cases q9:z.length<=40
    ·rw [if_pos q9] at hl ⊢
     obtain ⟨v1,v2,v4,m4,rfl⟩:=hl
     simp (disch:=omega)
     exact ⟨v1,v2,v4,m4,by simp⟩
    ·rw [if_neg q9] at hl ⊢
     obtain ⟨hf,v1,v2,v4,m4,rfl⟩:=hl
     simp (disch:=omega)
     exact ⟨hf,v1,v2,v4,m4,by simp⟩
  ·obtain ⟨a,rfl⟩:=kids1 (by omega)
   have ka:=kid 0 (by simp) [] (by simp [Qy]) (by simp) (by simp)
   simp only [List.nil_append,List.getElem_cons_zero] at ka
   have E:∀ k:Int,k≠7->eqB 7 k=false:=fun k h=>by rw [Qb];omega
   have E2:eqB 7 7=true:=by rw [Qc]
   have a0:Qz 7 gty 0 []++ctx.map Prod.snd=ctx.map Prod.snd:=by simp [Qz,Qy]
   have of:=X3 s 7 n nl1 gty nl2 [a] 0 (by simp) nlc ctx _ (WH ka.small) (ka.tell nlc)
   simp only [GTerm.lv,GTerm.cells] at of
   simp (disch:=omega) [WI,Qt,Qo,GTerm.cells,E,E2]
   refine Qp (Qe.low of) (by simp) ?_
   rintro r ⟨hr,lo⟩
   cases hA:Qr s (ctx.map Prod.snd) a with
   | bad f p =>
    rw [hA] at hr
    simp only [ofR] at hr
    obtain ⟨hf,u1,u2,u4,n4',rfl⟩:=hr
    have hf0:eqB f 0=false:=by rw [Qb];exact hf
    rw [Zd (by rw [a0];exact hA)]
    simp (disch:=omega) [Qt,Qo,hf0]
    exact ⟨hf,false,false,false,n4',by simp⟩
   | ok x =>
    have hxg:=ka.good x hA
    rw [hA] at hr
    simp only [ofR] at hr
    obtain ⟨u1,u2,u4,n4',rfl⟩:=hr
    have hx:=XX hxg.1
    have lx:=QK hxg.1
    have hxi:QP 1 (L false x.ty) 0=some (.rp [N (hd x.ty)]):=ZV hx.2.2.2.1
    have hgt:=hty (by simp [Xa,Qc])
    have lg:=QK hgt
    rw [ZkS hA]
    obtain ⟨z,hzz⟩:∃ z,z=2::(gty++x.ty):=⟨_,rfl⟩
    have gl:=ZcS 2 false nl1 false gty x.ty (by omega) (by omega)
    rw [<- hzz] at gl ⊢
    simp (disch:=omega) [Qt,Qo,hz,hxi,E,E2,Qn]
    refine Qa gl (by simp) ?_
    simp (disch:=omega)
    have dn:=ZcD z x.needs
    refine Qp (Qe.low dn) (by simp) ?_
    rintro r ⟨hr,lo⟩
    have hl:=ZcC (ks:=[x]) hr
    unfold Z3 at hl ⊢
    by_cases q9:z.length<=40
    ·rw [if_pos q9] at hl ⊢
     obtain ⟨v1,v2,v4,m4,rfl⟩:=hl
     simp (disch:=omega)
     exact ⟨v1,v2,v4,m4,by simp⟩
    ·rw [if_neg q9] at hl ⊢
     obtain ⟨hf,v1,v2,v4,m4,rfl⟩:=hl
     simp (disch:=omega)
     exact ⟨hf,v1,v2,v4,m4,by simp⟩
  ·obtain ⟨a,b,c,rfl⟩:=kids3 (by omega)
   have ka:=kid 0 (by simp) [] (by simp [Qy]) (by simp) (by simp)
   simp only [List.nil_append,List.getElem_cons_zero] at ka
   have E:∀ k:Int,k≠8->eqB 8 k=false:=fun k h=>by rw [Qb];omega
   have E2:eqB 8 8=true:=by rw [Qc]
   have a0:Qz 8 gty 0 []++ctx.map Prod.snd=ctx.map Prod.snd:=by simp [Qz,Qy]
   have of:=X3 s 8 n nl1 gty nl2 [a,b,c] 0 (by simp) nlc ctx _ (WH ka.small) (ka.tell nlc)
   simp only [GTerm.lv,GTerm.cells] at of
   simp (disch:=omega) [WI,Qt,Qo,GTerm.cells,E,E2]
   refine Qp (Qe.low of) (by simp) ?_
   rintro r ⟨hr,lo⟩
   cases hA:Qr s (ctx.map Prod.snd) a with
   | bad f p =>
    rw [hA] at hr
    simp only [ofR] at hr
    obtain ⟨hf,u1,u2,u4,n4',rfl⟩:=hr
    have hf0:eqB f 0=false:=by rw [Qb];exact hf
    rw [Zd (by rw [a0];exact hA)]
    simp (disch:=omega) [Qt,Qo,hf0]
    exact ⟨hf,false,false,false,n4',by simp⟩
   | ok x =>
    have hxg:=ka.good x hA
    rw [hA] at hr
    simp only [ofR] at hr
    obtain ⟨u1,u2,u4,n4',rfl⟩:=hr
    have hx:=XX hxg.1
    have lx:=QK hxg.1
    have hxi:QP 1 (L false x.ty) 0=some (.rp [N (hd x.ty)]):=ZV hx.2.2.2.1
    have kb:hd x.ty=2->KidT s ([(false,QA x.ty)]++ctx) b:=fun q=>by
     have two:=Xs hxg.1 (by rw [q];exact YG.2)
     have:=kid 1 (by simp) [(false,QA x.ty)] (by simp [Qy]) (by simp [two.2.1,two.2.2]) (by simp)
     simpa using this
    have kc:hd x.ty=2->KidT s ([(false,QX x.ty)]++ctx) c:=fun q=>by
     have two:=Xs hxg.1 (by rw [q];exact YG.2)
     have:=kid 2 (by simp) [(false,QX x.ty)] (by simp [Qy]) (by simp [two.2.1,two.2.2]) (by simp)
     simpa using this
    have hgn:=hgr (by simp [XH,Qc])
    simp (disch:=omega) [Qt,Qo,hz,hxi,E,E2]
    have tk:=Zpe hsy nlc ctx hm n nl1 gty nl2 a b c x n4' hgn hxg hA (by have:=YM (ks:=[a,b,c]) (i:=1) (by simp);simp at this;omega) (by have:=YM (ks:=[a,b,c]) (i:=2) (by simp);simp at this;omega) (fun q=>(kb q).tell false) (fun q y hy=>(kb q).good y hy) (fun q=>(kc q).tell false) (fun q y hy=>(kc q).good y hy)
    simp only [GTerm.lv,GTerm.cells] at tk
    refine Qp (Qe.low tk) (by simp) ?_
    rintro r ⟨hr,lo⟩
    cases hT:Qr s (ctx.map Prod.snd) (GTerm.mk 8 n nl1 gty nl2 [a,b,c]) with
    | ok z =>
     rw [hT] at hr
     obtain ⟨v1,v2,v4,m4,rfl⟩:=hr
     simp (disch:=omega)
     exact ⟨v1,v2,v4,m4,by simp⟩
    | bad f p =>
     rw [hT] at hr
     obtain ⟨hf,v1,v2,v4,m4,rfl⟩:=hr
     simp (disch:=omega)
     exact ⟨hf,v1,v2,v4,m4,by simp⟩
  ·obtain ⟨a,rfl⟩:=kids1 (by omega)
   have hgt:=hty (by simp [Xa,Qc])
   have lg:=QK hgt
   have hn1:nl1=false:=by
    cases hn:nl1 with
    | false=>rfl
    | true=>have:=fl1 hn;subst this;simp at lg
   subst hn1
   have hgn:=hgr (by simp [XH,Qc])
   have ka:KidT s ([(false,gty)]++ctx) a:=by
    have:=kid 0 (by simp) [(false,gty)] (by simp [Qy]) (by simp [hgt]) (by simp)
    simpa using this
   have E:∀ k:Int,k≠9->eqB 9 k=false:=fun k h=>by rw [Qb];omega
   have E2:eqB 9 9=true:=by rw [Qc]
   have a0:Qz 9 gty 0 []++ctx.map Prod.snd=gty::ctx.map Prod.snd:=by simp [Qz]
   have of:=X3 s 9 n false gty nl2 [a] 0 (by simp) false ((false,gty)::ctx) _ (WH ka.small) (ka.tell false)
   have w:=Zck nlc false ctx [(false,gty)] (by omega) (by simp)
   simp only [GTerm.lv,GTerm.cells,List.map_cons,List.map_nil,List.cons_append,List.nil_append] at of w
   simp (disch:=omega) [WI,Qt,Qo,GTerm.cells,E,E2,Qn]
   refine Qa w (by simp) ?_
   simp (disch:=omega) [E,E2]
   refine Qp (Qe.low of) (by simp) ?_
   rintro r ⟨hr,lo⟩
   cases hA:Qr s (gty::ctx.map Prod.snd) a with
   | bad f p =>
    rw [hA] at hr
    simp only [ofR] at hr
    obtain ⟨hf,u1,u2,u4,n4',rfl⟩:=hr
    have hf0:eqB f 0=false:=by rw [Qb];exact hf
    rw [Zd (by rw [a0];exact hA)]
    simp (disch:=omega) [Qt,Qo,hf0]
    exact ⟨hf,false,false,false,n4',by simp⟩
   | ok x =>
    have hxg:=ka.good x hA
    rw [hA] at hr
    simp only [ofR] at hr
    obtain ⟨u1,u2,u4,n4',rfl⟩:=hr
    have lx:=QK hxg.1
    have hxl:x.needs.length=ctx.length+1:=by have:=hxg.2.1;simpa using this
    have c2:ZZ 1 (L false x.needs) (some 1) none none=some (L false (x.needs.drop 1)):=ZM (k:=1) (by omega)
    have i0:QP 1 (L false x.needs) 0=some (.rp [N (x.needs.getD 0 0)]):=Znd (i:=0) (by omega)
    have g0:=ZhH hxg.2.2 (show 0 < x.needs.length by omega)
    have cp:=KF false (x.needs.drop 1) (by simp;omega)
    have us:=used1 (s:=s) (l:=x.needs) (g:=n) (by omega)
    rw [tell_fun hA,us]
    generalize x.needs.getD 0 0=y0 at *
    obtain ⟨yr,hyr⟩:∃ yr,yr=x.needs.drop 1:=⟨_,rfl⟩
    rw [<- hyr] at c2 cp ⊢
    obtain ⟨z,hzz⟩:∃ z,z=(3+n)::(gty++x.ty):=⟨_,rfl⟩
    have gl:=ZcS (3+n) false false false gty x.ty (by omega) (by omega)
    rw [<- hzz] at gl ⊢
    have wr:IntKind.i64.wrap (3+n)=3+n:=Qg (by have:=hgn.1;have:=hgn.2;omega)
    simp (disch:=omega) [Qt,Qo,hz,E,E2,i0]
    refine Qa (Zx t g0 hgn) (by simp) ?_
    cases hu:s.le y0 n
    ·simp (disch:=omega)
     refine Qp (Qe.low (Xq 9 (by omega))) (by simp) ?_
     rintro r ⟨⟨h3,w1,w2,w4,k4,rfl⟩,lo⟩
     simp (disch:=omega)
     exact ⟨by omega,w1,w2,w4,k4,by simp⟩
    ·simp (disch:=omega) [Qn,wr,c2]
     refine Qa gl (by simp) ?_
     simp (disch:=omega) [c2]
     refine Qa cp (by simp) ?_
     simp (disch:=omega)
     have dn:=ZcD z yr
     refine Qp (Qe.low dn) (by simp) ?_
     rintro r ⟨hr,lo⟩
     have hl:=ZcC (ks:=[x]) hr
     unfold Z3 at hl ⊢
     by_cases q9:z.length<=40
     ·rw [if_pos q9] at hl ⊢
      obtain ⟨v1,v2,v4,m4,rfl⟩:=hl
      simp (disch:=omega)
      exact ⟨v1,v2,v4,m4,by simp⟩
     ·rw [if_neg q9] at hl ⊢
      obtain ⟨hf,v1,v2,v4,m4,rfl⟩:=hl
      simp (disch:=omega)
      exact ⟨hf,v1,v2,v4,m4,by simp⟩
  ·obtain ⟨a,b,rfl⟩:=ZpP (by omega)
   have ka:=kid 0 (by simp) [] (by simp [Qy]) (by simp) (by simp)
   simp only [List.nil_append,List.getElem_cons_zero] at ka
   have kb:=kid 1 (by simp) [] (by simp [Qy]) (by simp) (by simp)
   simp only [List.nil_append,List.getElem_cons_succ,List.getElem_cons_zero] at kb
   have E:∀ k:Int,k≠10->eqB 10 k=false:=fun k h=>by rw [Qb];omega
   have E2:eqB 10 10=true:=by rw [Qc]
   have a0:Qz 10 gty 0 []++ctx.map Prod.snd=ctx.map Prod.snd:=by simp [Qz,Qy]
   have of:=X3 s 10 n nl1 gty nl2 [a,b] 0 (by simp) nlc ctx _ (WH ka.small) (ka.tell nlc)
   simp only [GTerm.lv,GTerm.cells] at of
   simp (disch:=omega) [WI,Qt,Qo,GTerm.cells,E,E2]
   refine Qp (Qe.low of) (by simp) ?_
   rintro r ⟨hr,lo⟩
   cases hA:Qr s (ctx.map Prod.snd) a with
   | bad f p =>
    rw [hA] at hr
    simp only [ofR] at hr
    obtain ⟨hf,u1,u2,u4,n4',rfl⟩:=hr
    have hf0:eqB f 0=false:=by rw [Qb];exact hf
    rw [Zd (by rw [a0];exact hA)]
    simp (disch:=omega) [Qt,Qo,hf0]
    exact ⟨hf,false,false,false,n4',by simp⟩
   | ok x =>
    have hxg:=ka.good x hA
    rw [hA] at hr
    simp only [ofR] at hr
    obtain ⟨u1,u2,u4,n4',rfl⟩:=hr
    have hx:=XX hxg.1
    have lx:=QK hxg.1
    have hxi:QP 1 (L false x.ty) 0=some (.rp [N (hd x.ty)]):=ZV hx.2.2.2.1
    rw [tell_app hA hxg.1]
    simp (disch:=omega) [Qt,Qo,hz,hxi,E,E2]
    refine Qa (Zla (hd x.ty)) (by simp) ?_
    cases q:QW (hd x.ty)
    ·simp (disch:=omega)
     refine Qp (Qe.low (Xq 6 (by omega))) (by simp) ?_
     rintro r ⟨⟨h3,w1,w2,w4,k4,rfl⟩,lo⟩
     simp (disch:=omega)
     exact ⟨by omega,w1,w2,w4,k4,by simp⟩
    ·simp (disch:=omega)
     have of2:=X3 s 10 n nl1 gty nl2 [a,b] 1 (by simp) nlc ctx _ (WH kb.small) (kb.tell nlc)
     simp only [GTerm.lv,GTerm.cells] at of2
     refine Qp (Qe.low of2) (by simp) ?_
     rintro r ⟨hr,lo⟩
     cases hB:Qr s (ctx.map Prod.snd) b with
     | bad f p =>
      rw [hB] at hr
      simp only [ofR] at hr
      obtain ⟨hf,v1,v2,v4,m4',rfl⟩:=hr
      have hf0:eqB f 0=false:=by rw [Qb];exact hf
      simp (disch:=omega) [Qt,Qo,hf0]
      exact ⟨hf,false,false,false,m4',by simp⟩
     | ok y =>
      have hyg:=kb.good y hB
      rw [hB] at hr
      simp only [ofR] at hr
      obtain ⟨v1,v2,v4,m4',rfl⟩:=hr
      have ly:=QK hyg.1
      have s1:=ZL t false false x.needs 1 (GSys.G1 t) y.needs (by rw [hxg.2.1];omega) (by rw [hxg.2.1,hyg.2.1]) hxg.2.2 hyg.2.2
      rw [ZbF hsy _ _ hyg.2.2] at s1
      have hk:=ZcE q
      have p0:=YF hxg.1 0 (.inr hk)
      have p1:=YF hxg.1 1 (.inr hk)
      have hsg:(QH (hd x.ty)).2=Xx (hd x.ty):=(KL hx.2.1 hx.2.2.1).2.2.2.2.2 (.inl q)
      have hgG:s.G (Xx (hd x.ty)):=Zfb hx.1 (.inl q)
      simp (disch:=omega) [Qt,Qo,hz,Qn]
      refine Qa p0 (by simp) ?_
      simp (disch:=omega)
      refine Qa (Zcc false false y.ty (QA x.ty) (by omega)) (by simp) ?_
      cases he:(y.ty == QA x.ty)
      ·have he':y.ty≠QA x.ty:=by simpa using he
       simp (disch:=omega)
       refine Qp (Qe.low (Xq 3 (by omega))) (by simp) ?_
       rintro r ⟨⟨h3,w1,w2,w4,k4,rfl⟩,lo⟩
       simp (disch:=omega) [he']
       exact ⟨by omega,w1,w2,w4,k4,by simp⟩
      ·have he':y.ty=QA x.ty:=by simpa using he
       simp (disch:=omega)
       refine Qa p1 (by simp) ?_
       simp (disch:=omega) [hxi]
       refine Qa (ZhB (hd x.ty) (by unfold I64;omega) hx.2.1) (by simp) ?_
       simp (disch:=omega)
       have s3:=ZL t false false x.needs (Xx (hd x.ty)) hgG y.needs (by rw [hxg.2.1];omega) (by rw [hxg.2.1,hyg.2.1]) hxg.2.2 hyg.2.2
       rw [ZkV] at s3
       refine Qa s3 (by simp) ?_
       simp (disch:=omega) [he',hsg]
       exact ⟨true,true,true,true,by simp⟩
  ·obtain ⟨a,rfl⟩:=kids1 (by omega)
   have ka:=kid 0 (by simp) [] (by simp [Qy]) (by simp) (by simp)
   simp only [List.nil_append,List.getElem_cons_zero] at ka
   have E:∀ k:Int,k≠11->eqB 11 k=false:=fun k h=>by rw [Qb];omega
   have E2:eqB 11 11=true:=by rw [Qc]
   have a0:Qz 11 gty 0 []++ctx.map Prod.snd=ctx.map Prod.snd:=by simp [Qz,Qy]
   have of:=X3 s 11 n nl1 gty nl2 [a] 0 (by simp) nlc ctx _ (WH ka.small) (ka.tell nlc)
   simp only [GTerm.lv,GTerm.cells] at of
   simp (disch:=omega) [WI,Qt,Qo,GTerm.cells,E,E2]
   refine Qp (Qe.low of) (by simp) ?_
   rintro r ⟨hr,lo⟩
   cases hA:Qr s (ctx.map Prod.snd) a with
   | bad f p =>
    rw [hA] at hr
    simp only [ofR] at hr
    obtain ⟨hf,u1,u2,u4,n4',rfl⟩:=hr
    have hf0:eqB f 0=false:=by rw [Qb];exact hf
    rw [Zd (by rw [a0];exact hA)]
    simp (disch:=omega) [Qt,Qo,hf0]
    exact ⟨hf,false,false,false,n4',by simp⟩
   | ok x =>
    have hxg:=ka.good x hA
    rw [hA] at hr
    simp only [ofR] at hr
    obtain ⟨u1,u2,u4,n4',rfl⟩:=hr
    have hx:=XX hxg.1
    have lx:=QK hxg.1
    have hxi:QP 1 (L false x.ty) 0=some (.rp [N (hd x.ty)]):=ZV hx.2.2.2.1
    have hgn:=hgr (by simp [XH,Qc])
    rw [Zpy hA]
    obtain ⟨z,hzz⟩:∃ z,z=(19+n)::x.ty:=⟨_,rfl⟩
    have gl:=ZrH (19+n) false false x.ty (by omega)
    rw [<- hzz] at gl ⊢
    have zr:=ZaV ctx.length (by omega)
    have sc:=ZL t false false (zeros ctx.length) n hgn x.needs (by simp [zeros];omega) (by rw [hxg.2.1];simp [zeros]) (Zbx t _).2 hxg.2.2
    have e1:=ZdW hsy n x.needs
    rw [hxg.2.1] at e1
    rw [e1] at sc
    have wr:IntKind.i64.wrap (19+n)=19+n:=Qg (by have:=hgn.1;have:=hgn.2;omega)
    simp (disch:=omega) [Qt,Qo,hz,hxi,E,E2,Qn,wr]
    refine Qa gl (by simp) ?_
    simp (disch:=omega)
    refine Qa zr (by simp) ?_
    simp (disch:=omega)
    refine Qa sc (by simp) ?_
    simp (disch:=omega)
    have dn:=ZcD z (Wg s n x.needs)
    refine Qp (Qe.low dn) (by simp) ?_
    rintro r ⟨hr,lo⟩
    have hl:=ZcC (ks:=[x]) hr
    unfold Z3 at hl ⊢
    by_cases q9:z.length<=40
    ·rw [if_pos q9] at hl ⊢
     obtain ⟨v1,v2,v4,m4,rfl⟩:=hl
     simp (disch:=omega)
     exact ⟨v1,v2,v4,m4,by simp⟩
    ·rw [if_neg q9] at hl ⊢
     obtain ⟨hf,v1,v2,v4,m4,rfl⟩:=hl
     simp (disch:=omega)
     exact ⟨hf,v1,v2,v4,m4,by simp⟩
  ·obtain ⟨a,b,rfl⟩:=ZpP (by omega)
   have ka:=kid 0 (by simp) [] (by simp [Qy]) (by simp) (by simp)
   simp only [List.nil_append,List.getElem_cons_zero] at ka
   have E:∀ k:Int,k≠12->eqB 12 k=false:=fun k h=>by rw [Qb];omega
   have E2:eqB 12 12=true:=by rw [Qc]
   have a0:Qz 12 gty 0 []++ctx.map Prod.snd=ctx.map Prod.snd:=by simp [Qz,Qy]
   have of:=X3 s 12 n nl1 gty nl2 [a,b] 0 (by simp) nlc ctx _ (WH ka.small) (ka.tell nlc)
   simp only [GTerm.lv,GTerm.cells] at of
   simp (disch:=omega) [WI,Qt,Qo,GTerm.cells,E,E2]
   refine Qp (Qe.low of) (by simp) ?_
   rintro r ⟨hr,lo⟩
   cases hA:Qr s (ctx.map Prod.snd) a with
   | bad f p =>
    rw [hA] at hr
    simp only [ofR] at hr
    obtain ⟨hf,u1,u2,u4,n4',rfl⟩:=hr
    have hf0:eqB f 0=false:=by rw [Qb];exact hf
    rw [Zd (by rw [a0];exact hA)]
    simp (disch:=omega) [Qt,Qo,hf0]
    exact ⟨hf,false,false,false,n4',by simp⟩
   | ok x =>
    have hxg:=ka.good x hA
    rw [hA] at hr
    simp only [ofR] at hr
    obtain ⟨u1,u2,u4,n4',rfl⟩:=hr
    have hx:=XX hxg.1
    have lx:=QK hxg.1
    have hxi:QP 1 (L false x.ty) 0=some (.rp [N (hd x.ty)]):=ZV hx.2.2.2.1
    have kb:WJ (hd x.ty)=true->KidT s ([(false,QA x.ty)]++ctx) b:=fun q=>by
     have two:=ZbC hxg.1 (ZgY q)
     have:=kid 1 (by simp) [(false,QA x.ty)] (by simp [Qy]) (by simp [two.2.2]) (by simp)
     simpa using this
    have hgn:=hgr (by simp [XH,Qc])
    simp (disch:=omega) [Qt,Qo,hz,hxi,E,E2]
    have tk:=Zo1 hsy nlc ctx hm n nl1 gty nl2 a b x n4' hgn hxg hA (by have:=YM (ks:=[a,b]) (i:=1) (by simp);simp at this;omega) (fun q=>(kb q).tell false) (fun q y hy=>(kb q).good y hy)
    simp only [GTerm.lv,GTerm.cells] at tk
    refine Qp (Qe.low tk) (by simp) ?_
    rintro r ⟨hr,lo⟩
    cases hT:Qr s (ctx.map Prod.snd) (GTerm.mk 12 n nl1 gty nl2 [a,b]) with
    | ok z =>
     rw [hT] at hr
     obtain ⟨v1,v2,v4,m4,rfl⟩:=hr
     simp (disch:=omega)
     exact ⟨v1,v2,v4,m4,by simp⟩
    | bad f p =>
     rw [hT] at hr
     obtain ⟨hf,v1,v2,v4,m4,rfl⟩:=hr
     simp (disch:=omega)
     exact ⟨hf,v1,v2,v4,m4,by simp⟩
theorem Zfo {s:GSys} (hsw:s.wf) (g:GTerm) (hw:g.wf) (n:Int) (hn:I64 n):Qe Tryz.prog VV [s.lv,g.lv,N n] (·=B (s.sys && g.termB s.size n)):=by
 refine Qe.of_codeOf ZmN Qx (by simp) ⟨_,rfl,by simp⟩ ?_
 simp (disch:=omega) [Zfq,Qt,Qo]
 refine Qa (Zal s hsw) (by simp) ?_
 cases hs:s.sys
 ·simp (disch:=omega)
 ·have t:=GSys.sys_of hs
  have h2:=t.lo;have h16:=t.hi
  simp (disch:=omega)
  refine Qa (Zky n 0 8) (by simp) ?_
  cases hr:Wc n 0 8
  ·simp (disch:=omega) [GTerm.termB,hr]
  ·rw [Wb] at hr
   have hr':Wc n 0 8=true:=by rw [Wb];exact hr
   have hl:=ZsI g.size g (by omega) hw 400 (by omega) (by omega)
   have h2':leB 0 (Xi g.size 400)=decide (g.size<=400):=by
    rw [Bool.eq_iff_iff]
    simp only [Qf,Qd,Qi,Qh,Qc,Qb,Bool.not_true,Bool.not_false,Xi,decide_eq_true_eq]
    split<;>omega
   simp (disch:=omega)
   refine Qa hl (by simp) ?_
   by_cases hsz:g.size<=400
   ·have hI:I64 s.size:=⟨by omega,by omega⟩
    have hf:=Ztd s.size true hI g.size g (by omega) hw n (by omega) (by omega)
    simp (disch:=omega) [h2',hsz]
    refine Qa hf (by simp) ?_
    simp (disch:=omega) [GTerm.termB,hr',hsz]
   ·simp (disch:=omega) [h2',hsz,GTerm.termB]
theorem Zrn {s:GSys} {ctx:Wk} {g:GTerm} (a:Arg s ctx g) (nlc:Bool):Qe Tryz.prog ZaZ [s.lv,LC nlc ctx,g.lv] (·=B (inB s ctx g)):=by
 refine Qe.of_codeOf ZkF Qx (by simp) ⟨_,rfl,by simp⟩ ?_
 simp (disch:=omega) [ZeP,Qt,Qo]
 refine Qa (Zal s a.sw) (by simp) ?_
 cases hs:s.sys
 ·simp (disch:=omega) [inB,hs]
 ·have t:=GSys.sys_of hs
  simp (disch:=omega)
  refine Qa (Zpg s t nlc ctx a.cw) (by simp) ?_
  cases hc:ZhL s.size ctx
  ·simp (disch:=omega) [inB,hs,hc]
  ·simp (disch:=omega)
   have it:=Zfo a.sw g a.gw ctx.length (ZnN a.cw)
   rw [hs] at it
   refine Qa it (by simp) ?_
   simp (disch:=omega) [inB,hs,hc]
def ZoG (x:Option TT) (r:LV):Prop:=match x with
 | some x=>∃ u1 u2,r=.tup [OU u1 false x.ty,OU u2 false x.needs,B true]
 | none=>∃ u1 u2,r=.tup [.sl u1 true 1 [],.sl u2 true 1 [],B false]
theorem Zmn {s:GSys} {ctx:Wk} {g:GTerm} (a:Arg s ctx g) (nlc:Bool):Qe Tryz.prog Zb2 [s.lv,LC nlc ctx,g.lv] (ZoG (Z2 s ctx g)):=by
 refine Qe.of_codeOf ZlR Qx (by simp) ?_ ?_
 ·cases h:Z2 s ctx g with
  | some x=>exact ⟨.tup [OU true false x.ty,OU true false x.needs,B true],⟨true,true,rfl⟩,by simp⟩
  | none=>exact ⟨.tup [.sl false true 1 [],.sl false true 1 [],B false],⟨false,false,rfl⟩,by simp⟩
 simp (disch:=omega) [Zfs,Qt,Qo]
 refine Qa (Zrn a nlc) (by simp) ?_
 cases hin:inB s ctx g
 ·have hx:Z2 s ctx g=none:=by simp [Z2,hin]
  rw [hx]
  simp (disch:=omega) [ZoG]
 ·have hin':=hin
  unfold inB at hin'
  simp only [Bool.and_eq_true] at hin'
  obtain ⟨hs,hc,ht⟩:=hin'
  obtain ⟨f1,f2,f3⟩:=a.flags hc
  unfold GTerm.termB at ht
  simp only [Bool.and_eq_true,decide_eq_true_eq] at ht
  have tl:=ZsN hs g.size g nlc ctx (Nat.le_refl _) a.gw a.gf f1 f2 (by omega) ht.2.2
  simp (disch:=omega)
  refine Qp (Qe.low tl) (by simp) ?_
  rintro r ⟨hr,lo⟩
  cases hT:Qr s (ctx.map Prod.snd) g with
  | ok x =>
   have hx:Z2 s ctx g=some x:=by simp [Z2,hin,hT]
   rw [hT] at hr
   obtain ⟨u1,u2,u4,n4,rfl⟩:=hr
   have hz:eqB 0 0=true:=by rw [Qc]
   rw [hx]
   simp (disch:=omega) [Qt,Qo,hz,ZoG]
  | bad f p =>
   have hx:Z2 s ctx g=none:=by simp [Z2,hin,hT]
   rw [hT] at hr
   obtain ⟨hf,u1,u2,u4,n4,rfl⟩:=hr
   have hf0:eqB f 0=false:=by rw [Qb];exact hf
   rw [hx]
   simp (disch:=omega) [Qt,Qo,hf0,ZoG]
attribute [local simp low] Xp
attribute [local simp] Zgp Zf6 Zga ZfZ Zf3 Zgn
end Go.Proofs.YtbmepminmpjlcaaGreat
namespace Go.Proofs.YtbmepminmpjlcaaGreat
open Go Go.TL
open Go.Proofs.YtbmepminmpjlcaaGreat.Ty
set_option linter.unusedSimpArgs false
set_option linter.unusedVariables false
set_option linter.unusedSectionVars false
set_option maxRecDepth 20000
set_option maxHeartbeats 4000000
abbrev OF (l:List Int):LV:=.sl (!l.isEmpty) l.isEmpty 1 (l.map fun n=>[N n])
theorem b4:WJ 4=false∧QW 4=true:=by decide
mutual
def GTerm.ownC:GTerm->List LV
 | .mk op n _ ty _ ks=>[N op,N n,OF ty,.sl (!ks.isEmpty) ks.isEmpty 4 (Zac ks)]
def Zac:List GTerm->List (List LV)
 | []=>[]
 | k::ks=>k.ownC::Zac ks
end
mutual
def GTerm.nm:GTerm->GTerm
 | .mk op n _ ty _ ks=>.mk op n ty.isEmpty ty ks.isEmpty (nms ks)
def nms:List GTerm->List GTerm
 | []=>[]
 | k::ks=>k.nm::nms ks
end
theorem Zkm:∀ ks:List GTerm,Zac ks=ks.map GTerm.ownC
 | []=>by simp [Zac]
 | k::ks=>by simp [Zac,Zkm ks]
theorem ZoF:∀ ks:List GTerm,nms ks=ks.map GTerm.nm
 | []=>by simp [nms]
 | k::ks=>by simp [nms,ZoF ks]
@[simp] theorem ownCs_length (ks:List GTerm):(Zac ks).length=ks.length:=by simp [Zkm]
@[simp] theorem Zkk (ks:List GTerm):(nms ks).length=ks.length:=by simp [ZoF]
theorem Ze6 (ks:List GTerm):(nms ks).isEmpty=ks.isEmpty:=by cases ks<;>simp [nms]
@[simp] theorem ownC_length (t:GTerm):t.ownC.length=4:=by cases t;simp [GTerm.ownC]
@[simp] theorem take_ownC (t:GTerm):t.ownC.take 4=t.ownC:=List.take_of_length_le (by simp)
@[simp] theorem alive_ownC (t:GTerm):WK t.ownC=true:=by cases t;simp [GTerm.ownC]
mutual
theorem Za3:∀ t:GTerm,shareAll t.ownC=t.nm.cells
 | .mk op n nl1 ty nl2 ks=>by
  simp only [GTerm.ownC,GTerm.nm,GTerm.cells,shareAll,share,ZdZ ks]
  congr 3
  simp
theorem ZdZ:∀ ks:List GTerm,Qv (Zac ks)=Q9 (nms ks)
 | []=>by simp [Zac,nms,Q9,Qv]
 | k::ks=>by simp only [Zac,nms,Q9,Qv,Za3 k,ZdZ ks]
end
attribute [simp] Za3 ZdZ
mutual
theorem Zqs (k:Nat):∀ t:GTerm,QI k t.ownC
 | .mk op n nl1 ty nl2 ks=>by
  have:=Zif k ks
  simp [GTerm.ownC,this]
theorem Zif (k:Nat):∀ ks:List GTerm,WV k (Zac ks)
 | []=>by simp [Zac]
 | t::ks=>by simp [Zac,Zqs k t,Zif k ks]
end
attribute [simp] Zqs Zif
mutual
theorem Zc1:∀ t:GTerm,QS t.ownC
 | .mk op n nl1 ty nl2 ks=>by
  have h:=Zix ks
  have w:=Zc (fun n:Int=>Value.int .i64 n) (!ty.isEmpty) ty.isEmpty ty (by cases ty<;>simp)
  simp only [GTerm.ownC,QS,QB] at w ⊢
  refine ⟨trivial,trivial,w,⟨?_,h⟩,trivial⟩
  cases ks with
  | nil=>simp [Zac]
  | cons k ks=>exact .inr ⟨by simp,by simp,fun r hr=>by rw [Zkm] at hr;obtain ⟨g,_,rfl⟩:=List.mem_map.1 hr;simp⟩
theorem Zix:∀ ks:List GTerm,QL (Zac ks)
 | []=>by simp [Zac,QL]
 | t::ks=>by simp only [Zac,QL];exact ⟨Zc1 t,Zix ks⟩
end
mutual
theorem Zn2:∀ a:GTerm,a.nm.size=a.size
 | .mk op n nl1 ty nl2 ks=>by simp [GTerm.nm,GTerm.size,Zny ks]
theorem Zny:∀ a:List GTerm,WB (nms a)=WB a
 | []=>by simp [nms,WB]
 | a::a'=>by simp [nms,WB,Zn2 a,Zny a']
end
mutual
theorem wf_nm:∀ a:GTerm,a.wf->a.nm.wf
 | .mk op n nl1 ty nl2 ks,h=>by
  simp only [GTerm.wf,GTerm.nm] at *
  exact ⟨h.1,h.2.1,h.2.2.1,by rw [Zkk];exact h.2.2.2.1,Zsk ks h.2.2.2.2⟩
theorem Zsk:∀ a:List GTerm,wfs a->wfs (nms a)
 | [],_=>by simp [nms,wfs]
 | a::a',h=>by
  simp only [wfs,nms] at *
  exact ⟨wf_nm a h.1,Zsk a' h.2⟩
end
theorem Qe.nzR {P:Program} {f:FuncId} {args:List LV} {R R':LV->Prop} (c:Qe P f args R) (hr:∀ r,R r->∃ r',Go.TL.nz r'=Go.TL.nz r∧R' r'∧Low 0 r'):Qe P f args R' :=
 QE.nzR c fun r h' h=>by obtain ⟨r',h1,h2,h3⟩:=hr r h.1;exact ⟨r',h1,h2,h3⟩
theorem XA {P:Program} {a b c:C} {Q:Exit->St->Prop} {s:St}:wpC P (.seq a (.seq b c)) Q s ↔ wpC P (.seq (.seq a b) c) Q s:=by
 have e:Yu (wpC P b (Yu (wpC P c Q) Q)) Q=Yu (wpC P b (Yu (wpC P c Q) Q)) (Yu (wpC P c Q) Q):=by
  funext e s;cases e<;>rfl
 show wpC P a (Yu (wpC P b (Yu (wpC P c Q) Q)) Q) s ↔ wpC P a (Yu (wpC P b (Yu (wpC P c Q) Q)) (Yu (wpC P c Q) Q)) s
 rw [e]
structure LkAt (s:GSys) (M k0:Nat) (h H:List Box) (l:Nat) (σ:List PC) (ids:List Nat) (O:Nat):Prop where
 ms:MS s M k0 H l σ ids
 fr:Fr M ids h H
 o1:h.length<=O
 o2:O < H.length
 o3:O≠M
 o4:O ∉ ids
 box:H[O]?=some (some [N 0,N 0,.sl true true 1 [],.sl true true 1 []])
theorem LkAt.n {s:GSys} {M k0:Nat} {h H:List Box} {l:Nat} {σ:List PC} {ids:List Nat} {O:Nat} (A:LkAt s M k0 h H l σ ids O):LkN s M k0 h H l σ ids [] O :=
 ⟨by rw [List.append_nil];exact A.ms,A.fr,by simp,A.o1,A.o2,A.o3,by rw [List.append_nil];exact A.o4,A.box⟩
theorem Zr {r:LR} {f:Nat->List PC->GTerm->List Nat->LR} (h:r.bind f≠.stuck):r≠.stuck:=by
 rintro rfl
 exact h rfl
theorem look_ok {s:GSys} (hs:s.sys=true) (sw:s.wf):∀ (d l:Nat) (σ:List PC) (t:GTerm) (env:List Nat) (q:Int) (nl:Bool) (h:List Box) (ids:List Nat) (M k0:Nat),3000 < l+d->l<=3000->MS s M k0 h l σ ids->BD s l σ->BE l σ env->σ.length<=2 * l+8->s.G q->Q5 s d l σ t env q≠.stuck ->
  QE Tryz.prog QJ [.ptr M 0,t.lv,PL false nl (Y9 ids env),N q] h (Ko s M k0 h ids (Q5 s d l σ t env q)):=by
 have ts:=GSys.sys_of hs
 intro d
 induction d with
 | zero=>intro l σ t env q nl h ids M k0 h1 h2;omega
 | succ d ih =>
  intro l σ t env q nl h ids M k0 hd hl m bd be hm hq hns
  have hex:=Ko.ex m hns (fun l' σ' v e he=>(Kw ts _ _ _ _ _ _ _ _ _ _ he bd be).2.2.1)
  refine QE.of_codeOf KV Qx (by simp) hex ?_
  simp only [ZD]
  rw [XA]
  refine ZcZ (fun t' H=>∃ O,t' 0=.ptr M 0∧t' 2=PL false nl (Y9 ids env)∧t' 3=N q∧t' 5=.rp t.cells∧t' 8=.ptr O 0∧LkAt s M k0 h H (l+1) σ ids O) ?_ ?_
  ·obtain ⟨nm,hnm,hb⟩:=m.box
   have lM:=m.lM
   have ga:∀ k:List Box,(h++k)[M]?=h[M]?:=fun k=>Q7 lM
   have gs:∀ (k:List Box) (x:Box),(h++k).set M x=h.set M x++k:=fun k x=>List.set_append_left _ _ lM
   have m1:=(m.app [none,some [N 0,N 0,.sl true true 1 [],.sl true true 1 []]]).tick (l':=l+1) ⟨nm,hnm,rfl⟩
   have f1:=(Fr.app M ids h [none,some [N 0,N 0,.sl true true 1 [],.sl true true 1 []]]).setM (some (s.cells++[PL true nm (ids.drop k0),N (l+1:Nat),B false]))
   rw [gs] at m1 f1
   have hni:h.length+1 ∉ ids:=fun hi=>by have:=m.lt _ hi;omega
   have hne:h.length+1≠M:=by omega
   simp only [GSys.cells,List.cons_append,List.nil_append] at hb m1 f1
   generalize ids.drop k0=dr at *
   clear lM
   simp (disch:=omega) [ga,gs,QN,XG,hb,Qt,Qo,Qg]
   have ec:((l+1:Nat):Int)=(l:Int)+1:=by omega
   rw [ec] at m1 f1
   exact ⟨m1,f1,by omega,by simp,hne,hni,by rw [List.getElem?_append_right (by simp)];simp⟩
  ·rintro t' H hf ⟨O,e0,e2,e3,e5,e8,A⟩
   clear hf
   obtain ⟨nm,hnm,hb⟩:=A.ms.box
   have lM:=A.ms.lM
   have ec:((l+1:Nat):Int)=(l:Int)+1:=by omega
   have s1:∀ x:Box,(H.set M x)[M]?=some x:=fun x=>List.getElem?_set_self lM
   have s2:∀ x:Box,(H.set M x)[O]?=some (some [N 0,N 0,.sl true true 1 [],.sl true true 1 []]):=fun x=>by rw [List.getElem?_set_ne (fun e=>A.o3 e.symm)];exact A.box
   have s3:∀ y:Box,(H.set O y)[O]?=some y:=fun y=>List.getElem?_set_self A.o2
   have s4:∀ x y:Box,((H.set M x).set O y)[O]?=some y:=fun x y=>List.getElem?_set_self (by rw [List.length_set];exact A.o2)
   have s5:=A.box
   have hlen:h.length<=H.length:=A.fr.len
   rw [ec] at hb
   simp only [GSys.cells,List.cons_append,List.nil_append] at hb
   have failM:∀ (a b:Int) (x0 y0 z0:LV) (x:Box),Ko s M k0 h ids .fail (.tup [.agg [N a,N b,x0,y0],z0]) ((H.set M (some [N s.size,L s.n1 s.plus,L s.n2 s.times,LB s.n3 s.below,PL true nm (ids.drop k0),N ((l:Int)+1),B true])).set O x):=fun _ _ _ _ _ x =>
    ⟨⟨_,_,_,_,_,_,by rw [List.getElem?_set_ne A.o3,s1]⟩,(A.fr.setM _).set A.o1 _,⟨_,_,_,_,_,rfl⟩⟩
   generalize ids.drop k0=dr at *
   clear lM
   by_cases h3:3000<=l
   ·have hD:Q5 s (d+1) l σ t env q=.fail:=by rw [Q5,if_pos h3]
    rw [hD]
    have hb3:ltB 3000 ((l:Int)+1)=true:=by rw [Qf];omega
    simp (disch:=omega) [e0,e2,e3,e5,e8,hb,hb3,s1,s2,s3,s4]
    refine ZaQ (O:=O) (by simp) (by simp [e8]) (by simp [s4];rfl) (by simp) (by simpa using hlen) ?_
    simpa using failM 0 0 _ _ _ _
   ·have hD:Q5 s (d+1) l σ t env q=XJ s (Q5 s d) (l+1) σ t env q:=by rw [Q5,if_neg h3]
    rw [hD] at hns ⊢
    have hb3:ltB 3000 ((l:Int)+1)=false:=by rw [Qd];omega
    have bd1:BD s (l+1) σ:=bd.up (by omega)
    have be1:BE (l+1) σ env:=be.up (by omega) (Nat.le_refl _)
    obtain ⟨op,n,nl1,ty,nl2,ks⟩:=t
    simp only [GTerm.cells] at e5
    have hop:op=0∨op=2∨op=3∨op=10∨op=5∨op=8∨op=12∨(op=1∨op=4∨op=6∨op=7∨op=9∨op=11):=by
     unfold XJ GTerm.opc at hns
     repeat' split at hns
     all_goals simp_all
    have c8:∀ {v:GTerm} {vs:List LV},KE v vs->∃ x y,vs=[N v.opc,N v.num,x,y]:=fun h=>h.num
    rcases hop with rfl | rfl | rfl | rfl | rfl | rfl | rfl | hop
    ·by_cases c0:0<=n∧n.toNat < env.length
     ·cases hc:σ[env.getD n.toNat 0]? with
      | none=>exact absurd (by simp only [XJ,GTerm.opc,GTerm.num,if_true,if_pos c0,hc]) hns
      | some c =>
       have hS:XJ s (Q5 s d) (l+1) σ (.mk 0 n nl1 ty nl2 ks) env q=Q5 s d (l+1) (σ.set (env.getD n.toNat 0) { c with k:=s.pl c.k q }) c.t c.e q:=by simp only [XJ,GTerm.opc,GTerm.num,if_true,if_pos c0,hc]
       rw [hS] at hns ⊢
       obtain ⟨n0,n1⟩:=c0
       have i1:QP 1 (PL false nl (Y9 ids env)) n=some (.rp [.ptr (ids.getD (env.getD n.toNat 0) 0) 0]):=by
        rw [Zen (fun p:Nat=>LV.ptr p 0) (by simp) (Y9 ids env) false nl n n0 (by simp;omega)]
        simp [Y9,List.getD_eq_getElem?_getD,n1]
       have hj:env.getD n.toNat 0 < σ.length:=be.2 _ (by rw [List.getD_eq_getElem?_getD,List.getElem?_eq_getElem n1];exact List.getElem_mem _)
       have hC:=VL (ids:=ids) (j:=env.getD n.toNat 0) (by rw [A.ms.len];exact hj)
       obtain ⟨nlc,hcell⟩:=A.ms.cell _ c hc
       have hCM:ids.getD (env.getD n.toNat 0) 0≠M:=fun e=>A.ms.nM (by rw [<- e];exact hC)
       have hCO:ids.getD (env.getD n.toNat 0) 0≠O:=fun e=>A.o4 (by rw [<- e];exact hC)
       have hCl:=A.ms.lt _ hC
       have gk:=bd.gk c (List.mem_of_getElem? hc)
       obtain ⟨en1,en2⟩:=bd1.env c (List.mem_of_getElem? hc)
       have m2:=A.ms.book hc (k:=s.pl c.k q) ⟨nlc,rfl⟩
       have bd2:=bd1.book _ hc (GSys.Gpl ts c.k q)
       have f2:Fr M ids h (H.set (ids.getD (env.getD n.toNat 0) 0) (some (V6 ids { c with k:=s.pl c.k q } nlc))):=A.fr.setI hC _
       have pl:=Ze4 ts gk hq
       have t1:∀ x:Box,(H.set (ids.getD (env.getD n.toNat 0) 0) x)[ids.getD (env.getD n.toNat 0) 0]?=some x:=fun x=>List.getElem?_set_self hCl
       have IH:=ih (l+1) _ c.t c.e q nlc _ ids M k0 (by omega) (by omega) m2 bd2 ⟨en1,fun j hj=>by rw [List.length_set];exact en2 j hj⟩ (by rw [List.length_set];omega) hq hns
       have oH2:O < (H.set (ids.getD (env.getD n.toNat 0) 0) (some (V6 ids { c with k:=s.pl c.k q } nlc))).length:=by rw [List.length_set];exact A.o2
       have oB:(H.set (ids.getD (env.getD n.toNat 0) 0) (some (V6 ids { c with k:=s.pl c.k q } nlc)))[O]?=some (some [N 0,N 0,.sl true true 1 [],.sl true true 1 []]):=by rw [List.getElem?_set_ne hCO];exact A.box
       generalize Q5 s d (l+1) (σ.set (env.getD n.toNat 0) { c with k:=s.pl c.k q }) c.t c.e q=res at *
       obtain ⟨cb,ck,⟨cop,cn,cnl1,cty,cnl2,cks⟩,ce⟩:=c
       simp only [V6,GTerm.cells,List.cons_append,List.nil_append] at hcell IH f2 oH2 oB
       generalize ids.getD (env.getD n.toNat 0) 0=C at *
       clear hCl
       simp (disch:=omega) [e0,e2,e3,e5,e8,hb,hb3,s1,s2,s3,s4,s5,i1,hcell]
       refine Qa pl (by simp) ?_
       simp (disch:=omega) [e0,e2,e3,e5,e8,hb,s1,s2,s3,s4,s5,i1,hcell,t1]
       refine Qm IH ?_
       rintro r H1 hr
       obtain ⟨⟨vs,e',rfl,v4⟩,f3⟩:=hr.el hns
       have hO:H1[O]?=some (some [N 0,N 0,.sl true true 1 [],.sl true true 1 []]):=by rw [f3.same O oH2 A.o3 A.o4];exact oB
       simp (disch:=omega) [e0,e8,hO,v4,List.take_of_length_le,List.drop_of_length_le]
       refine Zr6 hr f3 v4 f2 A.o1 oH2 A.o3 A.o4 ?_ ?_ ?_
       ·simp [e8]
       ·simp
       ·simp
     ·refine absurd ?_ hns
      simp only [XJ,GTerm.opc,GTerm.num,if_true]
      exact if_neg c0
    ·rw [ZnD] at hns ⊢
     by_cases hk:ks.length=2
     ·rw [if_pos hk] at hns ⊢
      obtain ⟨a,b,rfl⟩:=ZiQ hk
      have i0:=Wq [a,b] false nl2 0 (by simp)
      have i1:=Wq [a,b] false nl2 1 (by simp)
      simp only [Int.natCast_zero,Int.natCast_one,List.getElem_cons_zero,List.getElem_cons_succ,List.getD_cons_zero,List.getD_cons_succ] at i0 i1 hns ⊢
      have hns1:=Zr hns
      have IH1:=ih (l+1) σ a env q nl H (ids++[]) M k0 (by omega) (by omega) A.n.ms bd1 be1 (by omega) hq hns1
      rw [List.append_nil] at IH1
      cases hres:Q5 s d (l+1) σ a env q with
      | stuck=>exact absurd hres hns1
      | fail =>
       rw [hres] at IH1
       simp only [LR.bind]
       simp (disch:=omega) [e0,e2,e3,e5,e8,hb,hb3,s1,s2,s3,s4,s5,i0,KO]
       refine Qm IH1 ?_
       rintro r H1 hr
       obtain ⟨hf1,fr1,oH1,hO,a1,b1,x1,y1,z1,rfl⟩:=A.n.fails (by rw [List.append_nil];exact hr)
       have fO:∀ k:List Box,(H1++k)[O]?=some (some [N 0,N 0,.sl true true 1 [],.sl true true 1 []]):=fun k=>by rw [Q7 oH1];exact hO
       have fL:∀ _:Unit,O < (H1++[none]).length:=fun _=>by simp;omega
       clear oH1
       simp (disch:=omega) [e0,e2,e3,e5,e8,i1,QN,Qo]
       obtain ⟨bop,bn,bnl1,bty,bnl2,bks⟩:=b
       refine Qm (ZhJ (hf1.app [none]) _ _ _ _ _ _) ?_
       rintro r H2 ⟨hf2,fr2,a2,b2,x2,y2,z2,rfl⟩
       have fr02:Fr M ids h H2:=(fr1.appR [none]).trans0 fr2.weak
       have oH2:O < H2.length:=by have:=fr2.len;have:=fL ();omega
       have fO2:∀ k:List Box,(H2++k)[O]?=some (some [N 0,N 0,.sl true true 1 [],.sl true true 1 []]):=fun k=>by rw [Q7 oH2,fr2.same O (fL ()) A.o3 (by simp)];exact fO _
       have fL2:∀ _:Unit,O < (H2++[none]).length:=fun _=>by simp;omega
       clear oH2 fL
       simp (disch:=omega) [e0,e2,e3,e5,e8,QN,Qo,fO2,Zhr]
       refine Vx (.inr rfl) (hf2.app [none]) (fr02.appR [none]) A.o1 (fL2 ()) A.o3 ?_ ?_
       ·simp [e8]
       ·exact ⟨_,_,_,_,rfl⟩
      | ok l1 σ1 v1 e1 =>
       rw [hres] at IH1 hns
       simp only [LR.bind] at hns ⊢
       have le1:=Kw ts d (l+1) σ a env q l1 σ1 v1 e1 hres bd1 be1
       obtain ⟨la,lb,lc,ld,bd2,le2,lf⟩:=le1
       have be2:BE l1 σ1 e1:=⟨by omega,lf⟩
       simp (disch:=omega) [e0,e2,e3,e5,e8,hb,hb3,s1,s2,s3,s4,s5,i0,KO]
       refine Qm IH1 ?_
       rintro r H1 hr
       obtain ⟨new,u1,nl3,vs,hv1,rfl,A1⟩:=A.n.next (by rw [List.append_nil];exact hr)
       obtain ⟨vx,vy,rfl⟩:=hv1.num
       have hO:=A1.box
       simp (disch:=omega) [e0,e2,e3,e5,e8,i1,QN,Qo]
       have hns2:0<=v1.num∧v1.num<=2:=by
        by_cases hh:0<=v1.num∧v1.num<=2
        ·exact hh
        ·rw [if_neg hh] at hns;exact absurd rfl hns
       rw [if_pos hns2] at hns ⊢
       have hns3:=Zr hns
       rw [A1.env (e:=env) (by rw [A.ms.len];exact be.2)]
       have A2:=A1.app [none]
       have IH2:=ih l1 σ1 b env q nl (H1++[none]) (ids++new) M k0 (by omega) (by omega) A2.ms bd2 (be.up (by omega) lc) (by omega) hq hns3
       cases hres2:Q5 s d l1 σ1 b env q with
       | stuck=>exact absurd hres2 hns3
       | fail =>
        rw [hres2] at IH2
        simp only [LR.bind]
        refine Qm IH2 ?_
        rintro r H2 hr2
        obtain ⟨hf2,fr2,oH2,hO2,a2,b2,x2,y2,z2,rfl⟩:=A2.fails hr2
        have fO2:∀ k:List Box,(H2++k)[O]?=some (some [N 0,N 0,.sl true true 1 [],.sl true true 1 []]):=fun k=>by rw [Q7 oH2];exact hO2
        have fL2:∀ _:Unit,O < (H2++[none]).length:=fun _=>by simp;omega
        clear oH2
        simp (disch:=omega) [e0,e2,e3,e5,e8,QN,Qo,fO2,Zhr]
        refine Vx (.inr rfl) (hf2.app [none]) (fr2.appR [none]) A.o1 (fL2 ()) A.o3 ?_ ?_
        ·simp [e8]
        ·exact ⟨_,_,_,_,rfl⟩
       | ok l2 σ2 v2 e2' =>
        rw [hres2] at IH2 hns
        simp only [LR.bind] at hns ⊢
        have hns4:0<=v2.num∧v2.num<=2:=by
         by_cases hh:0<=v2.num∧v2.num<=2
         ·exact hh
         ·rw [if_neg hh] at hns;exact absurd rfl hns
        rw [if_pos hns4]
        refine Qm IH2 ?_
        rintro r H2 hr2
        obtain ⟨new2,u2,nl4,vs2,hv2,rfl,A3⟩:=A2.next hr2
        obtain ⟨wx,wy,rfl⟩:=hv2.num
        have A4:=A3.app [none]
        have fO2:=A4.box
        have em:(v1.num+v2.num) % 3=(v1.num+v2.num).tmod 3:=by rw [Int.tmod_eq_emod_of_nonneg (by omega)]
        simp (disch:=omega) [e0,e2,e3,e5,e8,QN,Qo,fO2,Zhr,Qg]
        refine A4.val (u:=false) (nl:=true) (e:=[]) (vs:=[N 1,N ((v1.num+v2.num).tmod 3),.sl true true 1 [],.sl true true 1 []]) (.inr ⟨_,true,by rw [em],rfl⟩) (by simp [e8]) (by simp [Y9]) rfl
     ·rw [if_neg hk] at hns
      exact absurd rfl hns
    ·rw [ZpF] at hns ⊢
     by_cases hk:ks.length=3
     ·rw [if_pos hk] at hns ⊢
      obtain ⟨a,b,c,rfl⟩:=Zpf hk
      have i0:=Wq [a,b,c] false nl2 0 (by simp)
      have i1:=Wq [a,b,c] false nl2 1 (by simp)
      have i2:=Wq [a,b,c] false nl2 2 (by simp)
      simp only [Int.natCast_zero,Int.natCast_one,Int.cast_ofNat_Int,List.getElem_cons_zero,List.getElem_cons_succ,List.getD_cons_zero,List.getD_cons_succ] at i0 i1 i2 hns ⊢
      have hns1:=Zr hns
      have IH1:=ih (l+1) σ a env q nl H (ids++[]) M k0 (by omega) (by omega) A.n.ms bd1 be1 (by omega) hq hns1
      rw [List.append_nil] at IH1
      cases hres:Q5 s d (l+1) σ a env q with
      | stuck=>exact absurd hres hns1
      | fail =>
       rw [hres] at IH1
       simp only [LR.bind]
       simp (disch:=omega) [e0,e2,e3,e5,e8,hb,hb3,s1,s2,s3,s4,s5,i0,KO]
       refine Qm IH1 ?_
       rintro r H1 hr
       obtain ⟨hf1,fr1,oH1,hO,a1,b1,x1,y1,z1,rfl⟩:=A.n.fails (by rw [List.append_nil];exact hr)
       have fL:∀ _:Unit,O < (H1++[none]).length:=fun _=>by simp;omega
       have fO:(H1++[none])[O]?=some (some [N 0,N 0,.sl true true 1 [],.sl true true 1 []]):=by rw [Q7 oH1];exact hO
       clear oH1
       simp (disch:=omega) [e0,e2,e3,e5,e8,QN,Qo]
       obtain ⟨bop,bn,bnl1,bty,bnl2,bks⟩:=b
       obtain ⟨cop,cn,cnl1,cty,cnl2,cks⟩:=c
       (with_reducible first | refine Qk (fun c9=>?_) (fun c9=>?_) | refine Ql (fun c9=>?_) (fun c9=>?_))
       all_goals
        simp (disch:=omega) [e0,e2,e3,e5,e8,i1,i2,QN,Qo]
        refine Qm (ZhJ (hf1.app [none]) _ _ _ _ _ _) ?_
        rintro r H2 ⟨hf2,fr2,a2,b2,x2,y2,z2,rfl⟩
        have fr02:Fr M ids h H2:=(fr1.appR [none]).trans0 fr2.weak
        have fO2:H2[O]?=some (some [N 0,N 0,.sl true true 1 [],.sl true true 1 []]):=by rw [fr2.same O (fL ()) A.o3 (by simp)];exact fO
        simp (disch:=omega) [e0,e2,e3,e5,e8,QN,Qo,fO2]
        refine Vx (.inr rfl) hf2 fr02 A.o1 (by have:=fr2.len;have:=fL ();omega) A.o3 ?_ ?_
        ·simp [e8]
        ·exact ⟨_,_,_,_,rfl⟩
      | ok l1 σ1 v1 e1 =>
       rw [hres] at IH1 hns
       simp only [LR.bind] at hns ⊢
       have le1:=Kw ts d (l+1) σ a env q l1 σ1 v1 e1 hres bd1 be1
       obtain ⟨la,lb,lc,ld,bd2,le2,lf⟩:=le1
       have be2:BE l1 σ1 e1:=⟨by omega,lf⟩
       simp (disch:=omega) [e0,e2,e3,e5,e8,hb,hb3,s1,s2,s3,s4,s5,i0,KO]
       refine Qm IH1 ?_
       rintro r H1 hr
       obtain ⟨new,u1,nl3,vs,hv1,rfl,A1⟩:=A.n.next (by rw [List.append_nil];exact hr)
       obtain ⟨vx,vy,rfl⟩:=hv1.num
       have hO:=A1.box
       simp (disch:=omega) [e0,e2,e3,e5,e8,QN,Qo]
       have A2:=A1.app [none]
       by_cases hz:v1.num=0
       ·have hz':eqB v1.num 0=true:=by rw [Qc];exact hz
        rw [if_pos hz] at hns ⊢
        have IH2:=ih l1 σ1 b env q nl (H1++[none]) (ids++new) M k0 (by omega) (by omega) A2.ms bd2 (be.up (by omega) lc) (by omega) hq hns
        generalize Q5 s d l1 σ1 b env q=res at *
        simp (disch:=omega) [e0,e2,e3,e5,e8,QN,Qo,hz',i1]
        rw [A1.env (e:=env) (by rw [A.ms.len];exact be.2)]
        refine Qm IH2 ?_
        rintro r H2 hr2
        obtain ⟨ws,e',rfl,w4,hO2,post⟩:=A2.tail hns hr2
        simp (disch:=omega) [e0,e8,hO2,w4,List.take_of_length_le,List.drop_of_length_le]
        refine post _ ?_ ?_ ?_
        ·simp [e8]
        ·simp
        ·simp
       ·have hz':eqB v1.num 0=false:=by rw [Qb];exact hz
        rw [if_neg hz] at hns ⊢
        have IH2:=ih l1 σ1 c env q nl (H1++[none]) (ids++new) M k0 (by omega) (by omega) A2.ms bd2 (be.up (by omega) lc) (by omega) hq hns
        generalize Q5 s d l1 σ1 c env q=res at *
        simp (disch:=omega) [e0,e2,e3,e5,e8,QN,Qo,hz',i2]
        rw [A1.env (e:=env) (by rw [A.ms.len];exact be.2)]
        refine Qm IH2 ?_
        rintro r H2 hr2
        obtain ⟨ws,e',rfl,w4,hO2,post⟩:=A2.tail hns hr2
        simp (disch:=omega) [e0,e8,hO2,w4,List.take_of_length_le,List.drop_of_length_le]
        refine post _ ?_ ?_ ?_
        ·simp [e8]
        ·simp
        ·simp
     ·rw [if_neg hk] at hns
      exact absurd rfl hns
    ·rw [Znq] at hns ⊢
     by_cases hk:ks.length=2
     ·rw [if_pos hk] at hns ⊢
      obtain ⟨a,b,rfl⟩:=ZiQ hk
      have i0:=Wq [a,b] false nl2 0 (by simp)
      have i1:=Wq [a,b] false nl2 1 (by simp)
      simp only [Int.natCast_zero,Int.natCast_one,List.getElem_cons_zero,List.getElem_cons_succ,List.getD_cons_zero,List.getD_cons_succ] at i0 i1 hns ⊢
      have hns1:=Zr hns
      have IH1:=ih (l+1) σ a env q nl H (ids++[]) M k0 (by omega) (by omega) A.n.ms bd1 be1 (by omega) hq hns1
      rw [List.append_nil] at IH1
      cases hres:Q5 s d (l+1) σ a env q with
      | stuck=>exact absurd hres hns1
      | fail =>
       rw [hres] at IH1
       simp only [LR.bind]
       simp (disch:=omega) [e0,e2,e3,e5,e8,hb,hb3,s1,s2,s3,s4,s5,i0,KO]
       refine Qm IH1 ?_
       rintro r H1 hr
       obtain ⟨hf1,fr1,oH1,hO,a1,b1,x1,y1,z1,rfl⟩:=A.n.fails (by rw [List.append_nil];exact hr)
       have fL:∀ _:Unit,O < (H1++[none]).length:=fun _=>by simp;omega
       have fO:(H1++[none])[O]?=some (some [N 0,N 0,.sl true true 1 [],.sl true true 1 []]):=by rw [Q7 oH1];exact hO
       have hf2:=hf1.app [none]
       have hf3:=hf2
       obtain ⟨m1,m2,m3,m4,m5,m6,hbF⟩:=hf3
       clear oH1
       simp (disch:=omega) [e0,e2,e3,e5,e8,QN,Qo,hbF,fO]
       refine Vx (.inr rfl) hf2 (fr1.appR [none]) A.o1 (fL ()) A.o3 ?_ ?_
       ·simp [e8]
       ·exact ⟨_,_,_,_,rfl⟩
      | ok l1 σ1 v1 e1 =>
       rw [hres] at IH1 hns
       simp only [LR.bind] at hns ⊢
       have le1:=Kw ts d (l+1) σ a env q l1 σ1 v1 e1 hres bd1 be1
       obtain ⟨la,lb,lc,ld,bd2,le2,lf⟩:=le1
       have be2:BE l1 σ1 e1:=⟨by omega,lf⟩
       simp (disch:=omega) [e0,e2,e3,e5,e8,hb,hb3,s1,s2,s3,s4,s5,i0,KO]
       refine Qm IH1 ?_
       rintro r H1 hr
       obtain ⟨new,u1,nl3,vs,hv1,rfl,A1⟩:=A.n.next (by rw [List.append_nil];exact hr)
       have hns2:v1.kidn=1∧s.has v1.num=true:=by
        by_cases hh:v1.kidn=1∧s.has v1.num=true
        ·exact hh
        ·rw [if_neg hh] at hns;exact absurd rfl hns
       rw [if_pos hns2] at hns ⊢
       obtain ⟨hk1,hg1⟩:=hns2
       have hvs:=hv1.kids (by omega)
       obtain ⟨fop,fnn,fnl1,fty,fnl2,fks⟩:=v1
       obtain ⟨body,rfl⟩:=Zjh hk1
       simp only [GTerm.num,GTerm.kid,List.getD_cons_zero] at hg1 hns ⊢
       have gf:s.G fnn:=by
        simp [GSys.has] at hg1
        exact ⟨hg1.1,hg1.2⟩
       simp only [GTerm.cells] at hvs
       subst hvs
       have j0:=Wq [body] false fnl2 0 (by simp)
       simp only [Int.natCast_zero,List.getElem_cons_zero] at j0
       have hO:=A1.box
       have A2:=A1.app [none]
       obtain ⟨nm1,hnm1,hb1⟩:=A2.ms.box
       simp only [GSys.cells,List.cons_append,List.nil_append] at hb1
       have tm:=Kh ts hq gf
       have G0:s.G 0:=GSys.G0 ts
       generalize hres3:Q5 s d l1 (σ1++[⟨s.tm q fnn,0,b,env⟩]) body (σ1.length::e1) q=res at *
       simp (disch:=omega) [e0,e2,e3,e5,e8,QN,Qo,hb1,i1,j0]
       refine Qa tm (by simp) ?_
       simp (disch:=omega) [e0,e2,e3,e5,e8,i1]
       rw [A1.env (e:=env) (by rw [A.ms.len];exact be.2)]
       refine Qm (Zia A2.ms bd2 (s.tm q fnn) b env nl (be.up (by omega) lc) (by omega) G0) ?_
       rintro r H2 ⟨p,rfl,hp,ms3,fr3⟩
       obtain ⟨A3,hO3⟩:=A2.cell hp ms3 fr3
       simp (disch:=omega) [e0,e2,e3,e5,e8,Qn]
       refine Qm (Zew nl3 false (Y9 (ids++new) e1) [p] (by simp;omega) H2) ?_
       rintro r H3 ⟨rfl,u4,nl4,rfl⟩
       rw [Zh5 A2.ms.len lf]
       have IH3:=ih l1 (σ1++[⟨s.tm q fnn,0,b,env⟩]) body (σ1.length::e1) q nl4 H3 (ids++(new++[p])) M k0 (by omega) (by omega) A3.ms (bd2.snoc (be.up (by omega) lc) G0) ⟨by simp;omega,fun j hj=>by
        rcases List.mem_cons.1 hj with rfl | hj
        ·simp
        ·have:=lf j hj;simp;omega⟩ (by simp;omega) hq (by rw [hres3];exact hns)
       rw [hres3] at IH3
       simp (disch:=omega) [e0,e2,e3,e5,e8]
       refine Qm IH3 ?_
       rintro r H4 hr4
       obtain ⟨ws,e',rfl,w4,hO4,post⟩:=A3.tail hns hr4
       simp (disch:=omega) [e0,e8,hO4,w4,List.take_of_length_le,List.drop_of_length_le]
       refine post _ ?_ ?_ ?_
       ·simp [e8]
       ·simp
       ·simp
     ·rw [if_neg hk] at hns
      exact absurd rfl hns
    ·rw [Zil] at hns ⊢
     by_cases hk:ks.length=2∧s.has n=true
     ·rw [if_pos hk] at hns ⊢
      obtain ⟨hk,hgn⟩:=hk
      have gn:s.G n:=by
       simp [GSys.has] at hgn
       exact ⟨hgn.1,hgn.2⟩
      obtain ⟨a,b,rfl⟩:=ZiQ hk
      have i0:=Wq [a,b] false nl2 0 (by simp)
      have i1:=Wq [a,b] false nl2 1 (by simp)
      simp only [Int.natCast_zero,Int.natCast_one,Int.cast_ofNat_Int,List.getElem_cons_zero,List.getElem_cons_succ,List.getD_cons_zero,List.getD_cons_succ] at i0 i1 hns ⊢
      have hns1:=Zr hns
      have G0:s.G 0:=GSys.G0 ts
      have gq:s.G (s.tm q n):=GSys.Gtm ts q n
      have tm:=Kh ts hq gn
      have IH1:=ih (l+1) σ a env (s.tm q n) nl H (ids++[]) M k0 (by omega) (by omega) A.n.ms bd1 be1 (by omega) gq hns1
      rw [List.append_nil] at IH1
      cases hres:Q5 s d (l+1) σ a env (s.tm q n) with
      | stuck=>exact absurd hres hns1
      | fail =>
       rw [hres] at IH1
       simp only [LR.bind]
       simp (disch:=omega) [e0,e2,e3,e5,e8,hb,hb3,s1,s2,s3,s4,s5,i0,KO]
       refine Qa tm (by simp) ?_
       simp (disch:=omega) [e0,e2,e3,e5,e8,i0,KO]
       refine Qm IH1 ?_
       rintro r H1 hr
       obtain ⟨hf1,fr1,oH1,hO,a1,b1,x1,y1,z1,rfl⟩:=A.n.fails (by rw [List.append_nil];exact hr)
       have fL:∀ _:Unit,O < (H1++[none]).length:=fun _=>by simp;omega
       have fO:(H1++[none])[O]?=some (some [N 0,N 0,.sl true true 1 [],.sl true true 1 []]):=by rw [Q7 oH1];exact hO
       have hf2:=hf1.app [none]
       have hf3:=hf2
       obtain ⟨m1,m2,m3,m4,m5,m6,hbF⟩:=hf3
       clear oH1
       simp (disch:=omega) [e0,e2,e3,e5,e8,QN,Qo,hbF,fO]
       refine Vx (.inr rfl) hf2 (fr1.appR [none]) A.o1 (fL ()) A.o3 ?_ ?_
       ·simp [e8]
       ·exact ⟨_,_,_,_,rfl⟩
      | ok l1 σ1 v1 e1 =>
       rw [hres] at IH1 hns
       simp only [LR.bind] at hns ⊢
       have le1:=Kw ts d (l+1) σ a env (s.tm q n) l1 σ1 v1 e1 hres bd1 be1
       obtain ⟨la,lb,lc,ld,bd2,le2,lf⟩:=le1
       have be2:BE l1 σ1 e1:=⟨by omega,lf⟩
       simp (disch:=omega) [e0,e2,e3,e5,e8,hb,hb3,s1,s2,s3,s4,s5,i0,KO]
       refine Qa tm (by simp) ?_
       simp (disch:=omega) [e0,e2,e3,e5,e8,i0,KO]
       refine Qm IH1 ?_
       rintro r H1 hr
       obtain ⟨new,u1,nl3,vs,hv1,rfl,A1⟩:=A.n.next (by rw [List.append_nil];exact hr)
       have hns2:v1.kidn=2:=by
        by_cases hh:v1.kidn=2
        ·exact hh
        ·rw [if_neg hh] at hns;exact absurd rfl hns
       rw [if_pos hns2] at hns ⊢
       have hvs:=hv1.kids (by omega)
       obtain ⟨fop,fnn,fnl1,fty,fnl2,fks⟩:=v1
       obtain ⟨x,y,rfl⟩:=ZiQ hns2
       simp only [GTerm.num,GTerm.kid,List.getD_cons_zero,List.getD_cons_succ] at hns ⊢
       simp only [GTerm.cells] at hvs
       subst hvs
       have j0:=Wq [x,y] false fnl2 0 (by simp)
       have j1:=Wq [x,y] false fnl2 1 (by simp)
       simp only [Int.natCast_zero,Int.natCast_one,List.getElem_cons_zero,List.getElem_cons_succ] at j0 j1
       have hO:=A1.box
       have A2:=A1.app [none]
       obtain ⟨nm1,hnm1,hb1⟩:=A2.ms.box
       simp only [GSys.cells,List.cons_append,List.nil_append] at hb1
       generalize hres3:Q5 s d l1 (σ1++[⟨s.tm q n,0,x,e1⟩,⟨s.tm q n,0,y,e1⟩]) b ((σ1.length+1)::σ1.length::env) q=res at *
       simp (disch:=omega) [e0,e2,e3,e5,e8,QN,Qo,hb1,i1,j0,KO]
       refine Qm (Zia A2.ms bd2 (s.tm q n) x e1 nl3 be2 (by omega) G0) ?_
       rintro r H2 ⟨p,rfl,hp,ms3,fr3⟩
       obtain ⟨A3',hO3⟩:=A2.cell hp ms3 fr3
       simp (disch:=omega) [e0,e2,e3,e5,e8,j1]
       have bd3:=bd2.snoc (c:=⟨s.tm q n,0,x,e1⟩) be2 G0
       have lf3:∀ j∈e1,j < (σ1++[(⟨s.tm q n,0,x,e1⟩:PC)]).length:=fun j hj=>by have:=lf j hj;simp;omega
       have be3:BE l1 (σ1++[(⟨s.tm q n,0,x,e1⟩:PC)]) e1:=⟨by omega,lf3⟩
       have eE:Y9 (ids++new) e1=Y9 (ids++(new++[p])) e1:=by rw [<- List.append_assoc];exact (ZaW [p] (by rw [A2.ms.len];exact lf)).symm
       rw [eE]
       refine Qm (Zia A3'.ms bd3 (s.tm q n) y e1 nl3 be3 (by simp;omega) G0) ?_
       rintro r H3 ⟨p2,rfl,hp2,ms4,fr4⟩
       obtain ⟨A3,hO4'⟩:=A3'.cell hp2 ms4 fr4
       simp (disch:=omega) [e0,e2,e3,e5,e8,Qn,i1]
       rw [A1.env (e:=env) (by rw [A.ms.len];exact be.2)]
       refine Qm (Zew nl false (Y9 (ids++new) env) [p2,p] (by have:=be.1;simp;omega) H3) ?_
       rintro r H4' ⟨rfl,u4,nl4,rfl⟩
       rw [front2 A2.ms.len (fun j hj=>by have:=be.2 j hj;omega)]
       have bd4:=bd3.snoc (c:=⟨s.tm q n,0,y,e1⟩) be3 G0
       have e12:σ1++[⟨s.tm q n,0,x,e1⟩]++[⟨s.tm q n,0,y,e1⟩]=σ1++[⟨s.tm q n,0,x,e1⟩,⟨s.tm q n,0,y,e1⟩]:=by simp
       have e13:new++[p]++[p2]=new++[p,p2]:=by simp
       rw [e12] at A3 bd4
       rw [e13] at A3
       have IH3:=ih l1 (σ1++[⟨s.tm q n,0,x,e1⟩,⟨s.tm q n,0,y,e1⟩]) b ((σ1.length+1)::σ1.length::env) q nl4 H4' (ids++(new++[p,p2])) M k0 (by omega) (by omega) A3.ms bd4 ⟨by have:=be.1;simp;omega,fun j hj=>by
        rcases List.mem_cons.1 hj with rfl | hj
        ·simp
        ·rcases List.mem_cons.1 hj with rfl | hj
         ·simp
         ·have:=be.2 j hj;simp;omega⟩ (by simp;omega) hq (by rw [hres3];exact hns)
       rw [hres3] at IH3
       simp (disch:=omega) [e0,e2,e3,e5,e8,i1]
       refine Qm IH3 ?_
       rintro r H4 hr4
       obtain ⟨ws,e',rfl,w4,hO4,post⟩:=A3.tail hns hr4
       simp (disch:=omega) [e0,e8,hO4,w4,List.take_of_length_le,List.drop_of_length_le]
       refine post _ ?_ ?_ ?_
       ·simp [e8]
       ·simp
       ·simp
     ·rw [if_neg hk] at hns
      exact absurd rfl hns
    ·rw [Zld] at hns ⊢
     by_cases hk:ks.length=3∧s.has n=true
     ·rw [if_pos hk] at hns ⊢
      obtain ⟨hk,hgn⟩:=hk
      have gn:s.G n:=by
       simp [GSys.has] at hgn
       exact ⟨hgn.1,hgn.2⟩
      obtain ⟨a,b,c,rfl⟩:=Zpf hk
      have i0:=Wq [a,b,c] false nl2 0 (by simp)
      have i1:=Wq [a,b,c] false nl2 1 (by simp)
      have i2:=Wq [a,b,c] false nl2 2 (by simp)
      simp only [Int.natCast_zero,Int.natCast_one,Int.cast_ofNat_Int,List.getElem_cons_zero,List.getElem_cons_succ,List.getD_cons_zero,List.getD_cons_succ] at i0 i1 i2 hns ⊢
      have hns1:=Zr hns
      have G0:s.G 0:=GSys.G0 ts
      have gq:s.G (s.tm q n):=GSys.Gtm ts q n
      have tm:=Kh ts hq gn
      have IH1:=ih (l+1) σ a env (s.tm q n) nl H (ids++[]) M k0 (by omega) (by omega) A.n.ms bd1 be1 (by omega) gq hns1
      rw [List.append_nil] at IH1
      cases hres:Q5 s d (l+1) σ a env (s.tm q n) with
      | stuck=>exact absurd hres hns1
      | fail =>
       rw [hres] at IH1
       simp only [LR.bind]
       simp (disch:=omega) [e0,e2,e3,e5,e8,hb,hb3,s1,s2,s3,s4,s5,i0,KO]
       refine Qa tm (by simp) ?_
       simp (disch:=omega) [e0,e2,e3,e5,e8,i0,KO]
       refine Qm IH1 ?_
       rintro r H1 hr
       obtain ⟨hf1,fr1,oH1,hO,a1,b1,x1,y1,z1,rfl⟩:=A.n.fails (by rw [List.append_nil];exact hr)
       have fL:∀ _:Unit,O < (H1++[none]).length:=fun _=>by simp;omega
       have fO:(H1++[none])[O]?=some (some [N 0,N 0,.sl true true 1 [],.sl true true 1 []]):=by rw [Q7 oH1];exact hO
       have hf2:=hf1.app [none]
       have hf3:=hf2
       obtain ⟨m1,m2,m3,m4,m5,m6,hbF⟩:=hf3
       clear oH1
       simp (disch:=omega) [e0,e2,e3,e5,e8,QN,Qo,hbF,fO]
       refine Vx (.inr rfl) hf2 (fr1.appR [none]) A.o1 (fL ()) A.o3 ?_ ?_
       ·simp [e8]
       ·exact ⟨_,_,_,_,rfl⟩
      | ok l1 σ1 v1 e1 =>
       rw [hres] at IH1 hns
       simp only [LR.bind] at hns ⊢
       have le1:=Kw ts d (l+1) σ a env (s.tm q n) l1 σ1 v1 e1 hres bd1 be1
       obtain ⟨la,lb,lc,ld,bd2,le2,lf⟩:=le1
       have be2:BE l1 σ1 e1:=⟨by omega,lf⟩
       simp (disch:=omega) [e0,e2,e3,e5,e8,hb,hb3,s1,s2,s3,s4,s5,i0,KO]
       refine Qa tm (by simp) ?_
       simp (disch:=omega) [e0,e2,e3,e5,e8,i0,KO]
       refine Qm IH1 ?_
       rintro r H1 hr
       obtain ⟨new,u1,nl3,vs,hv1,rfl,A1⟩:=A.n.next (by rw [List.append_nil];exact hr)
       have hns2:v1.kidn=1∧(v1.opc=6∨v1.opc=7):=by
        by_cases hh:v1.kidn=1∧(v1.opc=6∨v1.opc=7)
        ·exact hh
        ·rw [if_neg hh] at hns;exact absurd rfl hns
       rw [if_pos hns2] at hns ⊢
       obtain ⟨hk1,ho1⟩:=hns2
       have hvs:=hv1.kids (by omega)
       obtain ⟨fop,fnn,fnl1,fty,fnl2,fks⟩:=v1
       obtain ⟨x,rfl⟩:=Zjh hk1
       simp only [GTerm.num,GTerm.kid,List.getD_cons_zero] at hns ⊢
       simp only [GTerm.cells] at hvs
       subst hvs
       have j0:=Wq [x] false fnl2 0 (by simp)
       simp only [Int.natCast_zero,List.getElem_cons_zero] at j0
       have hO:=A1.box
       have A2:=A1.app [none]
       obtain ⟨nm1,hnm1,hb1⟩:=A2.ms.box
       simp only [GSys.cells,List.cons_append,List.nil_append] at hb1
       have w6:IntKind.i64.wrap (IntKind.i64.wrap (1+6) - 6)=1:=by rw [Qg (n:=1+6) (by omega),Qg (by omega)];rfl
       have w7:IntKind.i64.wrap (IntKind.i64.wrap (1+7) - 6)=2:=by rw [Qg (n:=1+7) (by omega),Qg (by omega)];rfl
       rcases (show fop=6∨fop=7 from ho1) with rfl | rfl
       ·have e67:¬ ((GTerm.mk 6 fnn fnl1 fty fnl2 [x]).opc=7):=by show ¬ ((6:Int)=7);omega
        rw [if_neg e67] at hns ⊢
        generalize hres3:Q5 s d l1 (σ1++[⟨s.tm q n,0,x,e1⟩]) b (σ1.length::env) q=res at *
        simp (disch:=omega) [e0,e2,e3,e5,e8,QN,Qo,hb1,i1,j0,KO,Qg]
        refine Qm (Zia A2.ms bd2 (s.tm q n) x e1 nl3 be2 (by omega) G0) ?_
        rintro r H2 ⟨p,rfl,hp,ms3,fr3⟩
        obtain ⟨A3,hO3⟩:=A2.cell hp ms3 fr3
        simp (disch:=omega) [e0,e2,e3,e5,e8,Qn,i1]
        rw [A1.env (e:=env) (by rw [A.ms.len];exact be.2)]
        refine Qm (Zew nl false (Y9 (ids++new) env) [p] (by have:=be.1;simp;omega) H2) ?_
        rintro r H3 ⟨rfl,u4,nl4,rfl⟩
        rw [Zh5 A2.ms.len (fun j hj=>by have:=be.2 j hj;omega)]
        have IH3:=ih l1 (σ1++[⟨s.tm q n,0,x,e1⟩]) b (σ1.length::env) q nl4 H3 (ids++(new++[p])) M k0 (by omega) (by omega) A3.ms (bd2.snoc be2 G0) ⟨by have:=be.1;simp;omega,fun j hj=>by
         rcases List.mem_cons.1 hj with rfl | hj
         ·simp
         ·have:=be.2 j hj;simp;omega⟩ (by simp;omega) hq (by rw [hres3];exact hns)
        rw [hres3] at IH3
        simp (disch:=omega) [e0,e2,e3,e5,e8,i1]
        refine Qm IH3 ?_
        rintro r H4 hr4
        obtain ⟨ws,e',rfl,w4,hO4,post⟩:=A3.tail hns hr4
        simp (disch:=omega) [e0,e8,hO4,w4,List.take_of_length_le,List.drop_of_length_le]
        refine post _ ?_ ?_ ?_
        ·simp [e8]
        ·simp
        ·simp
       ·have e67:(GTerm.mk 7 fnn fnl1 fty fnl2 [x]).opc=7:=rfl
        rw [if_pos e67] at hns ⊢
        generalize hres3:Q5 s d l1 (σ1++[⟨s.tm q n,0,x,e1⟩]) c (σ1.length::env) q=res at *
        simp (disch:=omega) [e0,e2,e3,e5,e8,QN,Qo,hb1,i2,j0,KO,Qg]
        refine Qm (Zia A2.ms bd2 (s.tm q n) x e1 nl3 be2 (by omega) G0) ?_
        rintro r H2 ⟨p,rfl,hp,ms3,fr3⟩
        obtain ⟨A3,hO3⟩:=A2.cell hp ms3 fr3
        simp (disch:=omega) [e0,e2,e3,e5,e8,Qn,i2]
        rw [A1.env (e:=env) (by rw [A.ms.len];exact be.2)]
        refine Qm (Zew nl false (Y9 (ids++new) env) [p] (by have:=be.1;simp;omega) H2) ?_
        rintro r H3 ⟨rfl,u4,nl4,rfl⟩
        rw [Zh5 A2.ms.len (fun j hj=>by have:=be.2 j hj;omega)]
        have IH3:=ih l1 (σ1++[⟨s.tm q n,0,x,e1⟩]) c (σ1.length::env) q nl4 H3 (ids++(new++[p])) M k0 (by omega) (by omega) A3.ms (bd2.snoc be2 G0) ⟨by have:=be.1;simp;omega,fun j hj=>by
         rcases List.mem_cons.1 hj with rfl | hj
         ·simp
         ·have:=be.2 j hj;simp;omega⟩ (by simp;omega) hq (by rw [hres3];exact hns)
        rw [hres3] at IH3
        simp (disch:=omega) [e0,e2,e3,e5,e8,i2]
        refine Qm IH3 ?_
        rintro r H4 hr4
        obtain ⟨ws,e',rfl,w4,hO4,post⟩:=A3.tail hns hr4
        simp (disch:=omega) [e0,e8,hO4,w4,List.take_of_length_le,List.drop_of_length_le]
        refine post _ ?_ ?_ ?_
        ·simp [e8]
        ·simp
        ·simp
     ·rw [if_neg hk] at hns
      exact absurd rfl hns
    ·rw [ZjG] at hns ⊢
     by_cases hk:ks.length=2∧s.has n=true
     ·rw [if_pos hk] at hns ⊢
      obtain ⟨hk,hgn⟩:=hk
      have gn:s.G n:=by
       simp [GSys.has] at hgn
       exact ⟨hgn.1,hgn.2⟩
      obtain ⟨a,b,rfl⟩:=ZiQ hk
      have i0:=Wq [a,b] false nl2 0 (by simp)
      have i1:=Wq [a,b] false nl2 1 (by simp)
      simp only [Int.natCast_zero,Int.natCast_one,Int.cast_ofNat_Int,List.getElem_cons_zero,List.getElem_cons_succ,List.getD_cons_zero,List.getD_cons_succ] at i0 i1 hns ⊢
      have hns1:=Zr hns
      have G0:s.G 0:=GSys.G0 ts
      have gq:s.G (s.tm q n):=GSys.Gtm ts q n
      have tm:=Kh ts hq gn
      have IH1:=ih (l+1) σ a env (s.tm q n) nl H (ids++[]) M k0 (by omega) (by omega) A.n.ms bd1 be1 (by omega) gq hns1
      rw [List.append_nil] at IH1
      cases hres:Q5 s d (l+1) σ a env (s.tm q n) with
      | stuck=>exact absurd hres hns1
      | fail =>
       rw [hres] at IH1
       simp only [LR.bind]
       simp (disch:=omega) [e0,e2,e3,e5,e8,hb,hb3,s1,s2,s3,s4,s5,i0,KO]
       refine Qa tm (by simp) ?_
       simp (disch:=omega) [e0,e2,e3,e5,e8,i0,KO]
       refine Qm IH1 ?_
       rintro r H1 hr
       obtain ⟨hf1,fr1,oH1,hO,a1,b1,x1,y1,z1,rfl⟩:=A.n.fails (by rw [List.append_nil];exact hr)
       have fL:∀ _:Unit,O < (H1++[none]).length:=fun _=>by simp;omega
       have fO:(H1++[none])[O]?=some (some [N 0,N 0,.sl true true 1 [],.sl true true 1 []]):=by rw [Q7 oH1];exact hO
       have hf2:=hf1.app [none]
       have hf3:=hf2
       obtain ⟨m1,m2,m3,m4,m5,m6,hbF⟩:=hf3
       clear oH1
       simp (disch:=omega) [e0,e2,e3,e5,e8,QN,Qo,hbF,fO]
       refine Vx (.inr rfl) hf2 (fr1.appR [none]) A.o1 (fL ()) A.o3 ?_ ?_
       ·simp [e8]
       ·exact ⟨_,_,_,_,rfl⟩
      | ok l1 σ1 v1 e1 =>
       rw [hres] at IH1 hns
       simp only [LR.bind] at hns ⊢
       have le1:=Kw ts d (l+1) σ a env (s.tm q n) l1 σ1 v1 e1 hres bd1 be1
       obtain ⟨la,lb,lc,ld,bd2,le2,lf⟩:=le1
       have be2:BE l1 σ1 e1:=⟨by omega,lf⟩
       simp (disch:=omega) [e0,e2,e3,e5,e8,hb,hb3,s1,s2,s3,s4,s5,i0,KO]
       refine Qa tm (by simp) ?_
       simp (disch:=omega) [e0,e2,e3,e5,e8,i0,KO]
       refine Qm IH1 ?_
       rintro r H1 hr
       obtain ⟨new,u1,nl3,vs,hv1,rfl,A1⟩:=A.n.next (by rw [List.append_nil];exact hr)
       have hns2:v1.kidn=1∧s.has v1.num=true:=by
        by_cases hh:v1.kidn=1∧s.has v1.num=true
        ·exact hh
        ·rw [if_neg hh] at hns;exact absurd rfl hns
       rw [if_pos hns2] at hns ⊢
       obtain ⟨hk1,hg1⟩:=hns2
       have hvs:=hv1.kids (by omega)
       obtain ⟨fop,fnn,fnl1,fty,fnl2,fks⟩:=v1
       obtain ⟨x,rfl⟩:=Zjh hk1
       simp only [GTerm.num,GTerm.kid,List.getD_cons_zero] at hg1 hns ⊢
       have gf:s.G fnn:=by
        simp [GSys.has] at hg1
        exact ⟨hg1.1,hg1.2⟩
       simp only [GTerm.cells] at hvs
       subst hvs
       have j0:=Wq [x] false fnl2 0 (by simp)
       simp only [Int.natCast_zero,List.getElem_cons_zero] at j0
       have hO:=A1.box
       have A2:=A1.app [none]
       obtain ⟨nm1,hnm1,hb1⟩:=A2.ms.box
       simp only [GSys.cells,List.cons_append,List.nil_append] at hb1
       have tm2:=Kh ts gq gf
       generalize hres3:Q5 s d l1 (σ1++[⟨s.tm (s.tm q n) fnn,0,x,e1⟩]) b (σ1.length::env) q=res at *
       simp (disch:=omega) [e0,e2,e3,e5,e8,QN,Qo,hb1,i1,j0,KO]
       refine Qa tm2 (by simp) ?_
       simp (disch:=omega) [e0,e2,e3,e5,e8,i1,j0]
       refine Qm (Zia A2.ms bd2 (s.tm (s.tm q n) fnn) x e1 nl3 be2 (by omega) G0) ?_
       rintro r H2 ⟨p,rfl,hp,ms3,fr3⟩
       obtain ⟨A3,hO3⟩:=A2.cell hp ms3 fr3
       simp (disch:=omega) [e0,e2,e3,e5,e8,Qn,i1]
       rw [A1.env (e:=env) (by rw [A.ms.len];exact be.2)]
       refine Qm (Zew nl false (Y9 (ids++new) env) [p] (by have:=be.1;simp;omega) H2) ?_
       rintro r H3 ⟨rfl,u4,nl4,rfl⟩
       rw [Zh5 A2.ms.len (fun j hj=>by have:=be.2 j hj;omega)]
       have IH3:=ih l1 (σ1++[⟨s.tm (s.tm q n) fnn,0,x,e1⟩]) b (σ1.length::env) q nl4 H3 (ids++(new++[p])) M k0 (by omega) (by omega) A3.ms (bd2.snoc be2 G0) ⟨by have:=be.1;simp;omega,fun j hj=>by
        rcases List.mem_cons.1 hj with rfl | hj
        ·simp
        ·have:=be.2 j hj;simp;omega⟩ (by simp;omega) hq (by rw [hres3];exact hns)
       rw [hres3] at IH3
       simp (disch:=omega) [e0,e2,e3,e5,e8,i1]
       refine Qm IH3 ?_
       rintro r H4 hr4
       obtain ⟨ws,e',rfl,w4,hO4,post⟩:=A3.tail hns hr4
       simp (disch:=omega) [e0,e8,hO4,w4,List.take_of_length_le,List.drop_of_length_le]
       refine post _ ?_ ?_ ?_
       ·simp [e8]
       ·simp
       ·simp
     ·rw [if_neg hk] at hns
      exact absurd rfl hns
    ·have hS:XJ s (Q5 s d) (l+1) σ (.mk op n nl1 ty nl2 ks) env q=.ok (l+1) σ (.mk op n nl1 ty nl2 ks) env:=by
      rcases hop with rfl | rfl | rfl | rfl | rfl | rfl<;>simp [XJ,GTerm.opc]
     rw [hS]
     have q0:eqB op 0=false∧eqB op 2=false∧eqB op 3=false∧eqB op 10=false∧eqB op 5=false∧eqB op 8=false∧eqB op 12=false:=by
      refine ⟨?_,?_,?_,?_,?_,?_,?_⟩<;>rw [Qb]<;>omega
     obtain ⟨q0,q2,q3,q10,q5,q8,q12⟩:=q0
     simp (disch:=omega) [e0,e2,e3,e5,e8,hb,hb3,s1,s2,s3,s4,s5,q0,q2,q3,q10,q5,q8,q12]
     exact val_post (u:=false) (nl:=nl) A.ms A.fr (.inl rfl) A.o1 A.o2 A.o3 A.o4 (by simp [e8]) (by simp) (by simp [GTerm.cells])
theorem len4 {cs:List LV} (h:cs.length=4):∃ a b c d,cs=[a,b,c,d]:=by
 match cs,h with
 | [a,b,c,d],_=>exact ⟨a,b,c,d,rfl⟩
mutual
theorem Zf8:∀ a b:GTerm,a.nm=b.nm->a.same b=true
 | .mk op n nl1 ty nl2 ks,.mk op' n' nl1' ty' nl2' ks',h=>by
  simp only [GTerm.nm,GTerm.mk.injEq] at h
  obtain ⟨rfl,rfl,_,rfl,_,h⟩:=h
  simp [GTerm.same,ZiN ks ks' h]
theorem ZiN:∀ a b:List GTerm,nms a=nms b->Va a b=true
 | [],[],_=>by simp [Va]
 | [],_::_,h=>by simp [nms] at h
 | _::_,[],h=>by simp [nms] at h
 | a::a',b::b',h=>by
  simp only [nms,List.cons.injEq] at h
  simp [Va,Zf8 a b h.1,ZiN a' b' h.2]
end
set_option maxHeartbeats 8000000
def isTF (g:GTerm) (r:LV):Prop:=∃ (w:GTerm) (cs:List LV),r=.agg cs∧shareAll cs=w.cells∧w.nm=g.nm∧w.fl
theorem nm_fl:∀ g:GTerm,g.nm.fl:=by
 intro g
 exact go g
where
 go:∀ g:GTerm,g.nm.fl
  | .mk op n nl1 ty nl2 ks=>by
   simp only [GTerm.nm,GTerm.fl]
   exact ⟨by simp [flOk],gos ks⟩
 gos:∀ ks:List GTerm,fls (nms ks)
  | []=>by simp [nms,fls]
  | k::ks=>by simp only [nms,fls];exact ⟨go k,gos ks⟩
theorem nm_nm:∀ g:GTerm,g.nm.nm=g.nm:=by
 intro g
 exact go g
where
 go:∀ g:GTerm,g.nm.nm=g.nm
  | .mk op n nl1 ty nl2 ks=>by
   simp only [GTerm.nm,gos ks]
   congr 1
   cases ks<;>simp [nms]
 gos:∀ ks:List GTerm,nms (nms ks)=nms ks
  | []=>by simp [nms]
  | k::ks=>by simp only [nms,go k,gos ks]
structure LE (s:GSys) (l:Nat) (σ:List PC) (l':Nat) (σ':List PC):Prop where
 le:l<=l'
 top:l'<=3000
 len:σ.length<=σ'.length
 many:σ'.length+2 * l<=σ.length+2 * l'
 bd:BD s l' σ'
theorem LE.trans {s:GSys} {l l1 l2:Nat} {σ σ1 σ2:List PC} (a:LE s l σ l1 σ1) (b:LE s l1 σ1 l2 σ2):LE s l σ l2 σ2 :=
 ⟨Nat.le_trans a.le b.le,b.top,Nat.le_trans a.len b.len,by have:=a.many;have:=b.many;omega,b.bd⟩
theorem Zne {s:GSys} {f:Nat->List PC->GTerm->TTold} {e:List Nat} (hf:∀ (l:Nat) (σ:List PC) (k:GTerm) (l':Nat) (σ':List PC) (v:GTerm),f l σ k=.ok l' σ' v->BD s l σ->BE l σ e->LE s l σ l' σ'∧v.fl) :
  ∀ (ks:List GTerm) (l:Nat) (σ:List PC) (acc:List GTerm) (l':Nat) (σ':List PC) (vs:List GTerm),X7 f ks l σ acc=.ok l' σ' vs->l<=3000->BD s l σ->BE l σ e->fls acc->LE s l σ l' σ'∧fls vs
 | [],l,σ,acc,l',σ',vs,h,hl,bd,be,hfl=>by
  simp only [X7,KTold.ok.injEq] at h
  obtain ⟨rfl,rfl,rfl⟩:=h
  exact ⟨⟨Nat.le_refl _,hl,Nat.le_refl _,by omega,bd⟩,hfl⟩
 | k::ks,l,σ,acc,l',σ',vs,h,hl,bd,be,hfl=>by
  rw [X7] at h
  cases hk:f l σ k with
  | stuck=>rw [hk] at h;simp at h
  | fail=>rw [hk] at h;simp at h
  | ok l1 σ1 v =>
   rw [hk] at h
   obtain ⟨a,av⟩:=hf _ _ _ _ _ _ hk bd be
   obtain ⟨b,bv⟩:=Zne hf ks l1 σ1 _ _ _ _ h a.top a.bd (be.up a.le a.len) (ZaK.2 fun x hx=>by
    rcases List.mem_append.1 hx with hx | hx
    ·exact ZaK.1 hfl x hx
    ·simp at hx;subst hx;exact av)
   exact ⟨a.trans b,bv⟩
theorem Zq4 {s:GSys} {op n:Int} {nl1:Bool} {ty:List Int} {k:Nat} (h:okV s op n nl1 ty k=true):(op=11->s.G n)∧k<=3∧ty.length<=40∧(nl1=true->ty=[]):=by
 simp only [okV,GSys.has,Bool.and_eq_true,Bool.or_eq_true,Bool.not_eq_true',decide_eq_true_eq,decide_eq_false_iff_not,List.isEmpty_iff] at h
 obtain ⟨h1,h2,h3,h4⟩:=h
 exact ⟨fun e=>(h1.resolve_left (fun g=>g e)),h2,h3,fun e=>h4.resolve_left (by simp [e])⟩
theorem ZcO {s:GSys} (ts:s.Tab):∀ (d l:Nat) (σ:List PC) (t:GTerm) (env:List Nat) (q:Int) (l':Nat) (σ':List PC) (v:GTerm),Xg s d l σ t env q=.ok l' σ' v->BD s l σ->BE l σ env->LE s l σ l' σ'∧v.fl:=by
 intro d
 induction d with
 | zero=>intro l σ t env q l' σ' v h;simp [Xg] at h
 | succ d ih =>
  intro l σ t env q l' σ' v h bd be
  rw [Xg] at h
  cases hL:Q5 s (d+1) l σ t env q with
  | stuck=>rw [hL] at h;simp at h
  | fail=>rw [hL] at h;simp at h
  | ok l1 σ1 v1 e1 =>
   obtain ⟨a1,a2,a3,a4,a5,a6,a7⟩:=Kw ts _ _ _ _ _ _ _ _ _ _ hL bd be
   rw [hL] at h
   obtain ⟨op,n,nl1,ty,nl2,ks⟩:=v1
   simp only at h
   split at h
   ·simp at h
   ·rename_i hok
    split at h
    ·simp at h
    ·simp at h
    ·rename_i l2 σ2 vs hK
     simp only [TTold.ok.injEq] at h
     obtain ⟨rfl,rfl,rfl⟩:=h
     obtain ⟨b,bv⟩:=Zne (fun l σ k l' σ' v h bd be=>ih l σ k e1 _ l' σ' v h bd be) ks l1 σ1 [] _ _ _ hK a2 a5 ⟨by omega,a7⟩ (by simp [fls])
     refine ⟨(LE.mk (by omega) a2 a3 a4 a5).trans b,?_⟩
     simp only [GTerm.fl]
     exact ⟨(Zq4 (by simpa using hok)).2.2.2,bv⟩
def Znk (s:GSys) (M k0:Nat) (h:List Box) (ids:List Nat) (res:TTold) (r:LV) (h':List Box):Prop:=match res with
 | .stuck=>True
 | .fail=>Vj M h'∧Fr M ids h h'∧∃ a b x y,r=.agg [a,b,x,y]
 | .ok l σ v=>∃ new,(∀ i∈new,h.length<=i)∧MS s M k0 h' l σ (ids++new)∧Fr M ids h h'∧isTF v r∧Low 0 r∧QB r
theorem Znk.ex {s:GSys} {M k0:Nat} {h:List Box} {l:Nat} {σ:List PC} {ids:List Nat} (m:MS s M k0 h l σ ids) {res:TTold} (hs:res≠.stuck) (hl:∀ l' σ' v,res=.ok l' σ' v->σ.length<=σ'.length∧v.fl):∃ r h',Znk s M k0 h ids res r h':=by
 cases res with
 | stuck=>exact absurd rfl hs
 | fail=>exact ⟨.agg [N 0,N 0,N 0,N 0],h.set M (some [N 0,N 0,N 0,N 0,N 0,N 0,B true]),⟨_,_,_,_,_,0,by rw [List.getElem?_set_self m.lM]⟩,(Fr.refl _ _ _).setM _,⟨_,_,_,_,rfl⟩⟩
 | ok l' σ' v =>
  obtain ⟨h',new,h1,h2,h3⟩:=m.ex l' σ' (hl _ _ _ rfl).1
  exact ⟨.agg v.ownC,h',new,h2,h1,h3,⟨v.nm,_,rfl,Za3 v,nm_nm v,nm_fl v⟩,by simp,by simp only [QB];exact Zc1 v⟩
theorem ZnF {O m:Nat} {vs:List LV} {R:LV->List Box->Prop} {e:Exit} {s:St} (he:e=.normal∨e=.ret) (h8:s.t 8=.ptr O 0) (hb:s.h[O]?=some (some vs)) (h4:vs.length=4) (hm:m<=s.h.length) (hR:R (.agg vs) (s.h.set O (some (shareAll vs)))) :
  KZ [.cell 8 true 4] m R e s:=by
 refine ⟨he,[.agg vs],⟨s.t,s.h.set O (some (shareAll vs))⟩,(s.h.set O (some (shareAll vs))).length,?_,by rw [List.length_set];exact hm,Nat.le_refl _,.inl rfl,?_⟩
 ·simp [Ys,Zg9,h8,hb,h4,Wp]
 ·rw [List.take_of_length_le (Nat.le_refl _)];exact hR
theorem Zge {M:Nat} {h H:List Box} {ids:List Nat} {O:Nat} {st:St} {R:LV->List Box->Prop} (hf:Vj M H) (f:Fr M ids h H) (o1:h.length<=O) (o2:O < H.length) (o3:O≠M) (hR:∀ r h',Vj M h'->Fr M ids h h'->(∃ a b x y,r=.agg [a,b,x,y])->R r h')
  (h8:st.t 8=.ptr O 0) (hh:∃ a b x y,st.h=H.set O (some [a,b,x,y])):KZ [.cell 8 true 4] h.length R .ret st:=by
 have l0:=f.len
 obtain ⟨a,b,x,y,hh⟩:=hh
 refine ZnF (.inr rfl) h8 (by rw [hh,List.getElem?_set_self o2]) rfl (by rw [hh,List.length_set];omega) ?_
 rw [hh,List.set_set]
 obtain ⟨a',b',c,d,cs,l,h1⟩:=hf
 exact hR _ _ ⟨a',b',c,d,cs,l,by rw [List.getElem?_set_ne o3];exact h1⟩ (f.set o1 _) ⟨_,_,_,_,rfl⟩
theorem Znr {M:Nat} {h:List Box} (hf:Vj M h) (x0 x1 x2 x3 ev qv:LV):QE Tryz.prog Xz [.ptr M 0,.agg [x0,x1,x2,x3],ev,qv] h (fun r h'=>Vj M h'∧Fr M [] h h'∧∃ a b x y,r=.agg [a,b,x,y]):=by
 refine QE.of_codeOf K5 Qx (by simp) ⟨.agg [N 0,N 0,N 0,N 0],h,hf,Fr.refl _ _ _,⟨_,_,_,_,rfl⟩⟩ ?_
 have gs1:∀ (k:List Box) (x:Box),(h++k).set h.length x=h++k.set 0 x:=fun k x=>by rw [List.set_append_right _ _ (Nat.le_refl _)];simp
 simp (disch:=omega) [Yf,QN,XG,Qt,Qo]
 refine Qm (ZhJ (hf.app _) _ _ _ _ _ _) ?_
 rintro r H1 ⟨hf1,fr1,a,b,x,y,e,rfl⟩
 have l1:h.length+2<=H1.length:=by have:=fr1.len;simpa using this
 have hO:H1[h.length+1]?=some (some [N 0,N 0,.sl true true 1 [],.sl true true 1 []]):=by
  have hM:h.length+1≠M:=by
   obtain ⟨a,b,c,d,cs,l,hb⟩:=hf
   intro e
   rw [List.getElem?_eq_none (by omega)] at hb
   simp at hb
  rw [fr1.same (h.length+1) (by simp) hM (by simp),XG];rfl
 have hf2:=hf1.app [none]
 have hf3:=hf2
 obtain ⟨m1,m2,m3,m4,m5,m6,hbF⟩:=hf3
 have fO:∀ k:List Box,(H1++k)[h.length+1]?=some (some [N 0,N 0,.sl true true 1 [],.sl true true 1 []]):=fun k=>by rw [Q7 (by omega)];exact hO
 have hM:h.length+1≠M:=by
  obtain ⟨a,b,c,d,cs,l,hb⟩:=hf
  intro e
  rw [List.getElem?_eq_none (by omega)] at hb
  simp at hb
 have fr2:Fr M [] h (H1++[none]):=((Fr.app M [] h _).trans0 fr1).appR _
 have l2:∀ _:Unit,h.length+1 < (H1++[none]).length:=fun _=>by simp;omega
 clear l1
 simp (disch:=omega) [QN,Qo,hbF,fO]
 refine Zge hf2 fr2 (by omega) (l2 ()) hM (fun r h' a b c=>⟨a,b,c⟩) ?_ ?_
 ·simp
 ·exact ⟨_,_,_,_,rfl⟩
def ZeA (acc:List GTerm) (x:LV):Prop:=∃ nl z Qj ws,x=.sl true nl z Qj∧(z=4∨nl=true)∧(nl=true->Qj=[])∧Qv Qj=Q9 ws∧nms ws=nms acc∧fls ws∧WV 0 Qj∧Qj.length=acc.length
theorem Vj.set {M:Nat} {H:List Box} (hf:Vj M H) {P:Nat} (hp:P≠M) (x:Box):Vj M (H.set P x):=by
 obtain ⟨a',b',c,d,cs,l,h1⟩:=hf
 exact ⟨a',b',c,d,cs,l,by rw [List.getElem?_set_ne hp];exact h1⟩
theorem ZjE {nl:Bool} {z:Nat} {Qj:List (List LV)} (hz:z=4∨nl=true) (hm:Qj.length<=1000) (u:Bool) (cs:List LV):Wy 4 (.sl true nl z Qj) (.sl u false 4 [cs])=some (.sl true false 4 (Qj++[cs])):=by
 have hmm:WX=1099511627776:=rfl
 simp only [Wy]
 rw [if_pos ⟨by simp,hz,.inl trivial,by simp;omega⟩]
 simp
theorem ZeA.form {acc:List GTerm} {x:LV} (h:ZeA acc x):x.flat=true∧x.cells=[x]∧x.alive=true:=by
 obtain ⟨a,b,c,d,rfl,_⟩:=h
 exact ⟨rfl,rfl,rfl⟩
theorem ZeA.nil:ZeA [] (.sl true true 1 []):=⟨true,1,[],[],rfl,.inr rfl,fun _=>rfl,by simp [Q9],rfl,by simp [fls],by simp,rfl⟩
theorem ZeA.snoc {acc:List GTerm} {x:LV} (h:ZeA acc x) {v:GTerm} {r:LV} (hv:isTF v r) (lo:Low 0 r) (hm:acc.length<=100):∃ cs x',r=.agg cs∧cs.length=4∧Wy 4 x (.sl true false 4 [cs])=some x'∧Wy 4 x (.sl false false 4 [cs])=some x'∧ZeA (acc++[v]) x':=by
 obtain ⟨nl,z,Qj,ws,rfl,h1,h2,h3,h4,h5,h6,h7⟩:=h
 obtain ⟨w,cs,rfl,q1,q2,q3⟩:=hv
 have hmm:WX=1099511627776:=rfl
 have hcs:cs.length=4:=by rw [<- We,q1];simp
 have ap:∀ u:Bool,Wy 4 (.sl true nl z Qj) (.sl u false 4 [cs])=some (.sl true false 4 (Qj++[cs])):=fun u=>by
  simp only [Wy]
  rw [if_pos ⟨by simp,h1,.inl trivial,by simp;omega⟩]
  simp
 refine ⟨cs,.sl true false 4 (Qj++[cs]),rfl,hcs,ap _,ap _,false,4,Qj++[cs],ws++[w],rfl,.inl rfl,by simp,?_,?_,?_,?_,by simp [h7]⟩
 ·have:∀ (a:List (List LV)) (b:List LV),Qv (a++[b])=Qv a++[shareAll b]:=fun a b=>by
   induction a with
   | nil=>rfl
   | cons x a ih=>simp only [List.cons_append,Qv,ih]
  rw [this,h3,q1]
  simp [ZaX]
 ·rw [ZoF,ZoF] at h4 ⊢
  rw [List.map_append,List.map_append,h4]
  simp [q2]
 ·exact ZaK.2 fun x hx=>by
   rcases List.mem_append.1 hx with hx | hx
   ·exact ZaK.1 h5 x hx
   ·simp at hx;subst hx;exact q3
 ·have:∀ (a:List (List LV)) (b:List LV),WV 0 a->QI 0 b->WV 0 (a++[b]):=fun a b ha hb=>by
   induction a with
   | nil=>simpa using hb
   | cons x a ih=>simp only [List.cons_append,WV] at ha ⊢;exact ⟨ha.1,ih ha.2⟩
  exact this _ _ h6 (by simpa using lo)
def Zgv (x:LV):Prop:=∃ nl z Qj,x=.sl true nl z Qj∧QL Qj∧∀ r∈Qj,r.length=4
theorem Zgv.nil:Zgv (.sl true true 1 []):=⟨true,1,[],rfl,by simp only [QL],by simp⟩
theorem Zgv.snoc {x x':LV} {cs:List LV} (h:Zgv x) (hw:QB (.agg cs)) (c4:cs.length=4) (ap:Wy 4 x (.sl true false 4 [cs])=some x'):Zgv x':=by
 obtain ⟨nl,z,Qj,rfl,h1,h2⟩:=h
 simp only [Wy] at ap
 split at ap
 ·simp only [List.isEmpty_cons,Bool.not_false,Bool.or_true,Bool.and_false,Option.some.injEq] at ap
  subst ap
  refine ⟨_,_,_,rfl,?_,fun r hr=>?_⟩
  ·have:∀ a:List (List LV),QL a->QL (a++[cs]):=fun a ha=>by
    induction a with
    | nil=>simp only [List.nil_append,QL];simp only [QB] at hw;exact ⟨hw,trivial⟩
    | cons x a ih=>simp only [List.cons_append,QL] at ha ⊢;exact ⟨ha.1,ih ha.2⟩
   exact this _ h1
  ·rcases List.mem_append.1 hr with hr | hr
   ·exact h2 r hr
   ·simp at hr;subst hr;exact c4
 ·simp at ap
theorem KE.parts {op n:Int} {nl1:Bool} {ty:List Int} {nl2:Bool} {ks:List GTerm} {vs:List LV} (h:KE (.mk op n nl1 ty nl2 ks) vs):∃ x y Y,vs=[N op,N n,x,y]∧TL.share x=L nl1 ty∧TL.share y=Y∧TL.share Y=Y∧Zbg Y=some ks.length∧∀ (i:Nat) (hi:i < ks.length),QP 4 Y (i:Int)=some (.rp (ks[i]).cells):=by
 rcases h with rfl | ⟨m,u,h,rfl⟩
 ·exact ⟨_,_,.sl false nl2 4 (Q9 ks),rfl,by simp,by simp,by simp,by simp [Zbg],fun i hi=>Wq ks false nl2 i hi⟩
 ·simp only [JL,GTerm.mk.injEq] at h
  obtain ⟨rfl,rfl,rfl,rfl,rfl,rfl⟩:=h
  exact ⟨_,_,.sl false true 1 [],rfl,by simp,by simp,by simp,by simp [Zbg],fun i hi=>by simp at hi⟩
theorem cl_form (nl:Bool) (ty:List Int) (h:nl=true->ty=[]):∃ u nT,cl nl ty=.sl u nT 1 (ty.map fun x=>[N x])∧(flOk nT ty∧QB (.sl u nT 1 (ty.map fun x=>[N x]))):=by
 cases nl with
 | true=>exact ⟨false,true,by rw [h rfl];simp [cl],fun _=>h rfl,by rw [h rfl];simp [QB,QL]⟩
 | false=>exact ⟨true,false,by simp [cl],by simp [flOk],Zc (fun n:Int=>Value.int .i64 n) true false ty (.inr ⟨rfl,rfl⟩)⟩
section
variable {s:GSys} {M k0:Nat} {h H H1:List Box} {l l1:Nat} {σ σ1:List PC} {ids new:List Nat} {O:Nat} {r:LV} {v:GTerm}
theorem LkN.nextT (A:LkN s M k0 h H l σ ids new O) (hr:Znk s M k0 H (ids++new) (.ok l1 σ1 v) r H1):isTF v r∧Low 0 r∧QB r∧Fr M (ids++new) H H1∧∃ n2,LkN s M k0 h H1 l1 σ1 ids (new++n2) O∧∀ P,P < H.length->P ∉ ids++new->P ∉ ids++(new++n2):=by
 obtain ⟨n2,h1,h2,h3,h4,h5,h6⟩:=hr
 have l0:=A.fr.len
 have o2:=A.o2
 have hP:∀ P,P < H.length->P ∉ ids++new->P ∉ ids++(new++n2):=fun P hP hn hi=>by
  rw [<- List.append_assoc] at hi
  rcases List.mem_append.1 hi with hi | hi
  ·exact hn hi
  ·have:=h1 P hi;omega
 refine ⟨h4,h5,h6,h3,n2,⟨by rw [<- List.append_assoc];exact h2,A.fr.trans h3 A.hn,fun i hi=>?_,A.o1,by have:=h3.len;omega,A.o3,hP O A.o2 A.o4,by rw [h3.same O A.o2 A.o3 A.o4];exact A.box⟩,hP⟩
 rcases List.mem_append.1 hi with hi | hi
 ·exact A.hn i hi
 ·have:=h1 i hi;omega
theorem LkN.setP (A:LkN s M k0 h H l σ ids new O) {P:Nat} (h1:P≠M) (h2:P ∉ ids++new) (h3:P≠O) (h4:h.length<=P) (x:Box):LkN s M k0 h (H.set P x) l σ ids new O :=
 ⟨A.ms.set h1 h2 x,A.fr.set h4 x,A.hn,A.o1,by rw [List.length_set];exact A.o2,A.o3,A.o4,by rw [List.getElem?_set_ne h3];exact A.box⟩
end
def TellZ (s:GSys) (M k0:Nat) (h:List Box) (ids:List Nat) (res:TTold) (r:LV) (h':List Box):Prop:=∃ r',nz r'=nz r∧Znk s M k0 h ids res r' h'
structure KOk (s:GSys) (M k0:Nat) (h:List Box) (ids:List Nat) (O P:Nat) (l1:Nat) (σ1:List PC) (op n:Int) (ty:LV) (e1:List Nat) (E:List Nat) (f:Nat->List PC->GTerm->TTold) (ks:List GTerm) (R:KTold) (i:Nat) (h':List Box):Prop where
 P1:P < h'.length
 ex:∃ new l' σ' acc kx,LkN s M k0 h h' l' σ' ids new O∧P ∉ ids++new∧h'[P]?=some (some [N op,N n,ty,kx])∧ZeA acc kx∧Zgv kx∧acc.length=i∧LE s l1 σ1 l' σ'∧Y9 (ids++new) e1=E∧X7 f (ks.drop i) l' σ' acc=R
structure KBad (M:Nat) (h:List Box) (ids:List Nat) (O P:Nat) (op n:Int) (ty:LV) (R:KTold) (i:Nat) (h':List Box):Prop where
 P1:P < h'.length
 O1:O < h'.length
 hR:R=.fail
 hf:Vj M h'
 fr:Fr M ids h h'
 bO:h'[O]?=some (some [N 0,N 0,.sl true true 1 [],.sl true true 1 []])
 bP:∃ nl z Qj,h'[P]?=some (some [N op,N n,ty,.sl true nl z Qj])∧(z=4∨nl=true)∧Qj.length=i
def TkAt (s:GSys) (M k0:Nat) (h:List Box) (ids:List Nat) (l1:Nat) (σ1:List PC) (op n:Int) (ty:List Int) (e1:List Nat) (q':Int) (f:Nat->List PC->GTerm->TTold) (ks:List GTerm) (R:KTold) (t0:Nat->LV) (H0:List Box):Prop :=
 ∃ (E:List Nat) (u1 nl3 uT nT:Bool) (vx vy Y:LV) (P:Nat),t0 0=.ptr M 0∧t0 3=N q'∧t0 8=.ptr (h.length+1) 0∧t0 9=.rp [N op,N n,vx,vy]∧share vy=Y∧share Y=Y∧Zbg Y=some ks.length ∧
  (∀ (i:Nat) (hi:i < ks.length),QP 4 Y (i:Int)=some (.rp (ks[i]).cells))∧t0 10=PL u1 nl3 E∧t0 11=.ptr P 0∧P≠M∧P≠h.length+1∧h.length<=P∧(flOk nT ty∧QB (.sl uT nT 1 (ty.map fun x=>[N x]))) ∧
  KOk s M k0 h ids (h.length+1) P l1 σ1 op n (.sl uT nT 1 (ty.map fun x=>[N x])) e1 E f ks R 0 H0
theorem tell_ok {s:GSys} (hs:s.sys=true) (sw:s.wf):∀ (d l:Nat) (σ:List PC) (t:GTerm) (env:List Nat) (q:Int) (nl:Bool) (h:List Box) (ids:List Nat) (M k0:Nat),3000 < l+d->l<=3000->MS s M k0 h l σ ids->BD s l σ->BE l σ env->σ.length<=2 * l+8->s.G q->Xg s d l σ t env q≠.stuck ->
  QE Tryz.prog Xz [.ptr M 0,t.lv,PL false nl (Y9 ids env),N q] h (Znk s M k0 h ids (Xg s d l σ t env q)):=by
 have ts:=GSys.sys_of hs
 intro d
 induction d with
 | zero=>intro l σ t env q nl h ids M k0 h1 h2;omega
 | succ d ih =>
  intro l σ t env q nl h ids M k0 hd hl m bd be hm hq hns
  have hex:=Znk.ex m hns (fun l' σ' v he=>by
   obtain ⟨a,b⟩:=ZcO ts _ _ _ _ _ _ _ _ _ he bd be
   exact ⟨a.len,b⟩)
  have hex':∃ (r:LV) (h':List Box),TellZ s M k0 h ids (Xg s (d+1) l σ t env q) r h':=by
   obtain ⟨r,h',hr⟩:=hex
   exact ⟨r,h',r,rfl,hr⟩
  refine QE.nzR (R:=TellZ s M k0 h ids (Xg s (d+1) l σ t env q)) ?_ (fun r h' hr=>hr)
  refine QE.of_codeOf K5 Qx (by simp) hex' ?_
  have lM:=m.lM
  have hO1:h.length+1≠M:=by omega
  have hO2:h.length+1 ∉ ids:=fun hi=>by have:=m.lt _ hi;omega
  have A0:LkN s M k0 h (h++[none,some [N 0,N 0,.sl true true 1 [],.sl true true 1 []]]) l σ ids [] (h.length+1) :=
   ⟨by rw [List.append_nil];exact m.app _,Fr.app M ids h _,by simp,by omega,by simp,hO1,by rw [List.append_nil];exact hO2,by rw [XG];rfl⟩
  rw [Xg] at hns ⊢
  have hnsL:Q5 s (d+1) l σ t env q≠.stuck:=fun e=>hns (by rw [e])
  have LK:=look_ok hs sw (d+1) l σ t env q nl _ (ids++[]) M k0 (by omega) hl A0.ms bd be hm hq hnsL
  rw [List.append_nil] at LK
  clear lM
  cases hL:Q5 s (d+1) l σ t env q with
  | stuck=>exact absurd hL hnsL
  | fail =>
   rw [hL] at LK
   simp only
   simp (disch:=omega) [Yf,QN,XG,Qt,Qo]
   refine Qm LK ?_
   rintro r H1 hr
   obtain ⟨hf1,fr1,oH1,hO,a,b,x,y,e,rfl⟩:=A0.fails (by rw [List.append_nil];exact hr)
   have hf2:=hf1.app [none]
   have hf3:=hf2
   obtain ⟨m1,m2,m3,m4,m5,m6,hbF⟩:=hf3
   have fO:∀ k:List Box,(H1++k)[h.length+1]?=some (some [N 0,N 0,.sl true true 1 [],.sl true true 1 []]):=fun k=>by rw [Q7 oH1];exact hO
   have fL:∀ _:Unit,h.length+1 < (H1++[none]).length:=fun _=>by simp;omega
   clear oH1
   simp (disch:=omega) [QN,Qo,hbF,fO]
   refine Zge hf2 (fr1.appR [none]) (by omega) (fL ()) hO1 (fun r h' a b c=>⟨r,rfl,a,b,c⟩) ?_ ?_
   ·simp
   ·exact ⟨_,_,_,_,rfl⟩
  | ok l1 σ1 v1 e1 =>
   rw [hL] at LK hns
   obtain ⟨op,n,nl1,ty,nl2,ks⟩:=v1
   simp only at hns ⊢
   have hok:okV s op n nl1 ty ks.length=true:=by
    cases hv:okV s op n nl1 ty ks.length with
    | true=>rfl
    | false=>rw [hv] at hns;exact absurd rfl hns
   rw [hok] at hns ⊢
   have e00:¬ (true=false):=by simp
   rw [if_neg e00] at hns ⊢
   obtain ⟨g11,k3,t40,fl1⟩:=Zq4 hok
   obtain ⟨a1,a2,a3,a4,a5,a6,a7⟩:=Kw ts _ _ _ _ _ _ _ _ _ _ hL bd be
   have gq:s.G (if op=11 then s.tm q n else q):=by split;exact GSys.Gtm ts q n;exact hq
   have hq11:op=11->(if op=11 then s.tm q n else q)=s.tm q n:=fun e=>if_pos e
   have hqn:¬ op=11->(if op=11 then s.tm q n else q)=q:=fun e=>if_neg e
   generalize (if op=11 then s.tm q n else q)=q' at *
   generalize hR:X7 (fun l σ k=>Xg s d l σ k e1 q') ks l1 σ1 []=R at hns ⊢
   have hRs:R≠.stuck:=by rintro rfl;exact hns rfl
   simp only [Yf]
   rw [XA,XA,XA,XA]
   refine ZcZ (TkAt s M k0 h ids l1 σ1 op n ty e1 q' (fun l σ k=>Xg s d l σ k e1 q') ks R) ?_ ?_
   ·simp (disch:=omega) [QN,XG,Qt,Qo]
    refine Qm LK ?_
    rintro r H1 hr
    obtain ⟨new,u1,nl3,vs,hv1,rfl,A1⟩:=A0.next (by rw [List.append_nil];exact hr)
    obtain ⟨vx,vy,Y,rfl,hx,hy,hY,hlen,hidx⟩:=hv1.parts
    have A2:=A1.app [none]
    obtain ⟨nm1,hnm1,hb1⟩:=A2.ms.box
    simp only [GSys.cells,List.cons_append,List.nil_append] at hb1
    obtain ⟨uT,nT,hcl,hfT⟩:=cl_form nl1 ty fl1
    have CL:=Zhc nl1 ty (by omega)
    rw [hcl] at CL
    simp (disch:=omega) [QN,Qo,hb1,hx,hy]
    refine Qa CL (by simp) ?_
    have hP1:H1.length+1≠M:=by have:=A1.ms.lM;omega
    have hP2:H1.length+1 ∉ ids++new:=fun hi=>by have:=A1.ms.lt _ hi;omega
    have hP3:H1.length+1≠h.length+1:=by have:=A1.o2;omega
    have hP4:h.length<=H1.length+1:=by have:=A1.fr.len;omega
    have A3:=A1.app [none,some [N op,N n,.sl uT nT 1 (ty.map fun x=>[N x]),.sl true true 1 []]]
    have J0:KOk s M k0 h ids (h.length+1) (H1.length+1) l1 σ1 op n (.sl uT nT 1 (ty.map fun x=>[N x])) e1 (Y9 (ids++new) e1) (fun l σ k=>Xg s d l σ k e1 q') ks R 0 (H1++[none,some [N op,N n,.sl uT nT 1 (ty.map fun x=>[N x]),.sl true true 1 []]]) :=
     ⟨by simp,new,l1,σ1,[],_,A3,hP2,by rw [XG];rfl,ZeA.nil,Zgv.nil,rfl,⟨Nat.le_refl _,a2,Nat.le_refl _,by omega,a5⟩,rfl,by rw [List.drop_zero];exact hR⟩
    have tm:=Kh ts hq (b:=n)
    obtain ⟨nm3,hnm3,hb3⟩:=A3.ms.box
    simp only [GSys.cells,List.cons_append,List.nil_append] at hb3
    by_cases h11:op=11
    ·have z11:eqB op 11=true:=by rw [Qc];exact h11
     have e11:=hq11 h11
     simp (disch:=omega) [QN,Qo,hb3,hx,hy,z11]
     refine Qa (tm (g11 h11)) (by simp) ?_
     simp (disch:=omega) [QN,Qo,hb3,hx,hy,hY]
     exact ⟨Y9 (ids++new) e1,u1,nl3,uT,nT,vx,vy,Y,H1.length+1,by simp,by simp [e11],by simp,by simp,hy,hY,hlen,hidx,by simp,by simp,hP1,hP3,hP4,hfT,J0⟩
    ·have z11:eqB op 11=false:=by rw [Qb];exact h11
     have e11:=hqn h11
     simp (disch:=omega) [QN,Qo,hb3,hx,hy,hY,z11]
     exact ⟨Y9 (ids++new) e1,u1,nl3,uT,nT,vx,vy,Y,H1.length+1,by simp,by simp [e11],by simp,by simp,hy,hY,hlen,hidx,by simp,by simp,hP1,hP3,hP4,hfT,J0⟩
   ·rintro t0 H0 hf ⟨E,u1,nl3,uT,nT,vx,vy,Y,P,e0,e3,e8,e9,hy,hY,hlen,hidx,e10,e11,p1,p2,p3,hfT,J0⟩
    clear hf
    simp (disch:=omega) [e0,e3,e8,e9,e10,e11,hy,hY,hlen]
    generalize hTY:LV.sl uT nT 1 (ty.map fun x=>[N x])=TY at *
    refine WS ks.length 0 (fun i t h'=>t 49=N i∧(KOk s M k0 h ids (h.length+1) P l1 σ1 op n TY e1 E (fun l σ k=>Xg s d l σ k e1 q') ks R i h'∨KBad M h ids (h.length+1) P op n TY R i h'))
     (fun t h'=>KOk s M k0 h ids (h.length+1) P l1 σ1 op n TY e1 E (fun l σ k=>Xg s d l σ k e1 q') ks R ks.length h'∨KBad M h ids (h.length+1) P op n TY R ks.length h') ⟨by simp,.inl J0⟩ (Nat.zero_le _) ?_ ?_
    ·rintro i t1 h1' hf hi ⟨e49,hJ⟩
     have f0:=hf 0 (by kernel_rfl);have f3:=hf 3 (by kernel_rfl);have f8:=hf 8 (by kernel_rfl);have f10:=hf 10 (by kernel_rfl);have f11:=hf 11 (by kernel_rfl);have f47:=hf 47 (by kernel_rfl);have f48:=hf 48 (by kernel_rfl)
     clear hf
     simp [e0,e3,e8,e10,e11] at f0 f3 f8 f10 f11 f47 f48
     by_cases h6:i < ks.length
     ·have hb:ltB (i:Int) ks.length=true:=by rw [Qf];omega
      have ix:=hidx i h6
      rcases hJ with ⟨P1,new,l',σ',acc,kx,A,Pn,bP,kc,kw,ka,le,hE,tk⟩ | ⟨P1,O1,hRf,hf,fr,bO,nlk,z,Qj,bP,hz,hrl⟩
      ·have pA:∀ k:List Box,(h1'++k)[P]?=some (some [N op,N n,TY,kx]):=fun k=>by rw [Q7 P1];exact bP
       have pB:∀ (k:List Box) (x:Box),(h1'++k).set P x=h1'.set P x++k:=fun k x=>List.set_append_left _ _ P1
       have kal:kx.alive=true:=by
        obtain ⟨a,b,c,d,rfl,_⟩:=kc;rfl
       have hd:ks.drop i=ks[i]::ks.drop (i+1):=List.drop_eq_getElem_cons h6
       rw [hd,X7] at tk
       have bk:BE l' σ' e1:=⟨by have:=le.le;omega,fun j hj=>by have:=a7 j hj;have:=le.len;omega⟩
       have hnk:Xg s d l' σ' ks[i] e1 q'≠.stuck:=by
        intro e;rw [e] at tk;exact hRs tk.symm
       have hmany:σ'.length<=2 * l'+8:=by have:=le.many;omega
       have P1':∀ _:Unit,P < h1'.length:=fun _=>P1
       clear P1
       simp (disch:=omega) [f0,f3,f8,f10,f11,f47,f48,e49,hb,ix,QN,Qo,Zu,pA,pB,kal]
       refine ⟨?_,?_⟩
       ·have B1:=(A.setP p1 Pn p2 p3 (some [N op,N n,TY,.dead])).app [none]
        have IH1:=ih l' σ' ks[i] e1 q' nl3 _ (ids++new) M k0 (by have:=le.le;omega) le.top B1.ms le.bd bk hmany gq hnk
        rw [hE] at IH1
        refine Qm IH1 ?_
        rintro r H2 hr
        cases hT:Xg s d l' σ' ks[i] e1 q' with
        | stuck=>exact absurd hT hnk
        | fail =>
         rw [hT] at hr tk
         obtain ⟨hf2,fr2,a,b,x,y,rfl⟩:=hr
         obtain ⟨nlk,z,Qj,ws,rfl,hz,_,_,_,_,_,hrl⟩:=kc
         have P1h:=P1' ()
         have hP:H2[P]?=some (some [N op,N n,TY,.dead]):=by rw [fr2.same P (by simp;omega) p1 Pn,Q7 (by simp;omega),List.getElem?_set_self P1h]
         have P2:∀ _:Unit,P < H2.length:=fun _=>by have:=fr2.len;simp at this;omega
         have O2:∀ _:Unit,h.length+1 < H2.length:=fun _=>by have:=fr2.len;have:=B1.o2;omega
         have hPs:∀ x:Box,(H2.set P x)[P]?=some x:=fun x=>List.getElem?_set_self (P2 ())
         have bO:H2[h.length+1]?=some (some [N 0,N 0,.sl true true 1 [],.sl true true 1 []]):=by rw [fr2.same _ B1.o2 B1.o3 B1.o4];exact B1.box
         have frA:=B1.fr.trans fr2 B1.hn
         clear P1h
         have aa:=fun u=>ZjE (nl:=nlk) (z:=z) (Qj:=Qj) hz (by omega) u
         simp (disch:=omega) [hP,hPs,f11,Qo,Zu,Qn,aa,e49,Qg,LV.flat,LV.cells,LV.alive]
         exact ⟨h6,.inr ⟨by rw [List.length_set];exact P2 (),by rw [List.length_set];exact O2 (),tk.symm,hf2.set p1 _,frA.set p3 _,by rw [List.getElem?_set_ne p2];exact bO,false,4,Qj++[[a,b,x,y]],hPs _,.inl rfl,by simp [hrl,ka]⟩⟩
        | ok l2 σ2 v =>
         rw [hT] at hr tk
         obtain ⟨tv,lo,hw2,fr2,n2,A2,hP2⟩:=B1.nextT hr
         obtain ⟨cs,x',rfl,c4,ap1,ap2,kc'⟩:=kc.snoc tv lo (by omega)
         have P1h:=P1' ()
         have hP:H2[P]?=some (some [N op,N n,TY,.dead]):=by rw [fr2.same P (by simp;omega) p1 Pn,Q7 (by simp;omega),List.getElem?_set_self P1h]
         have P2:∀ _:Unit,P < H2.length:=fun _=>by have:=fr2.len;simp at this;omega
         have hPs:∀ x:Box,(H2.set P x)[P]?=some x:=fun x=>List.getElem?_set_self (P2 ())
         clear P1h
         simp (disch:=omega) [hP,f11,Qo,Zu,Qn,ap1,ap2,c4,List.take_of_length_le,List.drop_of_length_le,e49,Qg]
         obtain ⟨xf1,xf2,xf3⟩:=kc'.form
         have Pn2:=hP2 P (by have:=P1' ();simp;try omega) Pn
         have LE2:=(ZcO ts _ _ _ _ _ _ _ _ _ hT le.bd bk).1
         have hE2:Y9 (ids++(new++n2)) e1=E:=by
          rw [<- List.append_assoc,ZaW n2 (fun j hj=>by rw [A.ms.len];exact bk.2 j hj),hE]
         rw [xf2]
         refine ⟨⟨xf1,rfl⟩,h6,.inl ⟨by rw [List.length_set];exact P2 (),new++n2,l2,σ2,acc++[v],x',A2.setP p1 Pn2 p2 p3 _,Pn2,?_,kc',kw.snoc hw2 c4 ap1,by simp [ka],le.trans LE2,hE2,tk⟩⟩
         rw [hPs];simp
       ·have B1:=A.app [none]
        have IH1:=ih l' σ' ks[i] e1 q' nl3 _ (ids++new) M k0 (by have:=le.le;omega) le.top B1.ms le.bd bk hmany gq hnk
        rw [hE] at IH1
        refine Qm IH1 ?_
        rintro r H2 hr
        cases hT:Xg s d l' σ' ks[i] e1 q' with
        | stuck=>exact absurd hT hnk
        | fail =>
         rw [hT] at hr tk
         obtain ⟨hf2,fr2,a,b,x,y,rfl⟩:=hr
         obtain ⟨nlk,z,Qj,ws,rfl,hz,_,_,_,_,_,hrl⟩:=kc
         have P1h:=P1' ()
         have hP:H2[P]?=some (some [N op,N n,TY,.sl true nlk z Qj]):=by rw [fr2.same P (by simp;omega) p1 Pn,Q7 P1h];exact bP
         have P2:∀ _:Unit,P < H2.length:=fun _=>by have:=fr2.len;simp at this;omega
         have O2:∀ _:Unit,h.length+1 < H2.length:=fun _=>by have:=fr2.len;have:=B1.o2;omega
         have hPs:∀ x:Box,(H2.set P x)[P]?=some x:=fun x=>List.getElem?_set_self (P2 ())
         have bO:H2[h.length+1]?=some (some [N 0,N 0,.sl true true 1 [],.sl true true 1 []]):=by rw [fr2.same _ B1.o2 B1.o3 B1.o4];exact B1.box
         have frA:=B1.fr.trans fr2 B1.hn
         clear P1h
         have aa:=fun u=>ZjE (nl:=nlk) (z:=z) (Qj:=Qj) hz (by omega) u
         simp (disch:=omega) [hP,hPs,f11,Qo,Zu,Qn,aa,e49,Qg,LV.flat,LV.cells,LV.alive]
         exact ⟨h6,.inr ⟨by rw [List.length_set];exact P2 (),by rw [List.length_set];exact O2 (),tk.symm,hf2.set p1 _,frA.set p3 _,by rw [List.getElem?_set_ne p2];exact bO,false,4,Qj++[[a,b,x,y]],hPs _,.inl rfl,by simp [hrl,ka]⟩⟩
        | ok l2 σ2 v =>
         rw [hT] at hr tk
         obtain ⟨tv,lo,hw2,fr2,n2,A2,hP2⟩:=B1.nextT hr
         obtain ⟨cs,x',rfl,c4,ap1,ap2,kc'⟩:=kc.snoc tv lo (by omega)
         have P1h:=P1' ()
         have hP:H2[P]?=some (some [N op,N n,TY,kx]):=by rw [fr2.same P (by simp;omega) p1 Pn,Q7 P1h];exact bP
         have P2:∀ _:Unit,P < H2.length:=fun _=>by have:=fr2.len;simp at this;omega
         have hPs:∀ x:Box,(H2.set P x)[P]?=some x:=fun x=>List.getElem?_set_self (P2 ())
         clear P1h
         simp (disch:=omega) [hP,hPs,f11,Qo,Zu,Qn,kal,ap1,ap2,c4,List.take_of_length_le,List.drop_of_length_le,e49,Qg]
         obtain ⟨xf1,xf2,xf3⟩:=kc'.form
         have Pn2:=hP2 P (by have:=P1' ();simp;try omega) Pn
         have LE2:=(ZcO ts _ _ _ _ _ _ _ _ _ hT le.bd bk).1
         have hE2:Y9 (ids++(new++n2)) e1=E:=by
          rw [<- List.append_assoc,ZaW n2 (fun j hj=>by rw [A.ms.len];exact bk.2 j hj),hE]
         rw [xf2]
         refine ⟨⟨xf1,rfl⟩,h6,.inl ⟨by rw [List.length_set];exact P2 (),new++n2,l2,σ2,acc++[v],x',A2.setP p1 Pn2 p2 p3 _,Pn2,?_,kc',kw.snoc hw2 c4 ap1,by simp [ka],le.trans LE2,hE2,tk⟩⟩
         rw [hPs];simp
      ·have pA:∀ k:List Box,(h1'++k)[P]?=some (some [N op,N n,TY,.sl true nlk z Qj]):=fun k=>by rw [Q7 P1];exact bP
       have pB:∀ (k:List Box) (x:Box),(h1'++k).set P x=h1'.set P x++k:=fun k x=>List.set_append_left _ _ P1
       have P1':∀ _:Unit,P < h1'.length:=fun _=>P1
       have O1':∀ _:Unit,h.length+1 < h1'.length:=fun _=>O1
       clear P1 O1
       have hi3:i<=3:=by omega
       generalize ks[i]=g at ix
       obtain ⟨gop,gn,gnl1,gty,gnl2,gks⟩:=g
       simp only [GTerm.cells] at ix
       simp (disch:=omega) [f0,f3,f8,f10,f11,f47,f48,e49,hb,ix,QN,Qo,Zu,pA,pB,LV.alive]
       refine ⟨?_,?_⟩
       ·refine Qm (Znr ((hf.set p1 (some [N op,N n,TY,.dead])).app [none]) _ _ _ _ _ _) ?_
        rintro r H2 ⟨hf2,fr2,a,b,x,y,rfl⟩
        have P1h:=P1' ()
        have O1h:=O1' ()
        have hP:H2[P]?=some (some [N op,N n,TY,.dead]):=by rw [fr2.same P (by simp;omega) p1 (by simp),Q7 (by simp;omega),List.getElem?_set_self P1h]
        have bO2:H2[h.length+1]?=some (some [N 0,N 0,.sl true true 1 [],.sl true true 1 []]):=by rw [fr2.same (h.length+1) (by simp;omega) hO1 (by simp),Q7 (by simp;omega),List.getElem?_set_ne p2];exact bO
        have P2:∀ _:Unit,P < H2.length:=fun _=>by have:=fr2.len;simp at this;omega
        have O2:∀ _:Unit,h.length+1 < H2.length:=fun _=>by have:=fr2.len;simp at this;omega
        have hPs:∀ x:Box,(H2.set P x)[P]?=some x:=fun x=>List.getElem?_set_self (P2 ())
        have frA:Fr M ids h H2:=((fr.set p3 (some [N op,N n,TY,.dead])).appR [none]).trans0 fr2.weak
        clear P1h O1h
        have aa:=fun u=>ZjE (nl:=nlk) (z:=z) (Qj:=Qj) hz (by omega) u
        simp (disch:=omega) [hP,hPs,f11,Qo,Zu,Qn,aa,e49,Qg,LV.flat,LV.cells,LV.alive]
        exact ⟨by omega,.inr ⟨by rw [List.length_set];exact P2 (),by rw [List.length_set];exact O2 (),hRf,hf2.set p1 _,frA.set p3 _,by rw [List.getElem?_set_ne p2];exact bO2,false,4,Qj++[[a,b,x,y]],hPs _,.inl rfl,by simp [hrl]⟩⟩
       ·refine Qm (Znr (hf.app [none]) _ _ _ _ _ _) ?_
        rintro r H2 ⟨hf2,fr2,a,b,x,y,rfl⟩
        have P1h:=P1' ()
        have O1h:=O1' ()
        have hP:H2[P]?=some (some [N op,N n,TY,.sl true nlk z Qj]):=by rw [fr2.same P (by simp;omega) p1 (by simp),Q7 P1h];exact bP
        have bO2:H2[h.length+1]?=some (some [N 0,N 0,.sl true true 1 [],.sl true true 1 []]):=by rw [fr2.same (h.length+1) (by simp;omega) hO1 (by simp),Q7 O1h];exact bO
        have P2:∀ _:Unit,P < H2.length:=fun _=>by have:=fr2.len;simp at this;omega
        have O2:∀ _:Unit,h.length+1 < H2.length:=fun _=>by have:=fr2.len;simp at this;omega
        have hPs:∀ x:Box,(H2.set P x)[P]?=some x:=fun x=>List.getElem?_set_self (P2 ())
        have frA:Fr M ids h H2:=(fr.appR [none]).trans0 fr2.weak
        clear P1h O1h
        have aa:=fun u=>ZjE (nl:=nlk) (z:=z) (Qj:=Qj) hz (by omega) u
        simp (disch:=omega) [hP,hPs,f11,Qo,Zu,Qn,aa,e49,Qg,LV.flat,LV.cells,LV.alive]
        exact ⟨by omega,.inr ⟨by rw [List.length_set];exact P2 (),by rw [List.length_set];exact O2 (),hRf,hf2.set p1 _,frA.set p3 _,by rw [List.getElem?_set_ne p2];exact bO2,false,4,Qj++[[a,b,x,y]],hPs _,.inl rfl,by simp [hrl]⟩⟩
     ·have hb:ltB (i:Int) ks.length=false:=by rw [Qd];omega
      simp (disch:=omega) [f48,e49,hb]
      have:i=ks.length:=by omega
      subst this
      exact hJ
    ·rintro t1 h1' hf hJ
     have f8:=hf 8 (by kernel_rfl);have f11:=hf 11 (by kernel_rfl)
     clear hf
     simp [e8,e11] at f8 f11
     rcases hJ with ⟨P1,new,l',σ',acc,kx,A,Pn,bP,kc,kw,ka,le,hE,tk⟩ | ⟨P1,O1,hRf,hf,fr,bO,nlk,z,Qj,bP,hz,hrl⟩
     ·rw [List.drop_length] at tk
      simp only [X7] at tk
      subst tk
      obtain ⟨nlk,z,Qj,ws,rfl,hz,hn,hsr,hnm,hfl,hlow,hrl⟩:=kc
      have O2:=A.o2
      have hPO:h1'[P]?=some (some [N op,N n,TY,.sl true nlk z Qj]):=bP
      have gO:∀ x:Box,(h1'.set P x)[h.length+1]?=some (some [N 0,N 0,.sl true true 1 [],.sl true true 1 []]):=fun x=>by rw [List.getElem?_set_ne p2];exact A.box
      have P1':∀ _:Unit,P < h1'.length:=fun _=>P1
      have O2':∀ _:Unit,h.length+1 < h1'.length:=fun _=>O2
      have hTa:TY.alive=true∧share TY=L nT ty:=by subst hTY;exact ⟨rfl,by simp⟩
      obtain ⟨kn',kz',kr',kwe,kw1,kw2⟩:=kw
      simp only [LV.sl.injEq] at kwe
      obtain ⟨-,rfl,rfl,rfl⟩:=kwe
      clear P1 O2
      simp (disch:=omega) [f8,f11,hPO,gO,Zu,Qo,hTa,LV.alive]
      have hOs:h.length+1 < (h1'.set P (some [LV.dead,LV.dead,LV.dead,LV.dead])).length:=by rw [List.length_set];exact O2' ()
      have hlo:Low 0 TY:=by subst hTY;simp
      have hTW:QB TY:=by subst hTY;exact hfT.2
      refine ZnF (O:=h.length+1) (vs:=[N op,N n,TY,.sl true nlk z Qj]) (.inr rfl) ?_ ?_ rfl ?_ ?_
      ·simp [f8]
      ·exact List.getElem?_set_self hOs
      ·have:=O2' ();simp;omega
      ·refine ⟨.agg [N op,N n,TY,.sl true nlk 4 Qj],?_,new,A.hn,?_,?_,⟨.mk op n nT ty nlk ws,_,rfl,?_,?_,?_⟩,?_,?_⟩
       ·rcases hz with rfl | hz
        ·rfl
        ·have:=hn hz
         subst this
         subst hz
         simp [nz,YA]
       ·exact ((A.setP p1 Pn p2 p3 _).ms.set hO1 A.o4 _).set hO1 A.o4 _
       ·exact ((A.fr.set p3 _).set (by omega) _).set (by omega) _
       ·simp [GTerm.cells,hTa,hsr]
       ·simp only [GTerm.nm]
        rw [<- Ze6 ws,hnm,Ze6]
       ·simp only [GTerm.fl]
        exact ⟨hfT.1,hfl⟩
       ·simp [hlo,hlow]
       ·simp only [QB,QS]
        refine ⟨trivial,trivial,hTW,⟨?_,kw1⟩,trivial⟩
        cases hnk:nlk with
        | true=>exact .inl (hn hnk)
        | false=>exact .inr ⟨trivial,rfl,kw2⟩
     ·subst hRf
      have gO:∀ x:Box,(h1'.set P x)[h.length+1]?=some (some [N 0,N 0,.sl true true 1 [],.sl true true 1 []]):=fun x=>by rw [List.getElem?_set_ne p2];exact bO
      have P1':∀ _:Unit,P < h1'.length:=fun _=>P1
      have O1':∀ _:Unit,h.length+1 < h1'.length:=fun _=>O1
      have hTa:TY.alive=true∧share TY=L nT ty:=by subst hTY;exact ⟨rfl,by simp⟩
      clear P1 O1
      simp (disch:=omega) [f8,f11,bP,gO,Zu,Qo,hTa,LV.alive]
      refine Zge (hf.set p1 (some [LV.dead,LV.dead,LV.dead,LV.dead])) (fr.set p3 (some [LV.dead,LV.dead,LV.dead,LV.dead])) (by omega) (by rw [List.length_set];exact O1' ()) hO1 (fun r h' a b c=>⟨r,rfl,a,b,c⟩) ?_ ?_
      ·simp [f8]
      ·exact ⟨_,_,_,_,rfl⟩
theorem Zoc (c:Int) (h:I64 c):Qe Tryz.prog X2 [N c] (·=B (eqB (QH c).1 3)):=by
 refine Qe.of_codeOf Zg3 Qx (by simp) ⟨_,rfl,by simp⟩ ?_
 simp (disch:=omega) [ZbH]
 refine Qa (V3 c h) (by simp) ?_
 simp (disch:=omega)
theorem Zte (f:LV) (p:Int->Bool) (sf:share f=f) (lf:Low 0 f) (nl:Bool) (l:List Int) (hw:l.length<=1000000) (hp:∀ c∈l,FnB Tryz.prog f (N c) (p c)) :
  Qe Tryz.prog Xh [L nl l,f] (fun r=>∃ n:Int,r=N n∧leB 0 n=l.any p):=by
 refine Qe.of_codeOf Zn Qx (by simp) ⟨N (if l.any p=true then 0 else -1),⟨_,rfl,by split<;>simp_all [leB]⟩,by simp⟩ ?_
 simp (disch:=omega) [XW]
 refine Wf l.length 0 (fun i t _=>t 8=N i∧l.any p=(l.drop i).any p) (by simp) (by omega) ?_
 rintro i t1 hh hf hi ⟨e8,hj⟩
 (have e0:=hf 0 (by kernel_rfl);have e1:=hf 1 (by kernel_rfl);have e6:=hf 6 (by kernel_rfl);have e7:=hf 7 (by kernel_rfl);clear hf;simp [sf] at e0 e1 e6 e7)
 simp (disch:=omega) [e0,e1,e6,e7,e8]
 (with_reducible first | refine Qk (fun h6=>?_) (fun h6=>?_) | refine Ql (fun h6=>?_) (fun h6=>?_))
 ·simp only [Qf,Qd,Qi,Qh,Qc,Qb,Bool.not_true,Bool.not_false] at h6
  have hd:=List.drop_eq_getElem_cons (l:=l) (i:=i) (by omega)
  have hpc:=hp (l[i]'(by omega)) (List.getElem_mem _)
  have ix:=Xv l false nl i (by omega) (by omega)
  have eg:l.getD ((i:Int)).toNat 0=l[i]:=by simp [List.getD_eq_getElem?_getD,show i < l.length by omega]
  rw [eg] at ix
  simp (disch:=omega) [e0,e1,e6,e7,e8,ix,sf]
  repeat' (first
  | with_reducible refine Zlm hpc ?_
  | (with_reducible (first | refine Qk (fun hb_=>?_) (fun hb_=>?_) | refine Ql (fun hb_=>?_) (fun hb_=>?_))<;>simp (disch:=omega) [hb_,e0,e1,e6,e7,e8,ix,sf])
  | simp (disch:=omega) [e0,e1,e6,e7,e8,ix,sf])
  ·rw [hj,hd,List.any_cons,hb_,Bool.true_or,Qi];omega
  ·exact ⟨by omega,Qg (by omega),by rw [hj,hd,List.any_cons,hb_,Bool.false_or]⟩
 ·simp only [Qf,Qd,Qi,Qh,Qc,Qb,Bool.not_true,Bool.not_false] at h6
  simp (disch:=omega)
  rw [hj,show i=l.length by omega,List.drop_length];simp [leB]
theorem Zoo (f:LV) (p:Int->Bool) (sf:share f=f) (lf:Low 0 f) (nl:Bool) (l:List Int) (hw:l.length<=1000000) (hp:∀ c∈l,FnB Tryz.prog f (N c) (p c)) :
  Qe Tryz.prog Wv [L nl l,f] (·=B (l.any p)):=by
 refine Qe.of_codeOf YL Qx (by simp) ⟨_,rfl,by simp⟩ ?_
 simp (disch:=omega) [Xw,sf]
 refine ZkE (Zte f p sf lf nl l hw hp) (by simp [lf]) ?_
 rintro r ⟨n,rfl,hn⟩
 simp (disch:=omega) [sf,hn]
def Y4 (l:List Int):Bool:=!(l.any fun c=>QW c)
theorem ZaO {l:List Int}:Y4 l=true ↔ VY l:=by
 simp [Y4,VY]
theorem Zis {s:GSys} (hs:s.sys=true) (sw:s.wf) (nl:Bool) (l:List Int) (ho:okL s.size l=true):Qe Tryz.prog Kt [s.lv,L nl l] (·=B (Y4 l)):=by
 have ts:=GSys.sys_of hs
 have hL:=ZgW (Ye ho)
 have h40:=QK ho
 have ty:=ZeO ts nl l hL
 have e1:(wty l && J5 s.size true l)=true:=ho
 rw [e1] at ty
 have hc:∀ c∈l,FnB Tryz.prog (.fn X2 []) (N c) (QW c):=fun c hc=>by
  have hr:0<=c∧c<=36:=by
   obtain ⟨t,h1,rfl,_,_⟩:=YK.1 ho
   exact RT.codes t h1 c hc
  have e2:eqB (QH c).1 3=QW c:=by
   have:=(KL hr.1 hr.2).2.2.2.1
   rw [Bool.eq_iff_iff,Qc];exact this
  refine ⟨X2,[N c],by simp [ZW],by simp,?_⟩
  rw [<- e2]
  exact Zoc c (by unfold I64;omega)
 have co:=Zoo (.fn X2 []) QW (by simp) (by simp) nl l (by omega) hc
 refine Qe.of_codeOf Zjq Qx (by simp) ⟨_,rfl,by simp⟩ ?_
 simp (disch:=omega) [Zdv,Qt,Qo]
 refine Qa ty (by simp) ?_
 simp (disch:=omega)
 refine Qa co (by simp) ?_
 simp (disch:=omega) [Y4]
theorem Zh4 (nl:Bool) (l:List Int) (hl:l.length<=1000000):Qe Tryz.prog Kk [L nl l] (·=B (Y4 l)):=by
 refine Qe.of_codeOf ZlZ Qx (by simp) ⟨_,rfl,by simp⟩ ?_
 simp (disch:=omega) [ZfQ]
 refine WS l.length 0 (fun i t h=>h=[]∧t 3=N i∧Y4 l=Y4 (l.drop i)) (fun t h=>h=[]∧Y4 l=true) (by simp) (by omega) ?_ ?_
 ·rintro i t1 hh hf hi ⟨rfl,e3,hj⟩
  (have e0:=hf 0 (by kernel_rfl);clear hf;simp [] at e0)
  by_cases h6:i < l.length
  ·have hb:ltB (i:Int) l.length=true:=by rw [Qf];omega
   have ix:=Xv l false nl i (by omega) (by omega)
   have eg:l.getD ((i:Int)).toNat 0=l[i]:=by simp [List.getD_eq_getElem?_getD,h6]
   rw [eg] at ix
   have hd:l.drop i=l[i]::l.drop (i+1):=List.drop_eq_getElem_cons h6
   rw [hd] at hj
   generalize l[i]=c at *
   simp (disch:=omega) [e0,e3,hb,ix]
   refine Qa (Zla c) (by simp) ?_
   cases ha:QW c
   ·simp (disch:=omega) [e3,Qg]
    rw [hj]
    simp [Y4,ha]
    omega
   ·simp (disch:=omega)
    rw [hj]
    simp [Y4,ha]
  ·have hb:ltB (i:Int) l.length=false:=by rw [Qd];omega
   simp (disch:=omega) [e0,e3,hb]
   rw [hj,List.drop_of_length_le (by omega)]
   rfl
 ·rintro t1 hh hf ⟨rfl,hj⟩
  simp (disch:=omega) [hj]
theorem Zsh:∀ x:LV,share x≠.dead->x.alive=true
 | .sc _,_=>rfl
 | .sl ..,_=>rfl
 | .ha ..,_=>rfl
 | .raw _,h=>by simp [share] at h
 | .ptr ..,_=>rfl
 | .rp _,_=>rfl
 | .fn ..,_=>rfl
 | .fnm ..,_=>rfl
 | .agg _,_=>rfl
 | .tup _,_=>rfl
 | .dead,h=>by simp [share] at h
 | .both u t,h=>by
  simp only [share] at h
  have:=Zsh t h
  simp only [LV.alive,this,Bool.true_and]
  cases t<;>simp_all [share]
theorem ZfU:∀ xs:List LV,(∀ y∈shareAll xs,y≠.dead)->WK xs=true
 | [],_=>rfl
 | x::xs,h=>by
  simp only [shareAll,List.mem_cons,forall_eq_or_imp] at h
  simp only [WK,Zsh x h.1,ZfU xs h.2,Bool.and_self]
theorem VN {cs:List LV} {w:GTerm} (h:shareAll cs=w.cells):WK cs=true:=by
 refine ZfU cs fun y hy=>?_
 rw [h] at hy
 obtain ⟨op,n,nl1,ty,nl2,ks⟩:=w
 simp only [GTerm.cells,List.mem_cons,List.not_mem_nil,or_false] at hy
 rcases hy with rfl | rfl | rfl | rfl<;>simp
def valσ (vs:List GTerm):List PC:=vs.map fun v=>⟨0,0,v,[]⟩
def evO (s:GSys) (g:GTerm) (vs:List GTerm):Option (GTerm×List Int):=match Xg s 3001 0 (valσ vs) g (List.range vs.length) 1 with
 | .ok l σ v=>some (v,(σ.take vs.length).map PC.k)
 | _=>none
def isEv (o:Option (GTerm×List Int)) (r:LV):Prop:=match o with
 | none=>∃ u u1 u2,r=.tup [.agg [N 0,N 0,.sl u1 true 1 [],.sl u2 true 1 []],.sl u true 1 [],B false]
 | some (v,bk)=>∃ z u nl,r=.tup [z,OU u nl bk,B true]∧isTF v z
theorem ZjA (o:Option (GTerm×List Int)):∃ r,(isEv o r∧QB r)∧Low 0 r:=by
 cases o with
 | none=>exact ⟨.tup [.agg [N 0,N 0,.sl true true 1 [],.sl true true 1 []],.sl true true 1 [],B false],⟨⟨_,_,_,rfl⟩,by simp [QB,QS,QL]⟩,by simp⟩
 | some p =>
  obtain ⟨v,bk⟩:=p
  refine ⟨.tup [.agg v.ownC,OU true false bk,B true],⟨⟨_,true,false,rfl,v.nm,_,rfl,Za3 v,nm_nm v,nm_fl v⟩,?_⟩,by simp⟩
  have h1:=Zc1 v
  have h2:=Zc (fun n:Int=>Value.int .i64 n) true false bk (.inr ⟨rfl,rfl⟩)
  simp only [QB,QS] at h1 h2 ⊢
  exact ⟨h1,h2,trivial,trivial⟩
def hV (u:Bool):List GTerm->List Box
 | []=>[]
 | v::vs=>some v.cells::some (N 0::N 0::(v.cells++[.sl u true 1 []]))::hV u vs
theorem ZnL (u:Bool) (vs:List GTerm):(hV u vs).length=2 * vs.length:=by
 induction vs with
 | nil=>rfl
 | cons v vs ih=>simp [hV,ih];omega
theorem hV_snoc (u:Bool) (vs:List GTerm) (v:GTerm):hV u (vs++[v])=hV u vs++[some v.cells,some (N 0::N 0::(v.cells++[.sl u true 1 []]))]:=by
 induction vs with
 | nil=>rfl
 | cons w vs ih=>simp [hV,ih]
theorem hV_at (u:Bool):∀ (vs:List GTerm) (j:Nat) (v:GTerm),vs[j]?=some v->(hV u vs)[2 * j+1]?=some (some (N 0::N 0::(v.cells++[.sl u true 1 []])))
 | [],j,v,h=>by simp at h
 | w::vs,0,v,h=>by simp at h;subst h;simp [hV]
 | w::vs,j+1,v,h=>by
  have:=hV_at u vs j v (by simpa using h)
  rw [show 2 * (j+1)+1=(2 * j+1)+1+1 by omega]
  simpa [hV] using this
theorem hV_nz (u u':Bool) (vs:List GTerm):nzH (hV u vs)=nzH (hV u' vs):=by
 induction vs with
 | nil=>rfl
 | cons w vs ih =>
  have e:YA (w.cells++[.sl u true 1 []])=YA (w.cells++[.sl u' true 1 []]):=by
   obtain ⟨op,n,nl1,ty,nl2,ks⟩:=w
   simp [GTerm.cells,YA,nz]
  simp only [nzH] at ih
  simp [nzH,hV,YA,e,ih]
theorem ZsG (a b:List Box):nzH (a++b)=nzH a++nzH b:=by simp [nzH]
def VC (n:Nat):List Nat:=(List.range n).map fun i=>2 * i+5
@[simp] theorem idsV_length (n:Nat):(VC n).length=n:=by simp [VC]
theorem Ztt (n:Nat):VC (n+1)=VC n++[2 * n+5]:=by simp [VC,List.range_succ]
theorem ZoA {n j:Nat} (h:j < n):(VC n).getD j 0=2 * j+5:=by simp [VC,List.getD_eq_getElem?_getD,h]
theorem Zhj {n i:Nat}:i∈VC n ↔ ∃ j,j < n∧2 * j+5=i:=by simp [VC]
theorem idsV_env (n:Nat) (new:List Nat):Y9 (VC n++new) (List.range n)=VC n:=by
 simp only [Y9]
 refine List.map_congr_left fun j hj=>?_
 rw [List.mem_range] at hj
 rw [List.getD_eq_getElem?_getD,List.getElem?_append_left (by simpa using hj),<- List.getD_eq_getElem?_getD,ZoA hj]
theorem valMS {s:GSys} (vs:List GTerm) (z:List LV):MS s 3 vs.length ([none,none,some z,some (s.cells++[.sl true true 1 [],N (0:Nat),B false])]++hV false vs) 0 (valσ vs) (VC vs.length):=by
 refine ⟨⟨true,fun _=>by simp,by simp⟩,by simp [valσ],by simp,fun j c hj=>?_,?_,fun h=>?_,by simp,fun i hi=>?_⟩
 ·simp only [valσ,List.getElem?_map,Option.map_eq_some_iff] at hj
  obtain ⟨v,hv,rfl⟩:=hj
  have hl:j < vs.length:=by
   rcases Nat.lt_or_ge j vs.length with g | g
   ·exact g
   ·rw [List.getElem?_eq_none g] at hv;simp at hv
  refine ⟨true,?_⟩
  rw [ZoA hl,List.getElem?_append_right (by simp)]
  simp only [List.length_cons,List.length_nil]
  rw [show 2 * j+5 - (0+1+1+1+1)=2 * j+1 by omega,hV_at false vs j v hv]
  rfl
 ·simp only [VC]
  exact List.pairwise_map.2 ((List.nodup_range (n:=vs.length)).imp fun h e=>h (by omega))
 ·obtain ⟨j,h1,h2⟩:=Zhj.1 h
  omega
 ·obtain ⟨j,h1,rfl⟩:=Zhj.1 hi
  simp [ZnL];omega
def SlI (x:LV) (l:List Int):Prop:=∃ u nl,x=OU u nl l∧(u=true∨nl=true)∧(l=[]∨(u=true∧nl=false))
def SlP (x:LV) (ids:List Nat):Prop:=∃ u nl,x=PL u nl ids∧(u=true∨nl=true)
theorem Zpa {s:GSys} {g:GTerm} {vs:List GTerm} (hs:s.sys=true) (sw:s.wf) (nlv:Bool) (hn:vs.length<=8) (hns:Xg s 3001 0 (valσ vs) g (List.range vs.length) 1≠.stuck) :
  Qe Tryz.prog VD [s.lv,g.lv,.sl false nlv 4 (Q9 vs)] (fun r=>isEv (evO s g vs) r∧QB r):=by
 refine Qe.of_codeOf Zh7 Qx (by simp) (ZjA _) ?_
 have ts:=GSys.sys_of hs
 have g1:s.G 1:=⟨by omega,by have:=ts.lo;omega⟩
 have hmm:WX=1099511627776:=rfl
 simp (disch:=omega) [Zcf,Qt,Qo,GSys.cells]
 generalize hbase:([none,none,some [N 0,N 0,.sl true true 1 [],.sl true true 1 []],some [N s.size,L s.n1 s.plus,L s.n2 s.times,LB s.n3 s.below,.sl true true 1 [],N 0,B false]]:List Box)=base
 have hbl:base.length=4:=by rw [<- hbase];rfl
 refine WS vs.length 0 (fun i t h'=>t 22=N i∧h'=base++hV true (vs.take i)∧SlP (t 10) (VC i)) (fun t h'=>h'=base++hV true vs∧SlP (t 10) (VC vs.length)) ⟨?_,?_,?_⟩ (Nat.zero_le _) ?_ ?_
 ·simp
 ·simp [hV]
 ·exact ⟨false,true,by simp [VC],.inr rfl⟩
 ·rintro i t1 h1' hf hi ⟨e22,rfl,un,nl,e10,hu⟩
  have f20:=hf 20 (by kernel_rfl);have f21:=hf 21 (by kernel_rfl)
  clear hf
  simp at f20 f21
  by_cases h6:i < vs.length
  ·have hb6:ltB (i:Int) vs.length=true:=by rw [Qf];omega
   have ix:=Wq vs false nlv i h6
   have et:vs.take (i+1)=vs.take i++[vs[i]]:=List.take_succ_eq_append_getElem h6
   have lt:(vs.take i).length=i:=by simp;omega
   have hvl:(base++hV true (vs.take i)).length=4+2 * i:=by rw [List.length_append,ZnL,hbl,lt]
   rw [et,hV_snoc,Ztt,<- List.append_assoc]
   generalize vs[i]=v at *
   generalize base++hV true (vs.take i)=K at *
   have ap:∀ u:Bool,Wy 1 (PL un nl (VC i)) (.sl u false 1 [[.ptr (K.length+1) 0]])=some (PL true false (VC i++[2 * i+5])):=fun u=>by
    simp only [Wy]
    rw [if_pos ⟨by rcases hu with h | h<;>simp [h],.inl trivial,.inl trivial,by simp;omega⟩]
    simp [hvl];omega
   obtain ⟨op,n,nl1,ty,nl2,ks⟩:=v
   simp only [GTerm.cells,List.cons_append,List.nil_append] at ix ⊢
   have hi6:∀ _:Unit,i < vs.length:=fun _=>h6
   clear h6
   simp (disch:=omega) [e22,e10,f20,f21,hb6,ix,QN,XG,Qt,Qn,ap,Qg]
   exact ⟨hi6 (),true,false,rfl,.inl rfl⟩
  ·have hb6:ltB (i:Int) vs.length=false:=by rw [Qd];omega
   simp (disch:=omega) [e22,f21,hb6]
   rw [List.take_of_length_le (by omega)]
   have:i=vs.length:=by omega
   subst this
   exact ⟨rfl,un,nl,e10,hu⟩
 ·rintro t1 h1' hf ⟨rfl,un,nl,e10,hu⟩
  have f6:=hf 6 (by kernel_rfl);have f9:=hf 9 (by kernel_rfl);have f4:=hf 4 (by kernel_rfl)
  clear hf
  simp at f6 f9 f4
  have m0:=valMS (s:=s) vs [N 0,N 0,.sl true true 1 [],.sl true true 1 []]
  simp only [GSys.cells,List.cons_append,List.nil_append] at m0
  have hbase2:(none::none::some [N 0,N 0,LV.sl true true 1 [],LV.sl true true 1 []]::some [N s.size,L s.n1 s.plus,L s.n2 s.times,LB s.n3 s.below,LV.sl true true 1 [],N (0:Nat),B false]::hV false vs:List Box)=base++hV false vs:=by rw [<- hbase];rfl
  rw [hbase2] at m0
  have bd:BD s 0 (valσ vs):=⟨fun c hc=>by
   obtain ⟨v,_,rfl⟩:=List.mem_map.1 hc
   simp,fun c hc=>by
   obtain ⟨v,_,rfl⟩:=List.mem_map.1 hc
   exact GSys.G0 ts⟩
  have be:BE 0 (valσ vs) (List.range vs.length):=⟨by simp;omega,fun j hj=>by simpa [valσ] using hj⟩
  have T:=tell_ok hs sw 3001 0 (valσ vs) g (List.range vs.length) 1 nl (base++hV false vs) (VC vs.length) 3 vs.length (by omega) (by omega) m0 bd be (by simp [valσ];omega) g1 hns
  have ev:=idsV_env vs.length []
  rw [List.append_nil] at ev
  rw [ev] at T
  have T':=T.nzH (h:=base++hV true vs) (by rw [ZsG,ZsG,hV_nz true false])
  have n2:2 ∉ VC vs.length:=fun h=>by obtain ⟨j,_,h2⟩:=Zhj.1 h;omega
  have b2:base[2]?=some (some [N 0,N 0,.sl true true 1 [],.sl true true 1 []]):=by rw [<- hbase];rfl
  unfold Yu
  simp (disch:=omega) [e10,f6,f9,f4]
  refine Qm T' ?_
  rintro r H1 hr
  unfold evO
  cases ht:Xg s 3001 0 (valσ vs) g (List.range vs.length) 1 with
  | stuck=>exact absurd ht hns
  | fail =>
   rw [ht] at hr
   obtain ⟨hf,fr,p,q,y,z,rfl⟩:=hr
   obtain ⟨m1,m2,m3,m4,m5,m6,hbF⟩:=hf
   have l4:4<=H1.length:=by have:=fr.len;simp at this;omega
   have g3:∀ k:List Box,(H1++k)[3]?=some (some [m1,m2,m3,m4,m5,N m6,B true]):=fun k=>by rw [Q7 (by omega)];exact hbF
   have g2:∀ k:List Box,(H1++k)[2]?=some (some [N 0,N 0,.sl true true 1 [],.sl true true 1 []]):=fun k=>by rw [Q7 (by omega),fr.same 2 (by simp;omega) (by omega) n2,List.getElem?_append_left (by omega)];exact b2
   have g2s:∀ (k:List Box) (x:Box),((H1++k).set 2 x)[2]?=some x:=fun k x=>List.getElem?_set_self (by simp;omega)
   clear l4
   simp (disch:=omega) [f6,f9,QN,g3,g2,g2s,Qo]
   exact ⟨⟨_,_,_,rfl⟩,by simp [QB,QS,QL]⟩
  | ok l σ v =>
   rw [ht] at hr
   obtain ⟨new,h1,ms,fr,tv,lo2,hw2⟩:=hr
   obtain ⟨w,cs,rfl,csh,cn,cf⟩:=tv
   have c4:cs.length=4:=by rw [<- We,csh];simp
   have cal:=VN csh
   obtain ⟨nm,hnm,hb⟩:=ms.box
   simp only [GSys.cells,List.cons_append,List.nil_append] at hb
   have l4:4<=H1.length:=by have:=fr.len;simp at this;omega
   have g2:∀ k:List Box,(H1++k)[2]?=some (some [N 0,N 0,.sl true true 1 [],.sl true true 1 []]):=fun k=>by rw [Q7 (by omega),fr.same 2 (by simp;omega) (by omega) n2,List.getElem?_append_left (by omega)];exact b2
   have g2s:∀ (k:List Box) (x:Box),((H1++k).set 2 x)[2]?=some x:=fun k x=>List.getElem?_set_self (by simp;omega)
   have g2t:∀ (x:Box) (k:List Box),(H1.set 2 x++k)[2]?=some x:=fun x k=>by rw [List.getElem?_append_left (by rw [List.length_set];omega)];exact List.getElem?_set_self (by omega)
   have gM:∀ k:List Box,(H1++k)[3]?=some (some [N s.size,L s.n1 s.plus,L s.n2 s.times,LB s.n3 s.below,PL true nm ((VC vs.length++new).drop vs.length),N l,B false]):=fun k=>by rw [Q7 (by omega)];exact hb
   generalize (VC vs.length++new).drop vs.length=dr at gM
   have tl:=(ZcO ts _ _ _ _ _ _ _ _ _ ht bd be).1
   have hσ:vs.length<=σ.length:=by have:=tl.len;simpa [valσ] using this
   clear hb
   simp (disch:=omega) [e10,f6,f9,QN,gM,g2,g2s,Qo,c4,cal,csh,List.take_of_length_le,List.drop_of_length_le]
   refine WS vs.length 0 (fun i t h'=>h'=H1++[some cs]∧t 44=N i∧SlI (t 14) ((σ.take i).map PC.k)) (fun t h'=>h'=H1++[some cs]∧SlI (t 14) ((σ.take vs.length).map PC.k)) ⟨?_,?_,?_⟩ (Nat.zero_le _) ?_ ?_
   ·simp
   ·simp
   ·exact ⟨false,true,by simp,.inr rfl,.inl rfl⟩
   ·rintro i t2 h2' hf2 hi ⟨rfl,e44,e14⟩
    have f42:=hf2 42 (by kernel_rfl);have f43:=hf2 43 (by kernel_rfl)
    clear hf2
    simp at f42 f43
    by_cases h6:i < vs.length
    ·obtain ⟨u4,n4,e14,hu4,_⟩:=e14
     have hb6:ltB (i:Int) vs.length=true:=by rw [Qf];omega
     have ix:∀ u,QP 1 (PL u nl (VC vs.length)) (i:Int)=some (.rp [.ptr (2 * i+5) 0]):=fun u=>by
      rw [Zen (fun p:Nat=>LV.ptr p 0) (by simp) (VC vs.length) u nl i (by omega) (by simp;omega)]
      simp [VC,h6]
     have hci:=List.getElem?_eq_getElem (show i < σ.length by omega)
     obtain ⟨nlc,hcell⟩:=ms.cell i _ hci
     have hid:(VC vs.length++new).getD i 0=2 * i+5:=by
      rw [List.getD_eq_getElem?_getD,List.getElem?_append_left (by simpa using h6),<- List.getD_eq_getElem?_getD,ZoA h6]
     rw [hid] at hcell
     have hin:2 * i+5 < H1.length:=by
      have:=ms.lt (2 * i+5) (by rw [List.mem_append];exact .inl (Zhj.2 ⟨i,h6,rfl⟩))
      exact this
     have gc:∀ k:List Box,(H1++k)[2 * i+5]?=some (some (V6 (VC vs.length++new) σ[i] nlc)):=fun k=>by rw [Q7 hin];exact hcell
     have et:σ.take (i+1)=σ.take i++[σ[i]]:=List.take_succ_eq_append_getElem (by omega)
     have lt:(σ.take i).length=i:=by simp;omega
     rw [et,List.map_append]
     clear hin hcell hci
     generalize σ[i]=c at *
     obtain ⟨cb,ck,⟨cop,ccn,cnl1,cty,cnl2,cks⟩,ce⟩:=c
     simp only [V6,GTerm.cells,List.cons_append,List.nil_append] at gc
     have ap:∀ u:Bool,Wy 1 (OU u4 n4 ((σ.take i).map PC.k)) (.sl u false 1 [[N ck]])=some (OU true false ((σ.take i).map PC.k++[ck])):=fun u=>by
      simp only [Wy]
      rw [if_pos ⟨by rcases hu4 with h | h<;>simp [h],.inl trivial,.inl trivial,by simp;omega⟩]
      simp
     generalize (σ.take i).map PC.k=ki at *
     have hi6:∀ _:Unit,i < vs.length:=fun _=>h6
     clear h6
     simp (disch:=omega) [e44,e14,f42,f43,hb6,ix,gc,Qn,ap,Qg]
     exact ⟨hi6 (),true,false,rfl,.inl rfl,.inr ⟨rfl,rfl⟩⟩
    ·have hb6:ltB (i:Int) vs.length=false:=by rw [Qd];omega
     simp (disch:=omega) [e44,f43,hb6]
     have:i=vs.length:=by omega
     subst this
     simpa using e14
   ·rintro t2 h2' hf2 ⟨rfl,u4,n4,e14,hu4,hu5⟩
    have f6':=hf2 6 (by kernel_rfl);have f13':=hf2 13 (by kernel_rfl)
    clear hf2
    simp [f6] at f6' f13'
    have cf':cs.take 4=cs:=List.take_of_length_le (by omega)
    generalize hbk:(σ.take vs.length).map PC.k=bk at *
    simp (disch:=omega) [f6',f13',e14,g2,gM,g2s,g2t,QN,Qo,c4,cal,cf',csh]
    rw [<- List.map_take,hbk]
    refine ⟨by simpa using lo2,⟨_,u4,n4,rfl,w,cs,rfl,csh,cn,cf⟩,?_⟩
    have h2:=Zc (fun n:Int=>Value.int .i64 n) u4 n4 bk hu5
    simp only [QB,QS] at h2 hw2 ⊢
    exact ⟨hw2,h2,trivial,trivial⟩
def Z4 (e:List Nat):List Int:=e.map fun (j:Nat)=>(j:Int)
@[simp] theorem envN_length (e:List Nat):(Z4 e).length=e.length:=by simp [Z4]
def ZbV (c:PC) (nl:Bool):List LV:=N c.b::N c.k::(c.t.cells++[L nl (Z4 c.e)])
theorem Zim (c:PC) (nl:Bool):(ZbV c nl).length=7:=by simp [ZbV]
def Zem:List PC->List LV->Prop
 | [],xs=>xs=[]
 | c::σ,xs=>∃ nl ys,xs=ZbV c nl++ys∧Zem σ ys
theorem Zem.len:∀ {σ:List PC} {xs:List LV},Zem σ xs->xs.length=σ.length * 7
 | [],xs,h=>by subst h;rfl
 | c::σ,xs,h=>by
  obtain ⟨nl,ys,rfl,h2⟩:=h
  rw [List.length_append,Zim,h2.len,List.length_cons];omega
theorem Zem.snoc:∀ {σ:List PC} {xs:List LV} {c:PC} {nl:Bool},Zem σ xs->Zem (σ++[c]) (xs++ZbV c nl)
 | [],xs,c,nl,h=>by subst h;exact ⟨nl,[],by simp,rfl⟩
 | c'::σ,xs,c,nl,h=>by
  obtain ⟨nl',ys,rfl,h2⟩:=h
  exact ⟨nl',ys++ZbV c nl,by simp,h2.snoc⟩
theorem Zem.at:∀ {σ:List PC} {xs:List LV} {j:Nat} {c:PC},Zem σ xs->σ[j]?=some c->∃ nl a b,xs=a++(ZbV c nl++b)∧a.length=j * 7∧∀ (k:Int),Zem (σ.set j { c with k:=k }) (a++(ZbV { c with k:=k } nl++b))
 | [],xs,j,c,h,hj=>by simp at hj
 | c'::σ,xs,0,c,h,hj=>by
  simp at hj;subst hj
  obtain ⟨nl,ys,rfl,h2⟩:=h
  exact ⟨nl,[],ys,by simp,by simp,fun k=>⟨nl,ys,by simp,h2⟩⟩
 | c'::σ,xs,j+1,c,h,hj=>by
  obtain ⟨nl',ys,rfl,h2⟩:=h
  obtain ⟨nl,a,b,rfl,h3,h4⟩:=h2.at (j:=j) (c:=c) (by simpa using hj)
  exact ⟨nl,ZbV c' nl'++a,b,by simp,by rw [List.length_append,Zim,h3];omega,fun k=>⟨nl',a++(ZbV { c with k:=k } nl++b),by simp,by simpa using h4 k⟩⟩
structure RS (s:GSys) (M:Nat) (hbs:List Nat) (h:List Box) (l:Nat) (σ:List PC):Prop where
 lM:M < h.length
 main:(∃ z:Nat,σ=[]∧hbs=[]∧h[M]?=some (some (s.cells++[.sl true true z [],N l]))) ∨
  (∃ b cap sl xs,hbs=[b]∧b≠M∧b < h.length∧σ≠[]∧h[M]?=some (some (s.cells++[.ha b 7 0 σ.length cap,N l]))∧h[b]?=some (some (xs++List.replicate sl .dead))∧Zem σ xs∧σ.length * 7+sl=cap * 7)
section
variable {s:GSys} {M:Nat} {hbs:List Nat} {h h':List Box} {l:Nat} {σ:List PC}
theorem RS.nM (m:RS s M hbs h l σ):M ∉ hbs:=by
 rcases m.main with ⟨_,_,rfl,_⟩ | ⟨b,cap,sl,xs,rfl,h1,_⟩
 ·simp
 ·simpa using h1.symm
theorem RS.lt (m:RS s M hbs h l σ):∀ i∈hbs,i < h.length:=by
 rcases m.main with ⟨_,_,rfl,_⟩ | ⟨b,cap,sl,xs,rfl,h1,h2,_⟩
 ·simp
 ·intro i hi;simp at hi;subst hi;exact h2
theorem RS.other (m:RS s M hbs h l σ) (hl:h.length<=h'.length) (hs:∀ i,i=M∨i∈hbs->h'[i]?=h[i]?):RS s M hbs h' l σ:=by
 refine ⟨by have:=m.lM;omega,?_⟩
 rcases m.main with ⟨z,h1,h2,h3⟩ | ⟨b,cap,sl,xs,h1,h2,h3,h4,h5,h6,h7,h8⟩
 ·exact .inl ⟨z,h1,h2,by rw [hs M (.inl rfl)];exact h3⟩
 ·exact .inr ⟨b,cap,sl,xs,h1,h2,by omega,h4,by rw [hs M (.inl rfl)];exact h5,by rw [hs b (.inr (by simp [h1]))];exact h6,h7,h8⟩
theorem RS.app (m:RS s M hbs h l σ) (k:List Box):RS s M hbs (h++k) l σ :=
 m.other (by simp) fun i hi=>List.getElem?_append_left (by rcases hi with rfl | hi;exact m.lM;exact m.lt i hi)
theorem RS.set (m:RS s M hbs h l σ) {O:Nat} (h1:O≠M) (h2:O ∉ hbs) (x:Box):RS s M hbs (h.set O x) l σ :=
 m.other (by simp) fun i hi=>List.getElem?_set_ne (by rcases hi with rfl | hi;exact h1;rintro rfl;exact h2 hi)
theorem RS.ex (m:RS s M hbs h l σ) (l':Nat) (σ':List PC) (hl:σ.length<=σ'.length):∃ hbs' h',RS s M hbs' h' l' σ'∧Fr M hbs h h'∧∀ i∈hbs',i∈hbs∨h.length<=i:=by
 have hr:∀ τ:List PC,∃ xs,Zem τ xs:=fun τ=>by
  induction τ with
  | nil=>exact ⟨[],rfl⟩
  | cons c τ ih=>obtain ⟨xs,hx⟩:=ih;exact ⟨_,false,xs,rfl,hx⟩
 obtain ⟨xs,hx⟩:=hr σ'
 have lM:=m.lM
 by_cases h0:σ'=[]
 ·subst h0
  refine ⟨[],h.set M (some (s.cells++[.sl true true 7 [],N l'])),⟨by rw [List.length_set];exact lM,.inl ⟨7,rfl,rfl,by rw [List.getElem?_set_self lM]⟩⟩,(Fr.refl M hbs h).setM _,by simp⟩
 ·refine ⟨[h.length],(h++[some xs]).set M (some (s.cells++[.ha h.length 7 0 σ'.length σ'.length,N l'])),⟨by simp;omega,.inr ⟨h.length,σ'.length,0,xs,rfl,by omega,by simp,h0,?_,?_,hx,by omega⟩⟩,(Fr.app M hbs h _).setM _,by simp⟩
  ·rw [List.getElem?_set_self (by simp;omega)]
  ·rw [List.getElem?_set_ne (by omega)];simp
end
theorem Vu (nl:Bool) (c:Nat) (e:List Nat) (he:e.length<=1000000):Qe Tryz.prog Yt [N c,L nl (Z4 e)] (·=OU true false (Z4 (c::e))):=by
 refine Qe.of_codeOf ZkM Qx (by simp) ⟨_,rfl,by simp⟩ ?_
 have hm:1+e.length<=WX:=by have:WX=1099511627776:=rfl;omega
 simp (disch:=omega) [ZeG,Qn,Wy,hm]
 simp [Z4]
theorem Zo6 (a b c d e:Nat):(LV.ha a b c d e).flat=true∧(LV.ha a b c d e).cells=[LV.ha a b c d e]∧(LV.ha a b c d e).alive=true∧share (LV.ha a b c d e)=LV.ha a b c d e:=⟨rfl,rfl,rfl,by simp [share]⟩
theorem get_more {h k:List Box} {M:Nat} {x:Box}:(h.set M x++k)[h.length+1]?=k[1]?:=by rw [List.getElem?_append_right (by simp)];simp
def NewR (s:GSys) (M:Nat) (hbs:List Nat) (h:List Box) (l:Nat) (σ:List PC) (c:PC) (r:LV) (h':List Box):Prop :=
 r=N σ.length∧∃ hbs',RS s M hbs' h' l (σ++[c])∧Fr M hbs h h'∧∀ i∈hbs',i∈hbs∨h.length<=i
theorem Zbn {s:GSys} {M:Nat} {hbs:List Nat} {h:List Box} {l:Nat} {σ:List PC} (m:RS s M hbs h l σ) (b:Int) (t:GTerm) (e:List Nat) (nl:Bool) (hm:σ.length<=100000) :
  QE Tryz.prog YN [.ptr M 0,N b,t.lv,L nl (Z4 e)] h (NewR s M hbs h l σ ⟨b,0,t,e⟩):=by
 have hex:∃ (r:LV) (h':List Box),NewR s M hbs h l σ ⟨b,0,t,e⟩ r h':=by
  obtain ⟨hbs',h',h1,h2,h3⟩:=m.ex l (σ++[⟨b,0,t,e⟩]) (by simp)
  exact ⟨_,h',rfl,hbs',h1,h2,h3⟩
 refine QE.of_codeOf ZoI Qx (by simp) hex ?_
 have lM:=m.lM
 have hmm:WX=1099511627776:=rfl
 obtain ⟨op,n,nl1,ty,nl2,ks⟩:=t
 rcases m.main with ⟨z,rfl,rfl,hb⟩ | ⟨hB,cap,sl,xs,rfl,h1,h2,h3,hb,hx,hR,hc⟩
 ·simp only [GSys.cells,List.cons_append,List.nil_append] at hb
  have ga:∀ k:List Box,(h++k)[M]?=h[M]?:=fun k=>Q7 lM
  have gs:∀ (k:List Box) (x:Box),(h++k).set M x=h.set M x++k:=fun k x=>List.set_append_left _ _ lM
  have gt:∀ (k:List Box) (x:Box),(h.set M x++k)[M]?=some x:=fun k x=>by rw [List.getElem?_append_left (by rw [List.length_set];exact lM),List.getElem?_set_self lM]
  have gu:∀ (k:List Box) (x y:Box),(h.set M x++k).set M y=h.set M y++k:=fun k x y=>by rw [List.set_append_left _ _ (by rw [List.length_set];exact lM),List.set_set]
  have lM':∀ _:Unit,M < h.length:=fun _=>lM
  clear lM
  simp (disch:=omega) [ZcX,ga,gs,gt,gu,QN,XG,hb,Qt,Qo,Zu,Qn,GTerm.cells]
  refine ZrY (by simp) (by simp [hmm]) ?_
  intro cap slack q1 q2
  simp (disch:=omega) [ga,gs,gt,gu,Qg,Zo6]
  refine QM (R:=NewR s M [] h l [] ⟨b,0,.mk op n nl1 ty nl2 ks,e⟩) ?_ ?_ ⟨?_,[h.length+1],?_,?_,?_⟩
  ·simp
  ·simp
  ·simp
  ·refine ⟨by have:=lM' ();simp;omega,.inr ⟨h.length+1,cap,slack,ZbV ⟨b,0,.mk op n nl1 ty nl2 ks,e⟩ nl,rfl,by have:=lM' ();omega,by simp,by simp,?_,?_,⟨nl,[],by simp,rfl⟩,by simpa using q2⟩⟩
   ·simp only [gt]
    simp
   ·simp only [get_more]
    simp [ZbV,GTerm.cells]
  ·simp only [<- gs]
   exact (Fr.app M [] h _).setM _
  ·simp
 ·simp only [GSys.cells,List.cons_append,List.nil_append] at hb
  have ga:∀ k:List Box,(h++k)[M]?=h[M]?:=fun k=>Q7 lM
  have gs:∀ (k:List Box) (x:Box),(h++k).set M x=h.set M x++k:=fun k x=>List.set_append_left _ _ lM
  have gt:∀ (k:List Box) (x:Box),(h.set M x++k)[M]?=some x:=fun k x=>by rw [List.getElem?_append_left (by rw [List.length_set];exact lM),List.getElem?_set_self lM]
  have gu:∀ (k:List Box) (x y:Box),(h.set M x++k).set M y=h.set M y++k:=fun k x y=>by rw [List.set_append_left _ _ (by rw [List.length_set];exact lM),List.set_set]
  have lM':∀ _:Unit,M < h.length:=fun _=>lM
  clear lM
  simp (disch:=omega) [ZcX,ga,gs,gt,gu,QN,XG,hb,Qt,Qo,Zu,Qn,GTerm.cells]
  have hBs:∀ _:Unit,hB < h.length:=fun _=>h2
  have gx:∀ (k:List Box) (x:Box),(h.set M x++k)[hB]?=some (some (xs++List.replicate sl .dead)):=fun k x=>by rw [List.getElem?_append_left (by rw [List.length_set];exact h2),List.getElem?_set_ne (fun e=>h1 e.symm)];exact hx
  have gy:∀ (k:List Box) (x y:Box),(h.set M x++k).set hB y=(h.set M x).set hB y++k:=fun k x y=>List.set_append_left _ _ (by rw [List.length_set];exact h2)
  have gz:∀ (k:List Box) (x y:Box),((h.set M x).set hB y++k)[M]?=some x:=fun k x y=>by rw [List.getElem?_append_left (by rw [List.length_set,List.length_set];exact lM' ()),List.getElem?_set_ne h1,List.getElem?_set_self (lM' ())]
  have gv:∀ (k:List Box) (x y z:Box),((h.set M x).set hB y++k).set M z=(h.set M z).set hB y++k:=fun k x y z=>by rw [List.set_append_left _ _ (by rw [List.length_set,List.length_set];exact lM' ()),List.set_comm _ _ h1,List.set_set]
  have gq:∀ (k:List Box) (x y:Box),((h.set M x).set hB y++k)[hB]?=some y:=fun k x y=>by rw [List.getElem?_append_left (by rw [List.length_set,List.length_set];exact h2),List.getElem?_set_self (by rw [List.length_set];exact h2)]
  have xl:=hR.len
  clear h2
  refine Zr5 (by simp) (gx _ _) (by simp;omega) (by omega) (by simp [hmm];omega) ?_ ?_
  ·intro hin
   simp (disch:=omega) [ga,gs,gt,gu,gx,gy,gz,gv,Qg,Zo6]
   have hin':σ.length+1<=cap:=by simpa using hin
   have ed:List.drop (σ.length * 7+7) (xs++List.replicate sl LV.dead)=List.replicate (sl - 7) .dead:=by
    rw [List.drop_append,List.drop_of_length_le (by omega),xl,show σ.length * 7+7 - σ.length * 7=7 by omega]
    simp
   rw [ed]
   refine QM (R:=NewR s M [hB] h l σ ⟨b,0,.mk op n nl1 ty nl2 ks,e⟩) ?_ ?_ ⟨?_,[hB],?_,?_,?_⟩
   ·simp
   ·simp
   ·simp
   ·refine ⟨by have:=lM' ();simp;omega,.inr ⟨hB,cap,sl - 7,xs++ZbV ⟨b,0,.mk op n nl1 ty nl2 ks,e⟩ nl,rfl,h1,by have:=hBs ();simp;omega,by simp,?_,?_,hR.snoc,by simp;omega⟩⟩
    ·simp only [gz]
     simp
    ·simp only [gq]
     simp [ZbV,GTerm.cells]
   ·exact (((Fr.refl M [hB] h).setM _).setI (by simp) _).appR _
   ·simp
  ·intro hout cap' slack q1 q2
   simp (disch:=omega) [ga,gs,gt,gu,gx,gy,gz,gv,Qg,Zo6]
   refine QM (R:=NewR s M [hB] h l σ ⟨b,0,.mk op n nl1 ty nl2 ks,e⟩) ?_ ?_ ⟨?_,[h.length+1],?_,?_,?_⟩
   ·simp
   ·simp
   ·simp
   ·refine ⟨by have:=lM' ();simp;omega,.inr ⟨h.length+1,cap',slack,xs++ZbV ⟨b,0,.mk op n nl1 ty nl2 ks,e⟩ nl,rfl,by have:=lM' ();omega,by simp,by simp,?_,?_,hR.snoc,by simpa using q2⟩⟩
    ·simp only [gz]
     simp
    ·rw [List.getElem?_append_right (by simp)]
     simp [ZbV,GTerm.cells]
   ·exact (((Fr.refl M [hB] h).setM _).setI (by simp) _).appR _
   ·simp
def KJ (s:GSys) (M:Nat) (h:List Box) (hbs:List Nat) (res:LR) (r:LV) (h':List Box):Prop:=match res with
 | .stuck=>True
 | .fail=>Fr M hbs h h'∧∃ a b x y e,r=.tup [.agg [N a,N b,x,y],e,B false]
 | .ok l σ v e=>∃ hbs' u nl vs,(∀ i∈hbs',i∈hbs∨h.length<=i)∧RS s M hbs' h' l σ∧Fr M hbs h h'∧KE v vs∧r=.tup [.agg vs,OU u nl (Z4 e),B true]
theorem Zgj {O m:Nat} {vs:List LV} {R:LV->List Box->Prop} {e:Exit} {s:St} {b:Bool} (he:e=.normal∨e=.ret) (h8:s.t 8=.ptr O 0) (h10:s.t 10=B b) (hb:s.h[O]?=some (some vs)) (h4:vs.length=4) (hm:m<=s.h.length) (hR:R (.tup [.agg vs,s.t 9,B b]) (s.h.set O (some (shareAll vs)))) :
  KZ [.cell 8 true 4,.tmp 9,.tmp 10] m R e s:=by
 refine ⟨he,[.agg vs,s.t 9,B b],⟨upd (upd s.t 9 (share (s.t 9))) 10 (B b),s.h.set O (some (shareAll vs))⟩,(s.h.set O (some (shareAll vs))).length,?_,by rw [List.length_set];exact hm,Nat.le_refl _,.inl rfl,?_⟩
 ·simp [Ys,Zg9,h8,hb,h4,Wp,h10]
 ·rw [List.take_of_length_le (Nat.le_refl _)];exact hR
section
variable {s:GSys} {M:Nat} {h H H1:List Box} {l l1:Nat} {σ σ1:List PC} {h0 hbs:List Nat} {O:Nat} {r:LV} {v:GTerm} {e:List Nat} {res:LR}
theorem Fr.transH {h1 h2:List Box} (a:Fr M h0 h h1) (b:Fr M hbs h1 h2) (hn:∀ i∈hbs,i∈h0∨h.length<=i):Fr M h0 h h2 :=
 ⟨Nat.le_trans a.len b.len,fun i hi h3 h4=>by
  rw [b.same i (Nat.lt_of_lt_of_le hi a.len) h3 (fun h5=>?_),a.same i hi h3 h4]
  rcases hn i h5 with h5 | h5
  ·exact h4 h5
  ·omega⟩
theorem RS.tick (m:RS s M hbs h l σ) (l':Nat):∃ cs,h[M]?=some (some (s.cells++[cs,N l]))∧cs.flat=true∧cs.alive=true∧share cs=share cs∧RS s M hbs (h.set M (some (s.cells++[cs,N l']))) l' σ:=by
 have lM:=m.lM
 rcases m.main with ⟨z,rfl,rfl,h3⟩ | ⟨b,cap,sl,xs,rfl,h2,h3,h4,h5,h6,h7,h8⟩
 ·exact ⟨_,h3,rfl,rfl,rfl,by rw [List.length_set];exact lM,.inl ⟨z,rfl,rfl,by rw [List.getElem?_set_self lM]⟩⟩
 ·exact ⟨_,h5,rfl,rfl,rfl,by rw [List.length_set];exact lM,.inr ⟨b,cap,sl,xs,rfl,h2,by rw [List.length_set];exact h3,h4,by rw [List.getElem?_set_self lM],by rw [List.getElem?_set_ne (fun e=>h2 e.symm)];exact h6,h7,h8⟩⟩
theorem RS.cellAt (m:RS s M hbs h l σ) {j:Nat} {c:PC} (hj:σ[j]?=some c):∃ b cap nl a z,hbs=[b]∧b≠M∧b < h.length∧h[M]?=some (some (s.cells++[.ha b 7 0 σ.length cap,N l]))∧h[b]?=some (some (a++(ZbV c nl++z)))∧a.length=j * 7 ∧
  ∀ k:Int,RS s M hbs (h.set b (some (a++(ZbV { c with k:=k } nl++z)))) l (σ.set j { c with k:=k }):=by
 have lM:=m.lM
 rcases m.main with ⟨z,rfl,rfl,h3⟩ | ⟨b,cap,sl,xs,rfl,h2,h3,h4,h5,h6,h7,h8⟩
 ·simp at hj
 ·obtain ⟨nl,a,z,rfl,ha,hk⟩:=h7.at hj
  refine ⟨b,cap,nl,a,z++List.replicate sl .dead,rfl,h2,h3,h5,by rw [h6];simp,ha,fun k=>⟨by rw [List.length_set];exact lM,.inr ⟨b,cap,sl,_,rfl,h2,by rw [List.length_set];exact h3,?_,?_,?_,hk k,by rw [List.length_set];exact h8⟩⟩⟩
  ·intro e
   have:=congrArg List.length e
   rw [List.length_set] at this
   exact h4 (List.length_eq_zero_iff.1 this)
  ·rw [List.getElem?_set_ne h2,List.length_set];exact h5
  ·rw [List.getElem?_set_self h3];simp
structure RkN (s:GSys) (M:Nat) (h H:List Box) (l:Nat) (σ:List PC) (h0 hbs:List Nat) (O:Nat):Prop where
 ms:RS s M hbs H l σ
 fr:Fr M h0 h H
 hn:∀ i∈hbs,i∈h0∨h.length<=i
 o1:h.length<=O
 o2:O < H.length
 o3:O≠M
 o4:O ∉ hbs
 box:H[O]?=some (some [N 0,N 0,.sl true true 1 [],.sl true true 1 []])
theorem RkN.step (A:RkN s M h H l σ h0 hbs O) {hbs':List Nat} (h1:∀ i∈hbs',i∈hbs∨H.length<=i) (ms:RS s M hbs' H1 l1 σ1) (f:Fr M hbs H H1):RkN s M h H1 l1 σ1 h0 hbs' O:=by
 have l0:=A.fr.len
 have o2:=A.o2
 have o4:=A.o4
 refine ⟨ms,A.fr.transH f A.hn,fun i hi=>?_,A.o1,by have:=f.len;omega,A.o3,fun hi=>?_,by rw [f.same O A.o2 A.o3 A.o4];exact A.box⟩
 ·rcases h1 i hi with hi | hi
  ·exact A.hn i hi
  ·exact .inr (by omega)
 ·rcases h1 O hi with hi | hi
  ·exact o4 hi
  ·omega
theorem RkN.next (A:RkN s M h H l σ h0 hbs O) (hr:KJ s M H hbs (.ok l1 σ1 v e) r H1):∃ hbs' u nl vs,KE v vs∧r=.tup [.agg vs,OU u nl (Z4 e),B true]∧RkN s M h H1 l1 σ1 h0 hbs' O:=by
 obtain ⟨hbs',u,nl,vs,h1,h2,h3,h4,rfl⟩:=hr
 exact ⟨hbs',u,nl,vs,h4,rfl,A.step h1 h2 h3⟩
theorem RkN.app (A:RkN s M h H l σ h0 hbs O) (k:List Box):RkN s M h (H++k) l σ h0 hbs O :=
 ⟨A.ms.app k,A.fr.appR k,A.hn,A.o1,by have:=A.o2;simp;omega,A.o3,A.o4,by rw [Q7 A.o2];exact A.box⟩
theorem RkN.fails (A:RkN s M h H l σ h0 hbs O) (hr:KJ s M H hbs .fail r H1):Fr M h0 h H1∧O < H1.length∧H1[O]?=some (some [N 0,N 0,.sl true true 1 [],.sl true true 1 []])∧∃ a b x y e,r=.tup [.agg [N a,N b,x,y],e,B false]:=by
 obtain ⟨h2,h3⟩:=hr
 exact ⟨A.fr.transH h2 A.hn,by have:=h2.len;have:=A.o2;omega,by rw [h2.same O A.o2 A.o3 A.o4];exact A.box,h3⟩
theorem Zbd {st:St} (f:Fr M h0 h H) (o1:h.length<=O) (o2:O < H.length) (h8:st.t 8=.ptr O 0) (h10:st.t 10=B false) (hh:∃ a b x y,st.h=H.set O (some [N a,N b,x,y])):KZ [.cell 8 true 4,.tmp 9,.tmp 10] h.length (KJ s M h h0 .fail) .ret st:=by
 obtain ⟨a,b,x,y,hh⟩:=hh
 have l0:=f.len
 refine Zgj (.inr rfl) h8 h10 (by rw [hh,List.getElem?_set_self (by omega)]) rfl (by rw [hh,List.length_set];omega) ?_
 rw [hh,List.set_set]
 exact ⟨f.set o1 _,⟨a,b,x,y,_,rfl⟩⟩
theorem RkN.tail (A:RkN s M h H l σ h0 hbs O) (hs:res≠.stuck) (hr:KJ s M H hbs res r H1):∃ vs e b,r=.tup [.agg vs,e,B b]∧vs.length=4∧H1[O]?=some (some [N 0,N 0,.sl true true 1 [],.sl true true 1 []]) ∧
  ∀ st:St,st.t 8=.ptr O 0->st.t 9=e->st.t 10=B b->st.h=H1.set O (some vs)->KZ [.cell 8 true 4,.tmp 9,.tmp 10] h.length (KJ s M h h0 res) .ret st:=by
 cases res with
 | stuck=>exact absurd rfl hs
 | fail =>
  obtain ⟨fr1,o2,hO,a,b,x,y,e,rfl⟩:=A.fails hr
  exact ⟨_,e,false,rfl,rfl,hO,fun st q1 q2 q3 q4=>Zbd fr1 A.o1 o2 q1 q3 ⟨_,_,_,_,q4⟩⟩
 | ok l σ v e =>
  obtain ⟨hbs',u,nl,vs,hv,rfl,A1⟩:=A.next hr
  refine ⟨vs,_,true,rfl,hv.len,A1.box,fun st h8 h9 h10 hh=>?_⟩
  have l1:=A1.fr.len
  refine Zgj (.inr rfl) h8 h10 (by rw [hh,List.getElem?_set_self A1.o2]) hv.len (by rw [hh,List.length_set];omega) ?_
  rw [hh,List.set_set,h9]
  exact ⟨hbs',u,nl,vs,A1.hn,A1.ms.set A1.o3 A1.o4 _,A1.fr.set A1.o1 _,hv,rfl⟩
theorem RkN.val (A:RkN s M h H l σ h0 hbs O) {vs:List LV} (hv:KE v vs) {u nl:Bool} {st:St} (h8:st.t 8=.ptr O 0) (h9:st.t 9=OU u nl (Z4 e)) (h10:st.t 10=B true) (hh:st.h=H.set O (some vs)):KZ [.cell 8 true 4,.tmp 9,.tmp 10] h.length (KJ s M h h0 (.ok l σ v e)) .ret st:=by
 have l0:=A.fr.len
 refine Zgj (.inr rfl) h8 h10 (by rw [hh,List.getElem?_set_self A.o2]) hv.len (by rw [hh,List.length_set];omega) ?_
 rw [hh,List.set_set,h9]
 exact ⟨hbs,u,nl,vs,A.hn,A.ms.set A.o3 A.o4 _,A.fr.set A.o1 _,hv,rfl⟩
theorem RkN.cell (A:RkN s M h H l σ h0 hbs O) {c:PC} (hr:NewR s M hbs H l σ c r H1):∃ hbs',r=N σ.length∧RkN s M h H1 l (σ++[c]) h0 hbs' O:=by
 obtain ⟨h1,hbs',h2,h3,h4⟩:=hr
 exact ⟨hbs',h1,A.step h4 h2 h3⟩
end
theorem KJ.ex {s:GSys} {M:Nat} {h:List Box} {l:Nat} {σ:List PC} {hbs:List Nat} (m:RS s M hbs h l σ) {res:LR} (hs:res≠.stuck) (hl:∀ l' σ' v e,res=.ok l' σ' v e->σ.length<=σ'.length):∃ r h',KJ s M h hbs res r h':=by
 cases res with
 | stuck=>exact absurd rfl hs
 | fail=>exact ⟨.tup [.agg [N 0,N 0,N 0,N 0],N 0,B false],h,Fr.refl _ _ _,⟨0,0,N 0,N 0,N 0,rfl⟩⟩
 | ok l' σ' v e =>
  obtain ⟨hbs',h',h1,h2,h3⟩:=m.ex l' σ' (hl _ _ _ _ rfl)
  exact ⟨_,h',hbs',true,false,v.cells,h3,h1,h2,.inl rfl,rfl⟩
theorem get_at {a z:List LV} {n:Nat} (ha:a.length=n) (k m:Nat):((a++z).drop (n+k)).take m=(z.drop k).take m:=by
 rw [List.drop_append,List.drop_of_length_le (by omega),List.nil_append,show n+k - a.length=k by omega]
def csn:C->C
 | .seq _ b=>b
 | c=>c
def LkIH (s:GSys) (d:Nat):Prop:=∀ (l:Nat) (σ:List PC) (t:GTerm) (env:List Nat) (q:Int) (nl:Bool) (h:List Box) (hbs:List Nat) (M:Nat),3000 < l+d->l<=3000->RS s M hbs h l σ->BD s l σ->BE l σ env->σ.length<=2 * l+8->s.G q->Q5 s d l σ t env q≠.stuck ->
  QE Tryz.prog Xd [.ptr M 0,t.lv,L nl (Z4 env),N q] h (KJ s M h hbs (Q5 s d l σ t env q))
structure SkAt (s:GSys) (M:Nat) (h H:List Box) (h0:List Nat) (op n:Int) (nl1 nl2:Bool) (ty:List Int) (ks:List GTerm) (env:List Nat) (q q':Int) (nl:Bool) (l1:Nat) (σ1:List PC) (v:GTerm) (e1:List Nat) (hbs:List Nat) (O:Nat) (t:Nat->LV):Prop where
 A:RkN s M h H l1 σ1 h0 hbs O
 e0:t 0=.ptr M 0
 e2:t 2=L nl (Z4 env)
 e3:t 3=N q
 e5:t 5=.rp [N op,N n,L nl1 ty,.sl false nl2 4 (Q9 ks)]
 e8:t 8=.ptr O 0
 e12:t 12=N q'
 e13:∃ vs,KE v vs∧t 13=.rp vs
 e14:∃ u nl3,t 14=OU u nl3 (Z4 e1)
theorem ZaU {s:GSys} (hs:s.sys=true) (sw:s.wf) {d:Nat} (ih:LkIH s d) {l:Nat} {σ:List PC} {op n:Int} {nl1 nl2:Bool} {ty:List Int} {ks:List GTerm} {env:List Nat} {q:Int} {nl:Bool} {h H:List Box} {h0 hbs:List Nat} {M O:Nat} {t:Nat->LV}
  (hd:3000 < l+d) (hl:l<=3000) (A:RkN s M h H l σ h0 hbs O) (bd:BD s l σ) (be:BE l σ env) (hm:σ.length<=2 * l+8) (hq:s.G q)
  (e0:t 0=.ptr M 0) (e2:t 2=L nl (Z4 env)) (e3:t 3=N q) (e5:t 5=.rp [N op,N n,L nl1 ty,.sl false nl2 4 (Q9 ks)]) (e8:t 8=.ptr O 0)
  (hop:op=2∨op=3∨op=10∨op=5∨op=8∨op=12) (hk:ks.length≠0) {q':Int} (hq':q'=if XH op=true then s.tm q n else q) (hg:XH op=true->s.G n) {K:Nat->List PC->GTerm->List Nat->LR} {res:LR} (hres:res=(Q5 s d l σ (ks.getD 0 (JL 0)) env q').bind K) (hns:Q5 s d l σ (ks.getD 0 (JL 0)) env q'≠.stuck)
  (hK:∀ (l1:Nat) (σ1:List PC) (v:GTerm) (e1:List Nat) (hbs':List Nat) (t':Nat->LV) (H':List Box),Q5 s d l σ (ks.getD 0 (JL 0)) env q'=.ok l1 σ1 v e1->SkAt s M h H' h0 op n nl1 nl2 ty ks env q q' nl l1 σ1 v e1 hbs' O t' ->
   wpC Tryz.prog (csn (csn (csn (csn (csn (csn (csn (csn WY)))))))) (KZ [.cell 8 true 4,.tmp 9,.tmp 10] h.length (KJ s M h h0 (K l1 σ1 v e1))) ⟨t',H'⟩) :
  wpC Tryz.prog (csn (csn (csn WY))) (KZ [.cell 8 true 4,.tmp 9,.tmp 10] h.length (KJ s M h h0 res)) ⟨t,H⟩:=by
 have ts:=GSys.sys_of hs
 subst hres
 have q0:eqB op 0=false∧eqB op 1=false∧eqB op 4=false∧eqB op 6=false∧eqB op 7=false∧eqB op 9=false∧eqB op 11=false:=by
  refine ⟨?_,?_,?_,?_,?_,?_,?_⟩<;>rw [Qb]<;>omega
 obtain ⟨z0,z1,z4,z6,z7,z9,z11⟩:=q0
 obtain ⟨k0,kr,rfl⟩:∃ a b,ks=a::b:=by
  cases ks with
  | nil=>exact absurd rfl hk
  | cons a b=>exact ⟨a,b,rfl⟩
 have i0:=Wq (k0::kr) false nl2 0 (by simp)
 simp only [Int.natCast_zero,List.getElem_cons_zero,List.getD_cons_zero] at i0 hns hK ⊢
 have hG:s.G q':=by
  subst hq'
  split
  ·exact GSys.Gtm ts q n
  ·exact hq
 have IH:=ih l σ k0 env q' nl H hbs M hd hl A.ms bd be hm hG hns
 have has:=Zqg op
 obtain ⟨cs,hb,hc1,hc2,_,_⟩:=A.ms.tick l
 simp only [GSys.cells,List.cons_append,List.nil_append] at hb
 have hO:=A.box
 show wpC Tryz.prog (.seq _ (.seq _ (.seq _ (.seq _ (.seq _ _))))) _ _
 rw [XA,XA,XA,XA]
 refine ZcZ (fun t' H'=>∃ l1 σ1 v e1 hbs',Q5 s d l σ k0 env q'=.ok l1 σ1 v e1∧SkAt s M h H' h0 op n nl1 nl2 ty (k0::kr) env q q' nl l1 σ1 v e1 hbs' O t') ?_ ?_
 ·cases hL:Q5 s d l σ k0 env q' with
  | stuck=>exact absurd hL hns
  | fail =>
   rw [hL] at IH
   simp only [LR.bind]
   cases hh:XH op with
   | true =>
    rw [hh] at has hq' hg
    rw [if_pos rfl] at hq'
    subst hq'
    have mul:=KW ts hq (hg rfl)
    simp (disch:=omega) [e0,e2,e3,e5,e8,z0,z1,z4,z6,z7,z9,z11]
    refine Qa has (by simp) ?_
    simp (disch:=omega) [e0,e2,e3,e5,e8,hb]
    refine Qa mul (by simp) ?_
    simp (disch:=omega) [e0,e2,e3,e5,e8,i0]
    refine Qm IH ?_
    rintro r H1 hr
    obtain ⟨fr1,oH1,hO1,a,b,x,y,e,rfl⟩:=A.fails hr
    have fO:∀ k:List Box,(H1++k)[O]?=some (some [N 0,N 0,.sl true true 1 [],.sl true true 1 []]):=fun k=>by rw [Q7 oH1];exact hO1
    have fL:∀ _:Unit,O < (H1++[none]).length:=fun _=>by simp;omega
    clear oH1
    simp (disch:=omega) [e0,e2,e3,e5,e8,QN,Qo,fO]
    refine Zbd (fr1.appR [none]) A.o1 (fL ()) ?_ ?_ ?_
    ·simp [e8]
    ·simp
    ·exact ⟨_,_,_,_,rfl⟩
   | false =>
    rw [hh] at has hq' hg
    rw [if_neg (by simp)] at hq'
    subst hq'
    simp (disch:=omega) [e0,e2,e3,e5,e8,z0,z1,z4,z6,z7,z9,z11]
    refine Qa has (by simp) ?_
    simp (disch:=omega) [e0,e2,e3,e5,e8,i0]
    refine Qm IH ?_
    rintro r H1 hr
    obtain ⟨fr1,oH1,hO1,a,b,x,y,e,rfl⟩:=A.fails hr
    have fO:∀ k:List Box,(H1++k)[O]?=some (some [N 0,N 0,.sl true true 1 [],.sl true true 1 []]):=fun k=>by rw [Q7 oH1];exact hO1
    have fL:∀ _:Unit,O < (H1++[none]).length:=fun _=>by simp;omega
    clear oH1
    simp (disch:=omega) [e0,e2,e3,e5,e8,QN,Qo,fO]
    refine Zbd (fr1.appR [none]) A.o1 (fL ()) ?_ ?_ ?_
    ·simp [e8]
    ·simp
    ·exact ⟨_,_,_,_,rfl⟩
  | ok l1 σ1 v e1 =>
   rw [hL] at IH
   simp only [LR.bind]
   cases hh:XH op with
   | true =>
    rw [hh] at has hq' hg
    rw [if_pos rfl] at hq'
    subst hq'
    have mul:=KW ts hq (hg rfl)
    simp (disch:=omega) [e0,e2,e3,e5,e8,z0,z1,z4,z6,z7,z9,z11]
    refine Qa has (by simp) ?_
    simp (disch:=omega) [e0,e2,e3,e5,e8,hb]
    refine Qa mul (by simp) ?_
    simp (disch:=omega) [e0,e2,e3,e5,e8,i0]
    refine Qm IH ?_
    rintro r H1 hr
    obtain ⟨hbs',u1,nl3,vs,hv1,rfl,A1⟩:=A.next hr
    have A2:=A1.app [none]
    have v4:=hv1.len
    have vsh:=hv1.share
    obtain ⟨nx,ny,vx,vy,rfl⟩:∃ a b x y,vs=[a,b,x,y]:=by
     match vs,v4 with
     | [a,b,x,y],_=>exact ⟨a,b,x,y,rfl⟩
    simp (disch:=omega) [e0,e2,e3,e5,e8,QN,Qo]
    exact ⟨l1,σ1,v,e1,⟨rfl,rfl,rfl,rfl⟩,hbs',A2,by simp [e0],by simp [e2],by simp [e3],by simp [e5],by simp [e8],by simp,⟨_,hv1,by simp⟩,⟨u1,nl3,by simp⟩⟩
   | false =>
    rw [hh] at has hq' hg
    rw [if_neg (by simp)] at hq'
    subst hq'
    simp (disch:=omega) [e0,e2,e3,e5,e8,z0,z1,z4,z6,z7,z9,z11]
    refine Qa has (by simp) ?_
    simp (disch:=omega) [e0,e2,e3,e5,e8,i0]
    refine Qm IH ?_
    rintro r H1 hr
    obtain ⟨hbs',u1,nl3,vs,hv1,rfl,A1⟩:=A.next hr
    have A2:=A1.app [none]
    have v4:=hv1.len
    have vsh:=hv1.share
    obtain ⟨nx,ny,vx,vy,rfl⟩:∃ a b x y,vs=[a,b,x,y]:=by
     match vs,v4 with
     | [a,b,x,y],_=>exact ⟨a,b,x,y,rfl⟩
    simp (disch:=omega) [e0,e2,e3,e5,e8,QN,Qo]
    exact ⟨l1,σ1,v,e1,⟨rfl,rfl,rfl,rfl⟩,hbs',A2,by simp [e0],by simp [e2],by simp [e3],by simp [e5],by simp [e8],by simp,⟨_,hv1,by simp⟩,⟨u1,nl3,by simp⟩⟩
 ·rintro t' H' hf ⟨l1,σ1,v,e1,hbs',h1,h2⟩
  rw [h1]
  exact hK l1 σ1 v e1 hbs' t' H' h1 h2
section
variable {s:GSys} {d:Nat} {l1:Nat} {σ1:List PC} {op n:Int} {nl1 nl2:Bool} {ty:List Int} {a b c:GTerm} {env e1:List Nat} {q q':Int} {nl:Bool} {h H:List Box} {h0 hbs:List Nat} {M O:Nat} {t:Nat->LV} {v:GTerm}
theorem look3_if (hs:s.sys=true) (ih:LkIH s d) (hd:3000 < l1+d) (hl:l1<=3000) (bd:BD s l1 σ1) (be:BE l1 σ1 env) (be1:BE l1 σ1 e1) (hm:σ1.length<=2 * l1+6) (hle:env.length<=2 * l1+6∧e1.length<=2 * l1+6) (hq:s.G q) (hq2:s.G q')
  (S:SkAt s M h H h0 3 n nl1 nl2 ty [a,b,c] env q q' nl l1 σ1 v e1 hbs O t) (hns:(if v.num=0 then Q5 s d l1 σ1 b env q else Q5 s d l1 σ1 c env q)≠.stuck) :
  wpC Tryz.prog (csn (csn (csn (csn (csn (csn (csn (csn WY)))))))) (KZ [.cell 8 true 4,.tmp 9,.tmp 10] h.length (KJ s M h h0 (if v.num=0 then Q5 s d l1 σ1 b env q else Q5 s d l1 σ1 c env q))) ⟨t,H⟩:=by
 have ts:=GSys.sys_of hs
 obtain ⟨A,e0,e2,e3,e5,e8,e12,⟨vs,hv1,e13⟩,u1,nl3,e14⟩:=S
 show wpC Tryz.prog (.seq _ _) _ _
 have i1:=Wq [a,b,c] false nl2 1 (by simp)
 have i2:=Wq [a,b,c] false nl2 2 (by simp)
 simp only [Int.natCast_one,Int.cast_ofNat_Int,List.getElem_cons_zero,List.getElem_cons_succ] at i1 i2
 obtain ⟨vx,vy,rfl⟩:=hv1.num
 by_cases hz:v.num=0
 ·have hz':eqB v.num 0=true:=by rw [Qc];exact hz
  rw [if_pos hz] at hns ⊢
  have IH:=ih l1 σ1 b env q nl H hbs M hd hl A.ms bd be (by omega) hq hns
  generalize Q5 s d l1 σ1 b env q=res at *
  simp (disch:=omega) [e0,e2,e3,e5,e8,e13,hz',i1,KO]
  refine Qm IH ?_
  rintro r H1 hr
  obtain ⟨ws,e',bb,rfl,w4,hO,post⟩:=A.tail hns hr
  simp (disch:=omega) [e0,e8,hO,w4,List.take_of_length_le,List.drop_of_length_le]
  exact post _ (by simp [e8]) (by simp) (by simp) (by simp)
 ·have hz':eqB v.num 0=false:=by rw [Qb];exact hz
  rw [if_neg hz] at hns ⊢
  have IH:=ih l1 σ1 c env q nl H hbs M hd hl A.ms bd be (by omega) hq hns
  generalize Q5 s d l1 σ1 c env q=res at *
  simp (disch:=omega) [e0,e2,e3,e5,e8,e13,hz',i2,KO]
  refine Qm IH ?_
  rintro r H1 hr
  obtain ⟨ws,e',bb,rfl,w4,hO,post⟩:=A.tail hns hr
  simp (disch:=omega) [e0,e8,hO,w4,List.take_of_length_le,List.drop_of_length_le]
  exact post _ (by simp [e8]) (by simp) (by simp) (by simp)
theorem Ztr (hs:s.sys=true) (ih:LkIH s d) (hd:3000 < l1+d) (hl:l1<=3000) (bd:BD s l1 σ1) (be:BE l1 σ1 env) (be1:BE l1 σ1 e1) (hm:σ1.length<=2 * l1+6) (hle:env.length<=2 * l1+6∧e1.length<=2 * l1+6) (hq:s.G q) (hq2:s.G q')
  (S:SkAt s M h H h0 2 n nl1 nl2 ty [a,b] env q q' nl l1 σ1 v e1 hbs O t) (hv:0<=v.num∧v.num<=2) (hns:((Q5 s d l1 σ1 b env q).bind fun l2 σ2 w _=>if 0<=w.num∧w.num<=2 then .ok l2 σ2 (JL ((v.num+w.num) % 3)) [] else .stuck)≠.stuck) :
  wpC Tryz.prog (csn (csn (csn (csn (csn (csn (csn (csn WY)))))))) (KZ [.cell 8 true 4,.tmp 9,.tmp 10] h.length (KJ s M h h0 ((Q5 s d l1 σ1 b env q).bind fun l2 σ2 w _=>if 0<=w.num∧w.num<=2 then .ok l2 σ2 (JL ((v.num+w.num) % 3)) [] else .stuck))) ⟨t,H⟩:=by
 have ts:=GSys.sys_of hs
 obtain ⟨A,e0,e2,e3,e5,e8,e12,⟨vs,hv1,e13⟩,u1,nl3,e14⟩:=S
 show wpC Tryz.prog (.seq _ _) _ _
 have i1:=Wq [a,b] false nl2 1 (by simp)
 simp only [Int.natCast_one,List.getElem_cons_zero,List.getElem_cons_succ] at i1
 obtain ⟨vx,vy,rfl⟩:=hv1.num
 have hns3:Q5 s d l1 σ1 b env q≠.stuck:=fun e=>hns (by rw [e];rfl)
 have IH:=ih l1 σ1 b env q nl H hbs M hd hl A.ms bd be (by omega) hq hns3
 simp (disch:=omega) [e0,e2,e3,e5,e8,e13,i1,KO]
 cases hres2:Q5 s d l1 σ1 b env q with
 | stuck=>exact absurd hres2 hns3
 | fail =>
  rw [hres2] at IH
  simp only [LR.bind]
  refine Qm IH ?_
  rintro r H1 hr
  obtain ⟨fr1,oH1,hO1,a2,b2,x2,y2,z2,rfl⟩:=A.fails hr
  have fO:∀ k:List Box,(H1++k)[O]?=some (some [N 0,N 0,.sl true true 1 [],.sl true true 1 []]):=fun k=>by rw [Q7 oH1];exact hO1
  have fL:∀ _:Unit,O < (H1++[none]).length:=fun _=>by simp;omega
  clear oH1
  simp (disch:=omega) [e0,e2,e3,e5,e8,e13,QN,Qo,fO,Zhr]
  exact Zbd (fr1.appR [none]) A.o1 (fL ()) (by simp [e8]) (by simp) ⟨_,_,_,_,rfl⟩
 | ok l2 σ2 v2 e2' =>
  rw [hres2] at IH hns
  simp only [LR.bind] at hns ⊢
  have hns4:0<=v2.num∧v2.num<=2:=by
   by_cases hh:0<=v2.num∧v2.num<=2
   ·exact hh
   ·rw [if_neg hh] at hns;exact absurd rfl hns
  rw [if_pos hns4]
  refine Qm IH ?_
  rintro r H2 hr2
  obtain ⟨hbs2,u2,nl4,vs2,hv2,rfl,A3⟩:=A.next hr2
  obtain ⟨wx,wy,rfl⟩:=hv2.num
  have A4:=A3.app [none]
  have fO2:=A4.box
  have em:(v.num+v2.num) % 3=(v.num+v2.num).tmod 3:=by rw [Int.tmod_eq_emod_of_nonneg (by omega)]
  simp (disch:=omega) [e0,e2,e3,e5,e8,e13,QN,Qo,fO2,Zhr,Qg]
  exact A4.val (u:=false) (nl:=true) (e:=[]) (vs:=[N 1,N ((v.num+v2.num).tmod 3),.sl true true 1 [],.sl true true 1 []]) (.inr ⟨_,true,by rw [em],rfl⟩) (by simp [e8]) (by simp [Z4]) (by simp) rfl
theorem Ztu (hs:s.sys=true) (ih:LkIH s d) (hd:3000 < l1+d) (hl:l1<=3000) (bd:BD s l1 σ1) (be:BE l1 σ1 env) (be1:BE l1 σ1 e1) (hm:σ1.length<=2 * l1+6) (hle:env.length<=2 * l1+6∧e1.length<=2 * l1+6) (hq:s.G q) (hq2:s.G q')
  (S:SkAt s M h H h0 10 n nl1 nl2 ty [a,b] env q q' nl l1 σ1 v e1 hbs O t) (hv:v.kidn=1∧s.has v.num=true) (hns:Q5 s d l1 (σ1++[⟨s.tm q v.num,0,b,env⟩]) (v.kid 0) (σ1.length::e1) q≠.stuck) :
  wpC Tryz.prog (csn (csn (csn (csn (csn (csn (csn (csn WY)))))))) (KZ [.cell 8 true 4,.tmp 9,.tmp 10] h.length (KJ s M h h0 (Q5 s d l1 (σ1++[⟨s.tm q v.num,0,b,env⟩]) (v.kid 0) (σ1.length::e1) q))) ⟨t,H⟩:=by
 have ts:=GSys.sys_of hs
 obtain ⟨A,e0,e2,e3,e5,e8,e12,⟨vs,hv1,e13⟩,u1,nl3,e14⟩:=S
 show wpC Tryz.prog (.seq _ _) _ _
 have i1:=Wq [a,b] false nl2 1 (by simp)
 simp only [Int.natCast_one,List.getElem_cons_zero,List.getElem_cons_succ] at i1
 obtain ⟨hk1,hg1⟩:=hv
 have hvs:=hv1.kids (by omega)
 obtain ⟨fop,fnn,fnl1,fty,fnl2,fks⟩:=v
 obtain ⟨x,rfl⟩:=Zjh hk1
 simp only [GTerm.num,GTerm.kid,List.getD_cons_zero] at hg1 hns ⊢
 have gf:s.G fnn:=by
  simp [GSys.has] at hg1
  exact ⟨hg1.1,hg1.2⟩
 simp only [GTerm.cells] at hvs
 subst hvs
 have j0:=Wq [x] false fnl2 0 (by simp)
 simp only [Int.natCast_zero,List.getElem_cons_zero] at j0
 have G0:s.G 0:=GSys.G0 ts
 have mul:=KW ts hq gf
 obtain ⟨cs,hb,hc1,hc2,_,_⟩:=A.ms.tick l1
 simp only [GSys.cells,List.cons_append,List.nil_append] at hb
 generalize hres3:Q5 s d l1 (σ1++[⟨s.tm q fnn,0,b,env⟩]) x (σ1.length::e1) q=res at *
 simp (disch:=omega) [e0,e2,e3,e5,e8,e12,e13,e14,hb,i1,j0,KO]
 refine Qa mul (by simp) ?_
 simp (disch:=omega) [e0,e2,e3,e5,e8,e12,e13,e14,i1,j0]
 refine Qm (Zbn A.ms (s.tm q fnn) b env nl (by omega)) ?_
 rintro r H2 hr2
 obtain ⟨hbs2,rfl,A3⟩:=A.cell hr2
 simp (disch:=omega) [e0,e2,e3,e5,e8,e12,e13,e14,i1,j0]
 refine Qa (Vu nl3 σ1.length e1 (by have:=be1.1;omega)) (by simp) ?_
 have IH:=ih l1 (σ1++[⟨s.tm q fnn,0,b,env⟩]) x (σ1.length::e1) q false H2 hbs2 M hd hl A3.ms (bd.snoc be G0) ⟨by have:=hle.2;simp;omega,fun j hj=>by
  rcases List.mem_cons.1 hj with rfl | hj
  ·simp
  ·have:=be1.2 j hj;simp;omega⟩ (by simp;omega) hq (by rw [hres3];exact hns)
 rw [hres3] at IH
 simp (disch:=omega) [e0,e2,e3,e5,e8,e12,e13,e14]
 refine Qm IH ?_
 rintro r H4 hr
 obtain ⟨ws,e',bb,rfl,w4,hO,post⟩:=A3.tail hns hr
 simp (disch:=omega) [e0,e8,hO,w4,List.take_of_length_le,List.drop_of_length_le]
 exact post _ (by simp [e8]) (by simp) (by simp) (by simp)
theorem Zqe (hs:s.sys=true) (ih:LkIH s d) (hd:3000 < l1+d) (hl:l1<=3000) (bd:BD s l1 σ1) (be:BE l1 σ1 env) (be1:BE l1 σ1 e1) (hm:σ1.length<=2 * l1+6) (hle:env.length<=2 * l1+6∧e1.length<=2 * l1+6) (hq:s.G q) (hq2:s.G q')
  (S:SkAt s M h H h0 8 n nl1 nl2 ty [a,b,c] env q q' nl l1 σ1 v e1 hbs O t) (hv:v.kidn=1∧v.opc=6) (hns:Q5 s d l1 (σ1++[⟨q',0,v.kid 0,e1⟩]) b (σ1.length::env) q≠.stuck) :
  wpC Tryz.prog (csn (csn (csn (csn (csn (csn (csn (csn WY)))))))) (KZ [.cell 8 true 4,.tmp 9,.tmp 10] h.length (KJ s M h h0 (Q5 s d l1 (σ1++[⟨q',0,v.kid 0,e1⟩]) b (σ1.length::env) q))) ⟨t,H⟩:=by
 have ts:=GSys.sys_of hs
 obtain ⟨A,e0,e2,e3,e5,e8,e12,⟨vs,hv1,e13⟩,u1,nl3,e14⟩:=S
 show wpC Tryz.prog (.seq _ _) _ _
 have i1:=Wq [a,b,c] false nl2 1 (by simp)
 have i2:=Wq [a,b,c] false nl2 2 (by simp)
 simp only [Int.natCast_one,Int.cast_ofNat_Int,List.getElem_cons_zero,List.getElem_cons_succ] at i1 i2
 obtain ⟨hk1,ho1⟩:=hv
 have hvs:=hv1.kids (by omega)
 obtain ⟨fop,fnn,fnl1,fty,fnl2,fks⟩:=v
 obtain ⟨x,rfl⟩:=Zjh hk1
 obtain rfl:fop=6:=ho1
 simp only [GTerm.kid,List.getD_cons_zero] at hns ⊢
 simp only [GTerm.cells] at hvs
 subst hvs
 have j0:=Wq [x] false fnl2 0 (by simp)
 simp only [Int.natCast_zero,List.getElem_cons_zero] at j0
 have G0:s.G 0:=GSys.G0 ts
 have z67:eqB 6 7=false∧eqB 7 7=true:=by decide
 obtain ⟨cs,hb,hc1,hc2,_,_⟩:=A.ms.tick l1
 simp only [GSys.cells,List.cons_append,List.nil_append] at hb
 generalize hres3:Q5 s d l1 (σ1++[⟨q',0,x,e1⟩]) b (σ1.length::env) q=res at *
 simp (disch:=omega) [e0,e2,e3,e5,e8,e12,e13,e14,hb,i1,j0,KO,z67]
 refine Qm (Zbn A.ms q' x e1 nl3 (by omega)) ?_
 rintro r H2 hr2
 obtain ⟨hbs2,rfl,A3⟩:=A.cell hr2
 simp (disch:=omega) [e0,e2,e3,e5,e8,e12,e13,e14,i1,j0,z67]
 refine Qa (Vu nl σ1.length env (by have:=be.1;omega)) (by simp) ?_
 have IH:=ih l1 (σ1++[⟨q',0,x,e1⟩]) b (σ1.length::env) q false H2 hbs2 M hd hl A3.ms (bd.snoc be1 G0) ⟨by have:=hle.1;simp;omega,fun j hj=>by
  rcases List.mem_cons.1 hj with rfl | hj
  ·simp
  ·have:=be.2 j hj;simp;omega⟩ (by simp;omega) hq (by rw [hres3];exact hns)
 rw [hres3] at IH
 simp (disch:=omega) [e0,e2,e3,e5,e8,e12,e13,e14]
 refine Qm IH ?_
 rintro r H4 hr
 obtain ⟨ws,e',bb,rfl,w4,hO,post⟩:=A3.tail hns hr
 simp (disch:=omega) [e0,e8,hO,w4,List.take_of_length_le,List.drop_of_length_le]
 exact post _ (by simp [e8]) (by simp) (by simp) (by simp)
theorem ZpT (hs:s.sys=true) (ih:LkIH s d) (hd:3000 < l1+d) (hl:l1<=3000) (bd:BD s l1 σ1) (be:BE l1 σ1 env) (be1:BE l1 σ1 e1) (hm:σ1.length<=2 * l1+6) (hle:env.length<=2 * l1+6∧e1.length<=2 * l1+6) (hq:s.G q) (hq2:s.G q')
  (S:SkAt s M h H h0 8 n nl1 nl2 ty [a,b,c] env q q' nl l1 σ1 v e1 hbs O t) (hv:v.kidn=1∧v.opc=7) (hns:Q5 s d l1 (σ1++[⟨q',0,v.kid 0,e1⟩]) c (σ1.length::env) q≠.stuck) :
  wpC Tryz.prog (csn (csn (csn (csn (csn (csn (csn (csn WY)))))))) (KZ [.cell 8 true 4,.tmp 9,.tmp 10] h.length (KJ s M h h0 (Q5 s d l1 (σ1++[⟨q',0,v.kid 0,e1⟩]) c (σ1.length::env) q))) ⟨t,H⟩:=by
 have ts:=GSys.sys_of hs
 obtain ⟨A,e0,e2,e3,e5,e8,e12,⟨vs,hv1,e13⟩,u1,nl3,e14⟩:=S
 show wpC Tryz.prog (.seq _ _) _ _
 have i1:=Wq [a,b,c] false nl2 1 (by simp)
 have i2:=Wq [a,b,c] false nl2 2 (by simp)
 simp only [Int.natCast_one,Int.cast_ofNat_Int,List.getElem_cons_zero,List.getElem_cons_succ] at i1 i2
 obtain ⟨hk1,ho1⟩:=hv
 have hvs:=hv1.kids (by omega)
 obtain ⟨fop,fnn,fnl1,fty,fnl2,fks⟩:=v
 obtain ⟨x,rfl⟩:=Zjh hk1
 obtain rfl:fop=7:=ho1
 simp only [GTerm.kid,List.getD_cons_zero] at hns ⊢
 simp only [GTerm.cells] at hvs
 subst hvs
 have j0:=Wq [x] false fnl2 0 (by simp)
 simp only [Int.natCast_zero,List.getElem_cons_zero] at j0
 have G0:s.G 0:=GSys.G0 ts
 have z67:eqB 6 7=false∧eqB 7 7=true:=by decide
 obtain ⟨cs,hb,hc1,hc2,_,_⟩:=A.ms.tick l1
 simp only [GSys.cells,List.cons_append,List.nil_append] at hb
 generalize hres3:Q5 s d l1 (σ1++[⟨q',0,x,e1⟩]) c (σ1.length::env) q=res at *
 simp (disch:=omega) [e0,e2,e3,e5,e8,e12,e13,e14,hb,i2,j0,KO,z67]
 refine Qm (Zbn A.ms q' x e1 nl3 (by omega)) ?_
 rintro r H2 hr2
 obtain ⟨hbs2,rfl,A3⟩:=A.cell hr2
 simp (disch:=omega) [e0,e2,e3,e5,e8,e12,e13,e14,i2,j0,z67]
 refine Qa (Vu nl σ1.length env (by have:=be.1;omega)) (by simp) ?_
 have IH:=ih l1 (σ1++[⟨q',0,x,e1⟩]) c (σ1.length::env) q false H2 hbs2 M hd hl A3.ms (bd.snoc be1 G0) ⟨by have:=hle.1;simp;omega,fun j hj=>by
  rcases List.mem_cons.1 hj with rfl | hj
  ·simp
  ·have:=be.2 j hj;simp;omega⟩ (by simp;omega) hq (by rw [hres3];exact hns)
 rw [hres3] at IH
 simp (disch:=omega) [e0,e2,e3,e5,e8,e12,e13,e14]
 refine Qm IH ?_
 rintro r H4 hr
 obtain ⟨ws,e',bb,rfl,w4,hO,post⟩:=A3.tail hns hr
 simp (disch:=omega) [e0,e8,hO,w4,List.take_of_length_le,List.drop_of_length_le]
 exact post _ (by simp [e8]) (by simp) (by simp) (by simp)
theorem ZrQ (hs:s.sys=true) (ih:LkIH s d) (hd:3000 < l1+d) (hl:l1<=3000) (bd:BD s l1 σ1) (be:BE l1 σ1 env) (be1:BE l1 σ1 e1) (hm:σ1.length<=2 * l1+6) (hle:env.length<=2 * l1+6∧e1.length<=2 * l1+6) (hq:s.G q) (hq2:s.G q')
  (S:SkAt s M h H h0 12 n nl1 nl2 ty [a,b] env q q' nl l1 σ1 v e1 hbs O t) (hv:v.kidn=1∧s.has v.num=true) (hns:Q5 s d l1 (σ1++[⟨s.tm q' v.num,0,v.kid 0,e1⟩]) b (σ1.length::env) q≠.stuck) :
  wpC Tryz.prog (csn (csn (csn (csn (csn (csn (csn (csn WY)))))))) (KZ [.cell 8 true 4,.tmp 9,.tmp 10] h.length (KJ s M h h0 (Q5 s d l1 (σ1++[⟨s.tm q' v.num,0,v.kid 0,e1⟩]) b (σ1.length::env) q))) ⟨t,H⟩:=by
 have ts:=GSys.sys_of hs
 obtain ⟨A,e0,e2,e3,e5,e8,e12,⟨vs,hv1,e13⟩,u1,nl3,e14⟩:=S
 show wpC Tryz.prog (.seq _ _) _ _
 have i1:=Wq [a,b] false nl2 1 (by simp)
 simp only [Int.natCast_one,List.getElem_cons_zero,List.getElem_cons_succ] at i1
 obtain ⟨hk1,hg1⟩:=hv
 have hvs:=hv1.kids (by omega)
 obtain ⟨fop,fnn,fnl1,fty,fnl2,fks⟩:=v
 obtain ⟨x,rfl⟩:=Zjh hk1
 simp only [GTerm.num,GTerm.kid,List.getD_cons_zero] at hg1 hns ⊢
 have gf:s.G fnn:=by
  simp [GSys.has] at hg1
  exact ⟨hg1.1,hg1.2⟩
 simp only [GTerm.cells] at hvs
 subst hvs
 have j0:=Wq [x] false fnl2 0 (by simp)
 simp only [Int.natCast_zero,List.getElem_cons_zero] at j0
 have G0:s.G 0:=GSys.G0 ts
 have mul:=KW ts hq2 gf
 obtain ⟨cs,hb,hc1,hc2,_,_⟩:=A.ms.tick l1
 simp only [GSys.cells,List.cons_append,List.nil_append] at hb
 generalize hres3:Q5 s d l1 (σ1++[⟨s.tm q' fnn,0,x,e1⟩]) b (σ1.length::env) q=res at *
 simp (disch:=omega) [e0,e2,e3,e5,e8,e12,e13,e14,hb,i1,j0,KO]
 refine Qa mul (by simp) ?_
 simp (disch:=omega) [e0,e2,e3,e5,e8,e12,e13,e14,i1,j0]
 refine Qm (Zbn A.ms (s.tm q' fnn) x e1 nl3 (by omega)) ?_
 rintro r H2 hr2
 obtain ⟨hbs2,rfl,A3⟩:=A.cell hr2
 simp (disch:=omega) [e0,e2,e3,e5,e8,e12,e13,e14,i1,j0]
 refine Qa (Vu nl σ1.length env (by have:=be.1;omega)) (by simp) ?_
 have IH:=ih l1 (σ1++[⟨s.tm q' fnn,0,x,e1⟩]) b (σ1.length::env) q false H2 hbs2 M hd hl A3.ms (bd.snoc be1 G0) ⟨by have:=hle.1;simp;omega,fun j hj=>by
  rcases List.mem_cons.1 hj with rfl | hj
  ·simp
  ·have:=be.2 j hj;simp;omega⟩ (by simp;omega) hq (by rw [hres3];exact hns)
 rw [hres3] at IH
 simp (disch:=omega) [e0,e2,e3,e5,e8,e12,e13,e14]
 refine Qm IH ?_
 rintro r H4 hr
 obtain ⟨ws,e',bb,rfl,w4,hO,post⟩:=A3.tail hns hr
 simp (disch:=omega) [e0,e8,hO,w4,List.take_of_length_le,List.drop_of_length_le]
 exact post _ (by simp [e8]) (by simp) (by simp) (by simp)
theorem Zp8 (hs:s.sys=true) (ih:LkIH s d) (hd:3000 < l1+d) (hl:l1<=3000) (bd:BD s l1 σ1) (be:BE l1 σ1 env) (be1:BE l1 σ1 e1) (hm:σ1.length<=2 * l1+6) (hle:env.length<=2 * l1+6∧e1.length<=2 * l1+6) (hq:s.G q) (hq2:s.G q')
  (S:SkAt s M h H h0 5 n nl1 nl2 ty [a,b] env q q' nl l1 σ1 v e1 hbs O t) (hv:v.kidn=2) (hns:Q5 s d l1 (σ1++[⟨q',0,v.kid 0,e1⟩,⟨q',0,v.kid 1,e1⟩]) b ((σ1.length+1)::σ1.length::env) q≠.stuck) :
  wpC Tryz.prog (csn (csn (csn (csn (csn (csn (csn (csn WY)))))))) (KZ [.cell 8 true 4,.tmp 9,.tmp 10] h.length (KJ s M h h0 (Q5 s d l1 (σ1++[⟨q',0,v.kid 0,e1⟩,⟨q',0,v.kid 1,e1⟩]) b ((σ1.length+1)::σ1.length::env) q))) ⟨t,H⟩:=by
 have ts:=GSys.sys_of hs
 obtain ⟨A,e0,e2,e3,e5,e8,e12,⟨vs,hv1,e13⟩,u1,nl3,e14⟩:=S
 show wpC Tryz.prog (.seq _ _) _ _
 have i1:=Wq [a,b] false nl2 1 (by simp)
 simp only [Int.natCast_one,List.getElem_cons_zero,List.getElem_cons_succ] at i1
 have hvs:=hv1.kids (by omega)
 obtain ⟨fop,fnn,fnl1,fty,fnl2,fks⟩:=v
 obtain ⟨x,y,rfl⟩:=ZiQ hv
 simp only [GTerm.kid,List.getD_cons_zero,List.getD_cons_succ] at hns ⊢
 simp only [GTerm.cells] at hvs
 subst hvs
 have j0:=Wq [x,y] false fnl2 0 (by simp)
 have j1:=Wq [x,y] false fnl2 1 (by simp)
 simp only [Int.natCast_zero,Int.natCast_one,List.getElem_cons_zero,List.getElem_cons_succ] at j0 j1
 have G0:s.G 0:=GSys.G0 ts
 obtain ⟨cs,hb,hc1,hc2,_,_⟩:=A.ms.tick l1
 simp only [GSys.cells,List.cons_append,List.nil_append] at hb
 generalize hres3:Q5 s d l1 (σ1++[⟨q',0,x,e1⟩,⟨q',0,y,e1⟩]) b ((σ1.length+1)::σ1.length::env) q=res at *
 simp (disch:=omega) [e0,e2,e3,e5,e8,e12,e13,e14,hb,i1,j0,KO]
 refine Qm (Zbn A.ms q' x e1 nl3 (by omega)) ?_
 rintro r H2 hr2
 obtain ⟨hbs2,rfl,A2⟩:=A.cell hr2
 simp (disch:=omega) [e0,e2,e3,e5,e8,e12,e13,e14,i1,j1]
 have bd3:=bd.snoc (c:=⟨q',0,x,e1⟩) be1 G0
 have be3:BE l1 (σ1++[(⟨q',0,x,e1⟩:PC)]) e1:=⟨be1.1,fun j hj=>by have:=be1.2 j hj;simp;omega⟩
 refine Qm (Zbn A2.ms q' y e1 nl3 (by simp;omega)) ?_
 rintro r H3 hr3
 obtain ⟨hbs3,rfl,A3⟩:=A2.cell hr3
 have bd4:=bd3.snoc (c:=⟨q',0,y,e1⟩) be3 G0
 have e12':σ1++[⟨q',0,x,e1⟩]++[⟨q',0,y,e1⟩]=σ1++[⟨q',0,x,e1⟩,⟨q',0,y,e1⟩]:=by simp
 rw [e12'] at A3 bd4
 have ln:(σ1++[(⟨q',0,x,e1⟩:PC)]).length=σ1.length+1:=by simp
 rw [ln]
 simp (disch:=omega) [e0,e2,e3,e5,e8,e12,e13,e14,i1,j0]
 refine Qa (Vu nl σ1.length env (by have:=be.1;omega)) (by simp) ?_
 simp (disch:=omega) [e0,e2,e3,e5,e8,e12,e13,e14,i1,j0]
 have F2:=Vu false (σ1.length+1) (σ1.length::env) (by have:=be.1;simp;omega)
 rw [Int.natCast_add,Int.natCast_one] at F2
 refine Qa F2 (by simp) ?_
 have IH:=ih l1 (σ1++[⟨q',0,x,e1⟩,⟨q',0,y,e1⟩]) b ((σ1.length+1)::σ1.length::env) q false H3 hbs3 M hd hl A3.ms bd4 ⟨by have:=hle.1;simp;omega,fun j hj=>by
  rcases List.mem_cons.1 hj with rfl | hj
  ·simp
  ·rcases List.mem_cons.1 hj with rfl | hj
   ·simp
   ·have:=be.2 j hj;simp;omega⟩ (by simp;omega) hq (by rw [hres3];exact hns)
 rw [hres3] at IH
 simp (disch:=omega) [e0,e2,e3,e5,e8,e12,e13,e14]
 refine Qm IH ?_
 rintro r H4 hr
 obtain ⟨ws,e',bb,rfl,w4,hO,post⟩:=A3.tail hns hr
 simp (disch:=omega) [e0,e8,hO,w4,List.take_of_length_le,List.drop_of_length_le]
 exact post _ (by simp [e8]) (by simp) (by simp) (by simp)
end
theorem idx_N {env:List Nat} {n:Int} (n0:0<=n) (n1:n.toNat < env.length) (nl:Bool):QP 1 (L nl (Z4 env)) n=some (.rp [N (env.getD n.toNat 0)]):=by
 rw [Zen (fun x:Int=>N x) (by simp) (Z4 env) false nl n n0 (by simp;omega)]
 simp [Z4,List.getD_eq_getElem?_getD,n1]
theorem ZsT {s:GSys} (hs:s.sys=true) {d:Nat} (ih:LkIH s d) {l:Nat} {σ:List PC} {n:Int} {nl1 nl2:Bool} {ty:List Int} {ks:List GTerm} {env:List Nat} {q:Int} {nl:Bool} {h H:List Box} {h0 hbs:List Nat} {M O:Nat} {t:Nat->LV}
  (hd:3000 < l+d) (hl:l<=3000) (A:RkN s M h H l σ h0 hbs O) (bd:BD s l σ) (be:BE l σ env) (hm:σ.length<=2 * l+8) (hq:s.G q)
  (e0:t 0=.ptr M 0) (e2:t 2=L nl (Z4 env)) (e3:t 3=N q) (e5:t 5=.rp [N 0,N n,L nl1 ty,.sl false nl2 4 (Q9 ks)]) (e8:t 8=.ptr O 0)
  (c0:0<=n∧n.toNat < env.length) {c:PC} (hc:σ[env.getD n.toNat 0]?=some c) (hns:Q5 s d l (σ.set (env.getD n.toNat 0) { c with k:=s.pl c.k q }) c.t c.e q≠.stuck) :
  wpC Tryz.prog (csn (csn (csn WY))) (KZ [.cell 8 true 4,.tmp 9,.tmp 10] h.length (KJ s M h h0 (Q5 s d l (σ.set (env.getD n.toNat 0) { c with k:=s.pl c.k q }) c.t c.e q))) ⟨t,H⟩:=by
 have ts:=GSys.sys_of hs
 obtain ⟨n0,n1⟩:=c0
 have i1:=idx_N n0 n1 nl
 have hj:env.getD n.toNat 0 < σ.length:=by
  rcases Nat.lt_or_ge (env.getD n.toNat 0) σ.length with g | g
  ·exact g
  ·rw [List.getElem?_eq_none g] at hc;simp at hc
 obtain ⟨b,cap,nlc,xa,xz,hbs1,hbM,hbl,hM,hB,hlen,hK⟩:=A.ms.cellAt hc
 have gk:=bd.gk c (List.mem_of_getElem? hc)
 obtain ⟨en1,en2⟩:=bd.env c (List.mem_of_getElem? hc)
 have pl:=ZeL ts gk hq
 have bd2:=bd.book _ hc (GSys.Gpl ts c.k q)
 have bO:b≠O:=fun e=>A.o4 (by rw [hbs1,<- e];simp)
 have A2:RkN s M h (H.set b (some (xa++(ZbV { c with k:=s.pl c.k q } nlc++xz)))) l (σ.set (env.getD n.toNat 0) { c with k:=s.pl c.k q }) h0 hbs O :=
  A.step (fun i hi=>.inl hi) (hK _) ((Fr.refl M hbs H).setI (by rw [hbs1];simp) _)
 have IH:=ih l _ c.t c.e q nlc _ hbs M hd hl A2.ms bd2 ⟨en1,fun j hj=>by rw [List.length_set];exact en2 j hj⟩ (by rw [List.length_set];omega) hq hns
 have hbs':∀ x:Box,(H.set b x)[b]?=some x:=fun x=>List.getElem?_set_self hbl
 have hbs2:∀ x:Box,(H.set b x)[M]?=H[M]?:=fun x=>List.getElem?_set_ne hbM
 generalize Q5 s d l (σ.set (env.getD n.toNat 0) { c with k:=s.pl c.k q }) c.t c.e q=res at *
 have ih7:QP 7 (.ha b 7 0 σ.length cap) ((env.getD n.toNat 0:Nat):Int)=some (.ptr b (env.getD n.toNat 0 * 7)):=by rw [Zy hj,Nat.zero_add]
 generalize env.getD n.toNat 0=j at *
 obtain ⟨cb,ck,⟨cop,ccn,cnl1,cty,cnl2,cks⟩,ce⟩:=c
 simp only [GSys.cells,ZbV,GTerm.cells,List.cons_append,List.nil_append] at hM hB IH A2
 clear hj hbl hK
 have g1:∀ (z:List LV) (k m:Nat),((xa++z).drop (j * 7+k)).take m=(z.drop k).take m:=fun z k m=>get_at hlen k m
 have z00:eqB 0 0=true:=by decide
 show wpC Tryz.prog (.seq _ _) _ _
 simp (disch:=omega) [e0,e2,e3,e5,e8,i1,z00,hM,hB,ih7,g1]
 refine ⟨by omega,?_⟩
 have sp:∀ x:LV,List.take (j * 7+1) (xa++N cb::N ck::N cop::N ccn::L cnl1 cty::LV.sl false cnl2 4 (Q9 cks)::L nlc (Z4 ce)::xz)++x::List.drop (j * 7+1+1) (xa++N cb::N ck::N cop::N ccn::L cnl1 cty::LV.sl false cnl2 4 (Q9 cks)::L nlc (Z4 ce)::xz)=xa++N cb::x::N cop::N ccn::L cnl1 cty::LV.sl false cnl2 4 (Q9 cks)::L nlc (Z4 ce)::xz:=fun x=>by
  rw [<- hlen,List.take_append,List.drop_append,List.take_of_length_le (by omega),List.drop_of_length_le (by omega)]
  simp [show xa.length+1 - xa.length=1 by omega,show xa.length+1+1 - xa.length=2 by omega]
 refine Qa pl (by simp) ?_
 simp (disch:=omega) [e0,e2,e3,e5,e8,i1,z00,hM,hB,ih7,g1,sp,hbs',hbs2]
 refine ⟨by omega,by omega,by omega,?_⟩
 refine Qm IH ?_
 rintro r H1 hr
 obtain ⟨ws,e',bb,rfl,w4,hO,post⟩:=A2.tail hns hr
 simp (disch:=omega) [e0,e8,hO,w4,List.take_of_length_le,List.drop_of_length_le]
 exact post _ (by simp [e8]) (by simp) (by simp) (by simp)
theorem ZeX {r:LR} {f:Nat->List PC->GTerm->List Nat->LR} (h:r.bind f≠.stuck):r≠.stuck:=by
 rintro rfl
 exact h rfl
theorem vals:eqB 1 0=false∧eqB 1 1=true∧eqB 4 0=false∧eqB 4 1=false∧eqB 4 4=true∧eqB 6 0=false∧eqB 6 1=false∧eqB 6 4=false∧eqB 6 6=true∧eqB 7 0=false∧eqB 7 1=false∧eqB 7 4=false∧eqB 7 6=false∧eqB 7 7=true∧eqB 9 0=false∧eqB 9 1=false∧eqB 9 4=false∧eqB 9 6=false∧eqB 9 7=false∧eqB 9 9=true∧eqB 11 0=false∧eqB 11 1=false∧eqB 11 4=false∧eqB 11 6=false∧eqB 11 7=false∧eqB 11 9=false∧eqB 11 11=true:=by decide
theorem look3_ok {s:GSys} (hs:s.sys=true) (sw:s.wf):∀ d,LkIH s d:=by
 have ts:=GSys.sys_of hs
 intro d
 induction d with
 | zero=>intro l σ t env q nl h hbs M h1 h2;omega
 | succ d ih =>
  intro l σ t env q nl h hbs M hd hl m bd be hm hq hns
  have hex:=KJ.ex m hns (fun l' σ' v e he=>(Kw ts _ _ _ _ _ _ _ _ _ _ he bd be).2.2.1)
  refine QE.of_codeOf ZmX Qx (by simp) hex ?_
  obtain ⟨op,n,nl1,ty,nl2,ks⟩:=t
  show wpC _ (.seq _ (.seq _ (.seq _ _))) _ _
  rw [XA,XA]
  refine ZcZ (fun t' H=>l < 3000∧∃ O,t' 0=.ptr M 0∧t' 2=L nl (Z4 env)∧t' 3=N q∧t' 5=.rp [N op,N n,L nl1 ty,.sl false nl2 4 (Q9 ks)]∧t' 8=.ptr O 0∧RkN s M h H (l+1) σ hbs hbs O) ?_ ?_
  ·obtain ⟨cs,hb,hc1,hc2,hc3,m1⟩:=m.tick (l+1)
   have lM:=m.lM
   have ga:∀ k:List Box,(h++k)[M]?=h[M]?:=fun k=>Q7 lM
   have gs:∀ (k:List Box) (x:Box),(h++k).set M x=h.set M x++k:=fun k x=>List.set_append_left _ _ lM
   have m2:=m1.app [none,some [N 0,N 0,.sl true true 1 [],.sl true true 1 []]]
   have f2:=((Fr.refl M hbs h).setM (some (s.cells++[cs,N (l+1:Nat)]))).appR [none,some [N 0,N 0,.sl true true 1 [],.sl true true 1 []]]
   have hni:h.length+1 ∉ hbs:=fun hi=>by have:=m.lt _ hi;omega
   have hne:h.length+1≠M:=by omega
   have s1:∀ x:Box,(h.set M x)[M]?=some x:=fun x=>List.getElem?_set_self lM
   have s1a:∀ (x:Box) (k:List Box),(h.set M x++k)[M]?=some x:=fun x k=>by rw [Q7 (by rw [List.length_set];exact lM)];exact s1 x
   have gl:∀ (x:Box) (k:List Box),(h.set M x++none::k)[h.length+1]?=k[0]?:=fun x k=>by rw [List.getElem?_append_right (by simp)];simp
   have gls:∀ (x:Box) (a:Box) (k:List Box) (y:Box),(h.set M x++[a,y]).set (h.length+1)=fun z=>h.set M x++[a,z]:=fun x a k y=>by funext z;rw [List.set_append_right _ _ (by simp)];simp
   simp only [GSys.cells,List.cons_append,List.nil_append] at hb m2 f2
   have ec:((l+1:Nat):Int)=(l:Int)+1:=by omega
   rw [ec] at m2 f2
   clear lM
   by_cases h3:3000<=l
   ·have hb3:ltB 3000 ((l:Int)+1)=true:=by rw [Qf];omega
    rw [Q5,if_pos h3]
    simp (disch:=omega) [WY,ga,gs,QN,XG,hb,Qt,Qo,Qg,hb3,s1a,gl]
    exact Zbd f2 (by omega) (by simp) (by simp) (by simp) ⟨_,_,_,_,rfl⟩
   ·have hb3:ltB 3000 ((l:Int)+1)=false:=by rw [Qd];omega
    simp (disch:=omega) [WY,ga,gs,QN,XG,hb,Qt,Qo,Qg,hb3,s1a,gl]
    exact ⟨by omega,rfl,m2,f2,fun i hi=>.inl hi,by omega,by simp,hne,hni,by rw [gl];rfl⟩
  ·rintro t' H hf ⟨h3,O,e0,e2,e3,e5,e8,A⟩
   clear hf
   have hD:Q5 s (d+1) l σ (.mk op n nl1 ty nl2 ks) env q=XJ s (Q5 s d) (l+1) σ (.mk op n nl1 ty nl2 ks) env q:=by rw [Q5,if_neg (by omega)]
   rw [hD] at hns ⊢
   clear hD
   have bd1:BD s (l+1) σ:=bd.up (by omega)
   have be1:BE (l+1) σ env:=be.up (by omega) (Nat.le_refl _)
   have hop:op=0∨op=2∨op=3∨op=10∨op=5∨op=8∨op=12∨(op=1∨op=4∨op=6∨op=7∨op=9∨op=11):=by
    unfold XJ GTerm.opc at hns
    repeat' split at hns
    all_goals simp_all
   have hgo:∀ {k:GTerm} {r:Int} {l1:Nat} {σ1:List PC} {v:GTerm} {e1:List Nat},Q5 s d (l+1) σ k env r=.ok l1 σ1 v e1->3000 < l1+d∧l1<=3000∧BD s l1 σ1∧BE l1 σ1 env∧BE l1 σ1 e1∧σ1.length<=2 * l1+6∧(env.length<=2 * l1+6∧e1.length<=2 * l1+6):=by
    intro k r l1 σ1 v e1 hL
    obtain ⟨a1,a2,a3,a4,a5,a6,a7⟩:=Kw ts _ _ _ _ _ _ _ _ _ _ hL bd1 be1
    have:=be.1
    exact ⟨by omega,a2,a5,be1.up (by omega) a3,⟨by omega,a7⟩,by omega,by omega,a6⟩
   have hasG:∀ {a:Int},s.has a=true->s.G a:=fun h=>by
    simp [GSys.has] at h
    exact ⟨h.1,h.2⟩
   rcases hop with rfl | rfl | rfl | rfl | rfl | rfl | rfl | hop
   ·by_cases c0:0<=n∧n.toNat < env.length
    ·cases hc:σ[env.getD n.toNat 0]? with
     | none=>exact absurd (by simp only [XJ,GTerm.opc,GTerm.num,if_true,if_pos c0,hc]) hns
     | some c =>
      have hS:XJ s (Q5 s d) (l+1) σ (.mk 0 n nl1 ty nl2 ks) env q=Q5 s d (l+1) (σ.set (env.getD n.toNat 0) { c with k:=s.pl c.k q }) c.t c.e q:=by simp only [XJ,GTerm.opc,GTerm.num,if_true,if_pos c0,hc]
      rw [hS] at hns ⊢
      exact ZsT hs ih (by omega) (by omega) A bd1 be1 (by omega) hq e0 e2 e3 e5 e8 c0 hc hns
    ·refine absurd ?_ hns
     simp only [XJ,GTerm.opc,GTerm.num,if_true]
     exact if_neg c0
   ·rw [ZnD] at hns ⊢
    by_cases hk:ks.length=2
    ·rw [if_pos hk] at hns ⊢
     obtain ⟨a,b,rfl⟩:=ZiQ hk
     refine ZaU hs sw ih (by omega) (by omega) A bd1 be1 (by omega) hq e0 e2 e3 e5 e8 (by omega) (by simp) (q':=q) (by simp [XH,eqB]) (by simp [XH,eqB]) rfl (ZeX hns) ?_
     intro l1 σ1 v e1 hbs' t1 H1 hL S
     simp only [hL,LR.bind] at hns
     obtain ⟨b1,b2,b3,b4,b5,b6,b7⟩:=hgo hL
     by_cases hv:0<=v.num∧v.num<=2
     ·rw [if_pos hv] at hns ⊢
      exact Ztr hs ih b1 b2 b3 b4 b5 b6 b7 hq hq S hv hns
     ·rw [if_neg hv] at hns;exact absurd rfl hns
    ·rw [if_neg hk] at hns;exact absurd rfl hns
   ·rw [ZpF] at hns ⊢
    by_cases hk:ks.length=3
    ·rw [if_pos hk] at hns ⊢
     obtain ⟨a,b,c,rfl⟩:=Zpf hk
     refine ZaU hs sw ih (by omega) (by omega) A bd1 be1 (by omega) hq e0 e2 e3 e5 e8 (by omega) (by simp) (q':=q) (by simp [XH,eqB]) (by simp [XH,eqB]) rfl (ZeX hns) ?_
     intro l1 σ1 v e1 hbs' t1 H1 hL S
     simp only [hL,LR.bind] at hns
     obtain ⟨b1,b2,b3,b4,b5,b6,b7⟩:=hgo hL
     exact look3_if hs ih b1 b2 b3 b4 b5 b6 b7 hq hq S hns
    ·rw [if_neg hk] at hns;exact absurd rfl hns
   ·rw [Znq] at hns ⊢
    by_cases hk:ks.length=2
    ·rw [if_pos hk] at hns ⊢
     obtain ⟨a,b,rfl⟩:=ZiQ hk
     refine ZaU hs sw ih (by omega) (by omega) A bd1 be1 (by omega) hq e0 e2 e3 e5 e8 (by omega) (by simp) (q':=q) (by simp [XH,eqB]) (by simp [XH,eqB]) rfl (ZeX hns) ?_
     intro l1 σ1 v e1 hbs' t1 H1 hL S
     simp only [hL,LR.bind] at hns
     obtain ⟨b1,b2,b3,b4,b5,b6,b7⟩:=hgo hL
     by_cases hv:v.kidn=1∧s.has v.num=true
     ·rw [if_pos hv] at hns ⊢
      exact Ztu hs ih b1 b2 b3 b4 b5 b6 b7 hq hq S hv hns
     ·rw [if_neg hv] at hns;exact absurd rfl hns
    ·rw [if_neg hk] at hns;exact absurd rfl hns
   ·rw [Zil] at hns ⊢
    by_cases hk:ks.length=2∧s.has n=true
    ·rw [if_pos hk] at hns ⊢
     obtain ⟨a,b,rfl⟩:=ZiQ hk.1
     refine ZaU hs sw ih (by omega) (by omega) A bd1 be1 (by omega) hq e0 e2 e3 e5 e8 (by omega) (by simp) (q':=s.tm q n) (by simp [XH,eqB]) (fun _=>hasG hk.2) rfl (ZeX hns) ?_
     intro l1 σ1 v e1 hbs' t1 H1 hL S
     simp only [hL,LR.bind] at hns
     obtain ⟨b1,b2,b3,b4,b5,b6,b7⟩:=hgo hL
     by_cases hv:v.kidn=2
     ·rw [if_pos hv] at hns ⊢
      exact Zp8 hs ih b1 b2 b3 b4 b5 b6 b7 hq (GSys.Gtm ts q n) S hv hns
     ·rw [if_neg hv] at hns;exact absurd rfl hns
    ·rw [if_neg hk] at hns;exact absurd rfl hns
   ·rw [Zld] at hns ⊢
    by_cases hk:ks.length=3∧s.has n=true
    ·rw [if_pos hk] at hns ⊢
     obtain ⟨a,b,c,rfl⟩:=Zpf hk.1
     refine ZaU hs sw ih (by omega) (by omega) A bd1 be1 (by omega) hq e0 e2 e3 e5 e8 (by omega) (by simp) (q':=s.tm q n) (by simp [XH,eqB]) (fun _=>hasG hk.2) rfl (ZeX hns) ?_
     intro l1 σ1 v e1 hbs' t1 H1 hL S
     simp only [hL,LR.bind] at hns
     obtain ⟨b1,b2,b3,b4,b5,b6,b7⟩:=hgo hL
     by_cases hv:v.kidn=1∧(v.opc=6∨v.opc=7)
     ·rw [if_pos hv] at hns ⊢
      by_cases h7:v.opc=7
      ·rw [if_pos h7] at hns ⊢
       exact ZpT hs ih b1 b2 b3 b4 b5 b6 b7 hq (GSys.Gtm ts q n) S ⟨hv.1,h7⟩ hns
      ·rw [if_neg h7] at hns ⊢
       exact Zqe hs ih b1 b2 b3 b4 b5 b6 b7 hq (GSys.Gtm ts q n) S ⟨hv.1,by omega⟩ hns
     ·rw [if_neg hv] at hns;exact absurd rfl hns
    ·rw [if_neg hk] at hns;exact absurd rfl hns
   ·rw [ZjG] at hns ⊢
    by_cases hk:ks.length=2∧s.has n=true
    ·rw [if_pos hk] at hns ⊢
     obtain ⟨a,b,rfl⟩:=ZiQ hk.1
     refine ZaU hs sw ih (by omega) (by omega) A bd1 be1 (by omega) hq e0 e2 e3 e5 e8 (by omega) (by simp) (q':=s.tm q n) (by simp [XH,eqB]) (fun _=>hasG hk.2) rfl (ZeX hns) ?_
     intro l1 σ1 v e1 hbs' t1 H1 hL S
     simp only [hL,LR.bind] at hns
     obtain ⟨b1,b2,b3,b4,b5,b6,b7⟩:=hgo hL
     by_cases hv:v.kidn=1∧s.has v.num=true
     ·rw [if_pos hv] at hns ⊢
      exact ZrQ hs ih b1 b2 b3 b4 b5 b6 b7 hq (GSys.Gtm ts q n) S hv hns
     ·rw [if_neg hv] at hns;exact absurd rfl hns
    ·rw [if_neg hk] at hns;exact absurd rfl hns
   ·have hS:XJ s (Q5 s d) (l+1) σ (.mk op n nl1 ty nl2 ks) env q=.ok (l+1) σ (.mk op n nl1 ty nl2 ks) env:=by
     rcases hop with rfl | rfl | rfl | rfl | rfl | rfl<;>simp [XJ,GTerm.opc]
    rw [hS]
    have hO:=A.box
    show wpC Tryz.prog (.seq _ _) _ _
    rcases hop with rfl | rfl | rfl | rfl | rfl | rfl
    all_goals
     simp (disch:=omega) [e0,e2,e3,e5,e8,hO,vals]
     exact A.val (u:=false) (nl:=nl) (.inl rfl) (by simp [e8]) (by simp) (by simp) (by simp [GTerm.cells])
def ZnS (s:GSys) (M:Nat) (h:List Box) (hbs:List Nat) (res:TTold) (r:LV) (h':List Box):Prop:=match res with
 | .stuck=>True
 | .fail=>Fr M hbs h h'∧∃ a b x y,r=.tup [.agg [a,b,x,y],B false]
 | .ok l σ v=>∃ hbs',(∀ i∈hbs',i∈hbs∨h.length<=i)∧RS s M hbs' h' l σ∧Fr M hbs h h'∧∃ z,r=.tup [z,B true]∧isTF v z∧Low 0 z
theorem ZnS.ex {s:GSys} {M:Nat} {h:List Box} {l:Nat} {σ:List PC} {hbs:List Nat} (m:RS s M hbs h l σ) {res:TTold} (hs:res≠.stuck) (hl:∀ l' σ' v,res=.ok l' σ' v->σ.length<=σ'.length∧v.fl):∃ r h',ZnS s M h hbs res r h':=by
 cases res with
 | stuck=>exact absurd rfl hs
 | fail=>exact ⟨.tup [.agg [N 0,N 0,N 0,N 0],B false],h,Fr.refl _ _ _,⟨_,_,_,_,rfl⟩⟩
 | ok l' σ' v =>
  obtain ⟨hbs',h',h1,h2,h3⟩:=m.ex l' σ' (hl _ _ _ rfl).1
  exact ⟨_,h',hbs',h3,h1,h2,.agg v.cells,rfl,⟨v,_,rfl,by simp,rfl,(hl _ _ _ rfl).2⟩,by simp⟩
theorem ZkI {O m:Nat} {vs:List LV} {R:LV->List Box->Prop} {e:Exit} {s:St} {b:Bool} (he:e=.normal∨e=.ret) (h8:s.t 8=.ptr O 0) (h9:s.t 9=B b) (hb:s.h[O]?=some (some vs)) (h4:vs.length=4) (hm:m<=s.h.length) (hR:R (.tup [.agg vs,B b]) (s.h.set O (some (shareAll vs)))) :
  KZ [.cell 8 true 4,.tmp 9] m R e s:=by
 refine ⟨he,[.agg vs,B b],⟨upd s.t 9 (B b),s.h.set O (some (shareAll vs))⟩,(s.h.set O (some (shareAll vs))).length,?_,by rw [List.length_set];exact hm,Nat.le_refl _,.inl rfl,?_⟩
 ·simp [Ys,Zg9,h8,hb,h4,Wp,h9]
 ·rw [List.take_of_length_le (Nat.le_refl _)];exact hR
section
variable {s:GSys} {M:Nat} {h H H1:List Box} {l l1:Nat} {σ σ1:List PC} {h0 hbs:List Nat} {O:Nat} {r:LV} {v:GTerm}
theorem Zj2 {st:St} {R:LV->List Box->Prop} (f:Fr M h0 h H) (o1:h.length<=O) (o2:O < H.length) (hR:∀ r h',Fr M h0 h h'->(∃ a b x y,r=.tup [.agg [a,b,x,y],B false])->R r h') (h8:st.t 8=.ptr O 0) (h9:st.t 9=B false) (hh:∃ a b x y,st.h=H.set O (some [a,b,x,y])):KZ [.cell 8 true 4,.tmp 9] h.length R .ret st:=by
 obtain ⟨a,b,x,y,hh⟩:=hh
 have l0:=f.len
 refine ZkI (.inr rfl) h8 h9 (by rw [hh,List.getElem?_set_self (by omega)]) rfl (by rw [hh,List.length_set];omega) ?_
 rw [hh,List.set_set]
 exact hR _ _ (f.set o1 _) ⟨_,_,_,_,rfl⟩
theorem RkN.setP (A:RkN s M h H l σ h0 hbs O) {P:Nat} (h1:P≠M) (h2:P ∉ hbs) (h3:P≠O) (h4:h.length<=P) (x:Box):RkN s M h (H.set P x) l σ h0 hbs O :=
 ⟨A.ms.set h1 h2 x,A.fr.set h4 x,A.hn,A.o1,by rw [List.length_set];exact A.o2,A.o3,A.o4,by rw [List.getElem?_set_ne h3];exact A.box⟩
theorem RkN.nextT (A:RkN s M h H l σ h0 hbs O) (hr:ZnS s M H hbs (.ok l1 σ1 v) r H1):Fr M hbs H H1∧(∃ z,r=.tup [z,B true]∧isTF v z∧Low 0 z)∧∃ hbs',RkN s M h H1 l1 σ1 h0 hbs' O∧∀ P,P < H.length->P ∉ hbs->P ∉ hbs':=by
 obtain ⟨hbs',h1,h2,h3,h4⟩:=hr
 refine ⟨h3,h4,hbs',A.step h1 h2 h3,fun P hP hn hi=>?_⟩
 rcases h1 P hi with hi | hi
 ·exact hn hi
 ·omega
end
def TellZS (s:GSys) (M:Nat) (h:List Box) (hbs:List Nat) (res:TTold) (r:LV) (h':List Box):Prop:=∃ r',nz r'=nz r∧ZnS s M h hbs res r' h'
def KOkR (s:GSys) (M:Nat) (h:List Box) (h0:List Nat) (O P:Nat) (l1:Nat) (σ1:List PC) (op n:Int) (ty:LV) (f:Nat->List PC->GTerm->TTold) (ks:List GTerm) (R:KTold) (i:Nat) (h':List Box):Prop :=
 P < h'.length∧∃ hbs l' σ' acc kx,RkN s M h h' l' σ' h0 hbs O∧P ∉ hbs∧h'[P]?=some (some [N op,N n,ty,kx])∧ZeA acc kx∧acc.length=i∧LE s l1 σ1 l' σ'∧X7 f (ks.drop i) l' σ' acc=R
def TkAtR (s:GSys) (M:Nat) (h:List Box) (h0:List Nat) (l1:Nat) (σ1:List PC) (op n:Int) (ty:List Int) (e1:List Nat) (q':Int) (f:Nat->List PC->GTerm->TTold) (ks:List GTerm) (R:KTold) (t0:Nat->LV) (H0:List Box):Prop :=
 ∃ (u1 nl3:Bool) (vx vy Y:LV) (P:Nat),t0 0=.ptr M 0∧t0 14=N q'∧t0 8=.ptr (h.length+1) 0∧t0 10=.rp [N op,N n,vx,vy]∧share vy=Y∧share Y=Y∧Zbg Y=some ks.length ∧
  (∀ (i:Nat) (hi:i < ks.length),QP 4 Y (i:Int)=some (.rp (ks[i]).cells))∧t0 11=OU u1 nl3 (Z4 e1)∧t0 13=.ptr P 0∧P≠M∧P≠h.length+1∧h.length<=P ∧
  KOkR s M h h0 (h.length+1) P l1 σ1 op n (OU true false ty) f ks R 0 H0
theorem tell3_ok {s:GSys} (hs:s.sys=true) (sw:s.wf):∀ (d l:Nat) (σ:List PC) (t:GTerm) (env:List Nat) (q:Int) (nl:Bool) (h:List Box) (hbs:List Nat) (M:Nat),3000 < l+d->l<=3000->RS s M hbs h l σ->BD s l σ->BE l σ env->σ.length<=2 * l+8->s.G q->Xg s d l σ t env q≠.stuck ->
  QE Tryz.prog VR [.ptr M 0,t.lv,L nl (Z4 env),N q] h (ZnS s M h hbs (Xg s d l σ t env q)):=by
 have ts:=GSys.sys_of hs
 intro d
 induction d with
 | zero=>intro l σ t env q nl h hbs M h1 h2;omega
 | succ d ih =>
  intro l σ t env q nl h hbs M hd hl m bd be hm hq hns
  have hex:=ZnS.ex m hns (fun l' σ' v he=>by
   obtain ⟨a,b⟩:=ZcO ts _ _ _ _ _ _ _ _ _ he bd be
   exact ⟨a.len,b⟩)
  have hex':∃ (r:LV) (h':List Box),TellZS s M h hbs (Xg s (d+1) l σ t env q) r h':=by
   obtain ⟨r,h',hr⟩:=hex
   exact ⟨r,h',r,rfl,hr⟩
  refine QE.nzR (R:=TellZS s M h hbs (Xg s (d+1) l σ t env q)) ?_ (fun r h' hr=>hr)
  refine QE.of_codeOf Zl0 Qx (by simp) hex' ?_
  have lM:=m.lM
  have hO1:h.length+1≠M:=by omega
  have hO2:h.length+1 ∉ hbs:=fun hi=>by have:=m.lt _ hi;omega
  have A0:RkN s M h (h++[none,some [N 0,N 0,.sl true true 1 [],.sl true true 1 []]]) l σ hbs hbs (h.length+1) :=
   ⟨m.app _,Fr.app M hbs h _,fun i hi=>.inl hi,by omega,by simp,hO1,hO2,by rw [XG];rfl⟩
  rw [Xg] at hns ⊢
  have hnsL:Q5 s (d+1) l σ t env q≠.stuck:=fun e=>hns (by rw [e])
  have LK:=look3_ok hs sw (d+1) l σ t env q nl _ hbs M (by omega) hl A0.ms bd be hm hq hnsL
  clear lM
  cases hL:Q5 s (d+1) l σ t env q with
  | stuck=>exact absurd hL hnsL
  | fail =>
   rw [hL] at LK
   simp only
   simp (disch:=omega) [Zb7,QN,XG,Qt,Qo]
   refine Qm LK ?_
   rintro r H1 hr
   obtain ⟨fr1,oH1,hO,a,b,x,y,e,rfl⟩:=A0.fails hr
   have fO:∀ k:List Box,(H1++k)[h.length+1]?=some (some [N 0,N 0,.sl true true 1 [],.sl true true 1 []]):=fun k=>by rw [Q7 oH1];exact hO
   have fL:∀ _:Unit,h.length+1 < (H1++[none]).length:=fun _=>by simp;omega
   clear oH1
   simp (disch:=omega) [QN,Qo,fO]
   refine Zj2 (fr1.appR [none]) (by omega) (fL ()) (fun r h' b c=>⟨r,rfl,b,c⟩) ?_ ?_ ?_
   ·simp
   ·simp
   ·exact ⟨_,_,_,_,rfl⟩
  | ok l1 σ1 v1 e1 =>
   rw [hL] at LK hns
   obtain ⟨op,n,nl1,ty,nl2,ks⟩:=v1
   simp only at hns ⊢
   have hok:okV s op n nl1 ty ks.length=true:=by
    cases hv:okV s op n nl1 ty ks.length with
    | true=>rfl
    | false=>rw [hv] at hns;exact absurd rfl hns
   rw [hok] at hns ⊢
   have e00:¬ (true=false):=by simp
   rw [if_neg e00] at hns ⊢
   obtain ⟨g11,k3,t40,fl1⟩:=Zq4 hok
   obtain ⟨a1,a2,a3,a4,a5,a6,a7⟩:=Kw ts _ _ _ _ _ _ _ _ _ _ hL bd be
   have gq:s.G (if op=11 then s.tm q n else q):=by split;exact GSys.Gtm ts q n;exact hq
   have hq11:op=11->(if op=11 then s.tm q n else q)=s.tm q n:=fun e=>if_pos e
   have hqn:¬ op=11->(if op=11 then s.tm q n else q)=q:=fun e=>if_neg e
   generalize (if op=11 then s.tm q n else q)=q' at *
   generalize hR:X7 (fun l σ k=>Xg s d l σ k e1 q') ks l1 σ1 []=R at hns ⊢
   have hRs:R≠.stuck:=by rintro rfl;exact hns rfl
   simp only [Zb7]
   rw [XA,XA,XA,XA,XA]
   refine ZcZ (TkAtR s M h hbs l1 σ1 op n ty e1 q' (fun l σ k=>Xg s d l σ k e1 q') ks R) ?_ ?_
   ·simp (disch:=omega) [QN,XG,Qt,Qo]
    refine Qm LK ?_
    rintro r H1 hr
    obtain ⟨hb1,u1,nl3,vs,hv1,rfl,A1⟩:=A0.next hr
    obtain ⟨vx,vy,Y,rfl,hx,hy,hY,hlen,hidx⟩:=hv1.parts
    have A2:=A1.app [none]
    have CL:=KF nl1 ty (by omega)
    simp (disch:=omega) [QN,Qo,hx,hy]
    refine Qa CL (by simp) ?_
    have hP1:H1.length+1≠M:=by have:=A1.ms.lM;omega
    have hP2:H1.length+1 ∉ hb1:=fun hi=>by have:=A1.ms.lt _ hi;omega
    have hP3:H1.length+1≠h.length+1:=by have:=A1.o2;omega
    have hP4:h.length<=H1.length+1:=by have:=A1.fr.len;omega
    have A3:=A1.app [none,some [N op,N n,OU true false ty,.sl true true 1 []]]
    have J0:KOkR s M h hbs (h.length+1) (H1.length+1) l1 σ1 op n (OU true false ty) (fun l σ k=>Xg s d l σ k e1 q') ks R 0 (H1++[none,some [N op,N n,OU true false ty,.sl true true 1 []]]) :=
     ⟨by simp,hb1,l1,σ1,[],_,A3,hP2,by rw [XG];rfl,ZeA.nil,rfl,⟨Nat.le_refl _,a2,Nat.le_refl _,by omega,a5⟩,by rw [List.drop_zero];exact hR⟩
    have tm:=KW ts hq (b:=n)
    obtain ⟨cs3,hb3,hc1,hc2,_,_⟩:=A3.ms.tick l1
    simp only [GSys.cells,List.cons_append,List.nil_append] at hb3
    by_cases h11:op=11
    ·have z11:eqB op 11=true:=by rw [Qc];exact h11
     have e11:=hq11 h11
     simp (disch:=omega) [QN,Qo,hb3,hx,hy,z11]
     refine Qa (tm (g11 h11)) (by simp) ?_
     simp (disch:=omega) [QN,Qo,hb3,hx,hy,hY]
     exact ⟨u1,nl3,vx,vy,Y,H1.length+1,by simp,by simp [e11],by simp,by simp,hy,hY,hlen,hidx,by simp,by simp,hP1,hP3,hP4,J0⟩
    ·have z11:eqB op 11=false:=by rw [Qb];exact h11
     have e11:=hqn h11
     simp (disch:=omega) [QN,Qo,hb3,hx,hy,hY,z11]
     exact ⟨u1,nl3,vx,vy,Y,H1.length+1,by simp,by simp [e11],by simp,by simp,hy,hY,hlen,hidx,by simp,by simp,hP1,hP3,hP4,J0⟩
   ·rintro t0 H0 hf ⟨u1,nl3,vx,vy,Y,P,e0,e14,e8,e10,hy,hY,hlen,hidx,e11,e13,p1,p2,p3,J0⟩
    clear hf
    simp (disch:=omega) [e0,e14,e8,e10,e11,e13,hy,hY,hlen]
    generalize hTY:OU true false ty=TY at *
    refine WS ks.length 0 (fun i t h'=>t 15=N i∧KOkR s M h hbs (h.length+1) P l1 σ1 op n TY (fun l σ k=>Xg s d l σ k e1 q') ks R i h')
     (fun t h'=>KOkR s M h hbs (h.length+1) P l1 σ1 op n TY (fun l σ k=>Xg s d l σ k e1 q') ks R ks.length h') ⟨by simp,J0⟩ (Nat.zero_le _) ?_ ?_
    ·rintro i t1 h1' hf hi ⟨e15,hJ⟩
     have f0:=hf 0 (by kernel_rfl);have f14:=hf 14 (by kernel_rfl);have f8:=hf 8 (by kernel_rfl);have f10:=hf 10 (by kernel_rfl);have f11:=hf 11 (by kernel_rfl);have f13:=hf 13 (by kernel_rfl)
     clear hf
     simp [e0,e14,e8,e10,e11,e13] at f0 f14 f8 f10 f11 f13
     by_cases h6:i < ks.length
     ·have hb:ltB (i:Int) ks.length=true:=by rw [Qf];omega
      have ix:=hidx i h6
      obtain ⟨P1,hb2,l',σ',acc,kx,A,Pn,bP,kc,ka,le,tk⟩:=hJ
      have pA:∀ k:List Box,(h1'++k)[P]?=some (some [N op,N n,TY,kx]):=fun k=>by rw [Q7 P1];exact bP
      have pB:∀ (k:List Box) (x:Box),(h1'++k).set P x=h1'.set P x++k:=fun k x=>List.set_append_left _ _ P1
      have kal:kx.alive=true:=by
       obtain ⟨a,b,c,d,rfl,_⟩:=kc;rfl
      have hd:ks.drop i=ks[i]::ks.drop (i+1):=List.drop_eq_getElem_cons h6
      rw [hd,X7] at tk
      have bk:BE l' σ' e1:=⟨by have:=le.le;omega,fun j hj=>by have:=a7 j hj;have:=le.len;omega⟩
      have hnk:Xg s d l' σ' ks[i] e1 q'≠.stuck:=by
       intro e;rw [e] at tk;exact hRs tk.symm
      have hmany:σ'.length<=2 * l'+8:=by have:=le.many;omega
      have P1':∀ _:Unit,P < h1'.length:=fun _=>P1
      clear P1
      simp (disch:=omega) [f0,f14,f8,f10,f11,f13,e15,hb,ix,hy,hY,hlen,QN,Qo,Zu,pA,pB,kal]
      have IH1:=ih l' σ' ks[i] e1 q' nl3 h1' hb2 M (by have:=le.le;omega) le.top A.ms le.bd bk hmany gq hnk
      refine Qm IH1 ?_
      rintro r H2 hr
      cases hT:Xg s d l' σ' ks[i] e1 q' with
      | stuck=>exact absurd hT hnk
      | fail =>
       rw [hT] at hr tk
       obtain ⟨fr2,a,b,x,y,rfl⟩:=hr
       simp only at tk
       subst tk
       have P1h:=P1' ()
       have fr3:=(A.fr.transH fr2 A.hn).appR [none]
       have O2:=A.o2
       have oH2:h.length+1 < H2.length:=by have:=fr2.len;omega
       have hO2:H2[h.length+1]?=some (some [N 0,N 0,.sl true true 1 [],.sl true true 1 []]):=by rw [fr2.same _ A.o2 A.o3 A.o4];exact A.box
       have fO:∀ k:List Box,(H2++k)[h.length+1]?=some (some [N 0,N 0,.sl true true 1 [],.sl true true 1 []]):=fun k=>by rw [Q7 oH2];exact hO2
       have fL:∀ _:Unit,h.length+1 < (H2++[none]).length:=fun _=>by simp;omega
       clear oH2 P1h O2
       simp (disch:=omega) [f8,QN,Qo,fO]
       refine Zj2 fr3 (by omega) (fL ()) (fun r h' b c=>⟨r,rfl,b,c⟩) ?_ ?_ ?_
       ·simp [f8]
       ·simp
       ·exact ⟨_,_,_,_,rfl⟩
      | ok l2 σ2 v =>
       rw [hT] at hr tk
       simp only at tk
       obtain ⟨fr2,⟨z,rfl,tv,lo⟩,hb4,A2,hP2⟩:=A.nextT hr
       obtain ⟨w,cs,rfl,csh,wn,wf⟩:=tv
       obtain ⟨cs',x',hcs,c4,ap1,ap2,kc'⟩:=kc.snoc (v:=v) (r:=.agg w.cells) ⟨w,w.cells,rfl,by obtain ⟨op',n',nl1',ty',nl2',ks'⟩:=w;simp,wn,wf⟩ (by simp) (by omega)
       obtain rfl:w.cells=cs':=by simpa using hcs
       have c40:cs.length=4:=by rw [<- We,csh];exact c4
       have P1h:=P1' ()
       have hP:H2[P]?=some (some [N op,N n,TY,kx]):=by rw [fr2.same P P1h p1 Pn];exact bP
       have P2:∀ _:Unit,P < H2.length:=fun _=>by have:=fr2.len;omega
       have hPa:∀ k:List Box,(H2++k)[P]?=some (some [N op,N n,TY,kx]):=fun k=>by rw [Q7 (P2 ())];exact hP
       have hPb:∀ (k:List Box) (x:Box),(H2++k).set P x=H2.set P x++k:=fun k x=>List.set_append_left _ _ (P2 ())
       have hPs:∀ (x:Box) (k:List Box),(H2.set P x++k)[P]?=some x:=fun x k=>by rw [Q7 (by rw [List.length_set];exact P2 ())];exact List.getElem?_set_self (P2 ())
       clear P1h
       simp (disch:=omega) [hP,hPa,hPb,hPs,f13,QN,Qo,Zu,Qn,kal,csh,ap1,ap2,c4,c40,List.take_of_length_le,List.drop_of_length_le,e15,Qg]
       obtain ⟨xf1,xf2,xf3⟩:=kc'.form
       have Pn2:=hP2 P (P1' ()) Pn
       rw [xf2]
       refine ⟨⟨xf1,rfl⟩,h6,?_,hb4,l2,σ2,acc++[v],x',((A2.setP p1 Pn2 p2 p3 _).app [none]).setP p1 Pn2 p2 p3 _,Pn2,?_,kc',by simp [ka],le.trans (ZcO ts _ _ _ _ _ _ _ _ _ hT le.bd bk).1,tk⟩
       ·have:=P2 ();simp;omega
       ·rw [List.getElem?_set_self (by have:=P2 ();simp;omega)];rfl
     ·have hb:ltB (i:Int) ks.length=false:=by rw [Qd];omega
      simp (disch:=omega) [f10,e15,hy,hY,hlen,hb]
      have:i=ks.length:=by omega
      subst this
      exact hJ
    ·rintro t1 h1' hf ⟨P1,hb2,l',σ',acc,kx,A,Pn,bP,kc,ka,le,tk⟩
     have f8:=hf 8 (by kernel_rfl);have f13:=hf 13 (by kernel_rfl)
     clear hf
     simp [e8,e13] at f8 f13
     rw [List.drop_length] at tk
     simp only [X7] at tk
     subst tk
     obtain ⟨nlk,z,Qj,ws,rfl,hz,hn,hsr,hnm,hfl,hlow,hrl⟩:=kc
     have O2:=A.o2
     have gO:∀ x:Box,(h1'.set P x)[h.length+1]?=some (some [N 0,N 0,.sl true true 1 [],.sl true true 1 []]):=fun x=>by rw [List.getElem?_set_ne p2];exact A.box
     have O2':∀ _:Unit,h.length+1 < h1'.length:=fun _=>O2
     have hTa:TY.alive=true∧share TY=L false ty:=by subst hTY;exact ⟨rfl,by simp⟩
     clear P1 O2
     simp (disch:=omega) [f8,f13,bP,gO,Zu,Qo,hTa,LV.alive]
     have hOs:h.length+1 < (h1'.set P (some [LV.dead,LV.dead,LV.dead,LV.dead])).length:=by rw [List.length_set];exact O2' ()
     have hlo:Low 0 TY:=by subst hTY;simp
     refine ZkI (b:=true) (O:=h.length+1) (vs:=[N op,N n,TY,.sl true nlk z Qj]) (.inr rfl) ?_ ?_ ?_ rfl ?_ ?_
     ·simp [f8]
     ·simp
     ·exact List.getElem?_set_self hOs
     ·have:=O2' ();simp;omega
     ·refine ⟨.tup [.agg [N op,N n,TY,.sl true nlk 4 Qj],B true],?_,hb2,A.hn,?_,?_,_,rfl,⟨.mk op n false ty nlk ws,_,rfl,?_,?_,?_⟩,?_⟩
      ·rcases hz with rfl | hz
       ·rfl
       ·have:=hn hz
        subst this
        subst hz
        simp [nz,YA]
      ·exact ((A.setP p1 Pn p2 p3 _).ms.set hO1 A.o4 _).set hO1 A.o4 _
      ·exact ((A.fr.set p3 _).set (by omega) _).set (by omega) _
      ·simp [GTerm.cells,hTa,hsr]
      ·simp only [GTerm.nm]
       rw [<- Ze6 ws,hnm,Ze6]
      ·simp only [GTerm.fl]
       exact ⟨by simp [flOk],hfl⟩
      ·simp [hlo,hlow]
theorem RS.all {s:GSys} {M:Nat} {hbs:List Nat} {h:List Box} {l:Nat} {σ:List PC} (m:RS s M hbs h l σ):∃ ch,h[M]?=some (some (s.cells++[ch,N l]))∧Zbg (TL.share ch)=some σ.length∧ch.flat=true∧ch.alive=true∧ch.cells=[ch]:=by
 rcases m.main with ⟨z,rfl,rfl,h3⟩ | ⟨b,cap,sl,xs,rfl,h2,h3,h4,h5,h6,h7,h8⟩
 ·exact ⟨_,h3,by simp [Zbg],rfl,rfl,rfl⟩
 ·exact ⟨_,h5,by simp [Zbg,TL.share],rfl,rfl,rfl⟩
theorem valσ_bd {s:GSys} (ts:s.Tab) (vs:List GTerm):BD s 0 (valσ vs):=⟨fun c hc=>by
 obtain ⟨v,_,rfl⟩:=List.mem_map.1 hc
 simp,fun c hc=>by
 obtain ⟨v,_,rfl⟩:=List.mem_map.1 hc
 exact GSys.G0 ts⟩
theorem valσ_be (vs:List GTerm) (hn:vs.length<=8):BE 0 (valσ vs) (List.range vs.length):=⟨by simp;omega,fun j hj=>by simpa [valσ] using hj⟩
theorem valσ_snoc (vs:List GTerm) (v:GTerm):valσ (vs++[v])=valσ vs++[⟨0,0,v,[]⟩]:=by simp [valσ]
theorem Zs0 (i:Nat):Z4 (List.range (i+1))=Z4 (List.range i)++[(i:Int)]:=by simp [Z4,List.range_succ]
structure VOk (s:GSys) (base:List Box) (vs:List GTerm) (i:Nat) (h:List Box):Prop where
 ex:∃ hbs,RS s 3 hbs h 0 (valσ (vs.take i))∧Fr 3 [] base h∧∀ j∈hbs,base.length<=j
theorem l6Run_ok {s:GSys} {g:GTerm} {vs:List GTerm} (hs:s.sys=true) (sw:s.wf) (nlv:Bool) (hn:vs.length<=8) (hns:Xg s 3001 0 (valσ vs) g (List.range vs.length) 1≠.stuck) :
  Qe Tryz.prog ZcN [s.lv,g.lv,.sl false nlv 4 (Q9 vs)] (isEv (evO s g vs)):=by
 refine Qe.of_codeOf ZoW Qx (by simp) (by obtain ⟨r,h1,h2⟩:=ZjA (evO s g vs);exact ⟨r,h1.1,h2⟩) ?_
 have ts:=GSys.sys_of hs
 have g1:s.G 1:=⟨by omega,by have:=ts.lo;omega⟩
 have hmm:WX=1099511627776:=rfl
 simp (disch:=omega) [Zg2,Qt,Qo,GSys.cells]
 generalize hbase:([none,none,some [N 0,N 0,.sl true true 1 [],.sl true true 1 []],some [N s.size,L s.n1 s.plus,L s.n2 s.times,LB s.n3 s.below,.sl true true 1 [],N 0]]:List Box)=base
 have hbl:base.length=4:=by rw [<- hbase];rfl
 have b2:base[2]?=some (some [N 0,N 0,.sl true true 1 [],.sl true true 1 []]):=by rw [<- hbase];rfl
 have m00:RS s 3 [] base 0 []:=⟨by omega,.inl ⟨1,rfl,rfl,by rw [<- hbase];rfl⟩⟩
 refine WS vs.length 0 (fun i t h'=>t 11=N i∧VOk s base vs i h'∧SlI (t 10) (Z4 (List.range i))) (fun t h'=>VOk s base vs vs.length h'∧SlI (t 10) (Z4 (List.range vs.length))) ⟨?_,?_,?_⟩ (Nat.zero_le _) ?_ ?_
 ·simp
 ·exact ⟨[],by simpa [valσ] using m00,Fr.refl _ _ _,by simp⟩
 ·exact ⟨true,false,by simp [Z4,Qn],.inl rfl,.inl (by simp [Z4])⟩
 ·rintro i t1 h1' hf hi ⟨e11,⟨hbs,ms,fr,hb4⟩,un,nl,e10,hu,_⟩
  have f2:=hf 2 (by kernel_rfl);have f9:=hf 9 (by kernel_rfl)
  clear hf
  simp at f2 f9
  by_cases h6:i < vs.length
  ·have hb6:ltB (i:Int) vs.length=true:=by rw [Qf];omega
   have ix:=Wq vs false nlv i h6
   have et:vs.take (i+1)=vs.take i++[vs[i]]:=List.take_succ_eq_append_getElem h6
   have lt:(valσ (vs.take i)).length=i:=by simp [valσ];omega
   have ln:(Z4 (List.range i)).length=i:=by simp
   have NW:=Zbn ms 0 vs[i] [] true (by omega)
   rw [Zs0]
   generalize vs[i]=v at *
   have ap:∀ u:Bool,Wy 1 (OU un nl (Z4 (List.range i))) (.sl u false 1 [[N i]])=some (OU true false (Z4 (List.range i)++[(i:Int)])):=fun u=>by
    simp only [Wy]
    rw [if_pos ⟨by rcases hu with h | h<;>simp [h],.inl trivial,.inl trivial,by simp;omega⟩]
    simp
   generalize Z4 (List.range i)=en at *
   have hi6:∀ _:Unit,i < vs.length:=fun _=>h6
   clear h6
   simp (disch:=omega) [e11,e10,f2,f9,hb6,ix]
   refine Qm NW ?_
   rintro r h2' ⟨hr,hbs',m2,fr2,hb2⟩
   rw [lt] at hr
   subst hr
   have VO:VOk s base vs (i+1) h2':=⟨hbs',by rw [et,valσ_snoc];exact m2,fr.transH fr2 (fun j hj=>.inr (hb4 j hj)),fun j hj=>by
    rcases hb2 j hj with h | h
    ·exact hb4 j h
    ·have:=fr.len;omega⟩
   simp (disch:=omega) [e11,e10,Qn,ap,Qg]
   exact ⟨hi6 (),VO,true,false,rfl,.inl rfl,.inr ⟨rfl,rfl⟩⟩
  ·have hb6:ltB (i:Int) vs.length=false:=by rw [Qd];omega
   simp (disch:=omega) [e11,f2,hb6]
   have:i=vs.length:=by omega
   subst this
   exact ⟨⟨hbs,ms,fr,hb4⟩,un,nl,e10,hu,by assumption⟩
 ·rintro t1 h1' hf ⟨⟨hbs,ms0,fr0,hb4⟩,un,nl,e10,hu,_⟩
  have f2:=hf 2 (by kernel_rfl);have f4:=hf 4 (by kernel_rfl);have f6:=hf 6 (by kernel_rfl);have f9:=hf 9 (by kernel_rfl)
  clear hf
  simp at f2 f4 f6 f9
  rw [List.take_of_length_le (Nat.le_refl _)] at ms0
  have bd:=valσ_bd ts vs
  have be:=valσ_be vs hn
  have T:=tell3_ok hs sw 3001 0 (valσ vs) g (List.range vs.length) 1 nl h1' hbs 3 (by omega) (by omega) ms0 bd be (by simp [valσ];omega) g1 hns
  unfold Yu
  simp (disch:=omega) [e10,f4,f6,f9]
  refine Qm T ?_
  rintro r H1 hr
  unfold evO
  have two:∀ {H:List Box},Fr 3 hbs h1' H->4<=H.length∧H[2]?=some (some [N 0,N 0,.sl true true 1 [],.sl true true 1 []]):=fun {H} fr=>by
   have l1:=fr0.len
   have l2:=fr.len
   refine ⟨by omega,?_⟩
   rw [fr.same 2 (by omega) (by omega) (fun h=>by have:=hb4 2 h;omega),fr0.same 2 (by omega) (by omega) (by simp)]
   exact b2
  cases ht:Xg s 3001 0 (valσ vs) g (List.range vs.length) 1 with
  | stuck=>exact absurd ht hns
  | fail =>
   rw [ht] at hr
   obtain ⟨fr,p,q,y,z,rfl⟩:=hr
   obtain ⟨l4,h22⟩:=two fr
   have g2:∀ k:List Box,(H1++k)[2]?=some (some [N 0,N 0,.sl true true 1 [],.sl true true 1 []]):=fun k=>by rw [Q7 (by omega)];exact h22
   have g2s:∀ (k:List Box) (x:Box),((H1++k).set 2 x)[2]?=some x:=fun k x=>List.getElem?_set_self (by simp;omega)
   clear l4 h22
   simp (disch:=omega) [f6,QN,g2,g2s,Qo]
   exact ⟨_,_,_,rfl⟩
  | ok l σ v =>
   rw [ht] at hr
   obtain ⟨hbs2,h1,ms,fr,z,rfl,tv,lo2⟩:=hr
   obtain ⟨w,cs,rfl,csh,cn,cf⟩:=tv
   obtain ⟨l4,h22⟩:=two fr
   have c4:cs.length=4:=by rw [<- We,csh];simp
   have cal:=VN csh
   have g2:∀ k:List Box,(H1++k)[2]?=some (some [N 0,N 0,.sl true true 1 [],.sl true true 1 []]):=fun k=>by rw [Q7 (by omega)];exact h22
   have g2s:∀ (k:List Box) (x:Box),((H1++k).set 2 x)[2]?=some x:=fun k x=>List.getElem?_set_self (by simp;omega)
   have g2t:∀ (x:Box) (k:List Box),(H1.set 2 x++k)[2]?=some x:=fun x k=>by rw [List.getElem?_append_left (by rw [List.length_set];omega)];exact List.getElem?_set_self (by omega)
   have tl:=(ZcO ts _ _ _ _ _ _ _ _ _ ht bd be).1
   have hσ:vs.length<=σ.length:=by have:=tl.len;simpa [valσ] using this
   clear l4 h22
   simp (disch:=omega) [e10,f2,f6,f9,QN,g2,g2s,g2t,Qo,c4,cal,csh,List.take_of_length_le,List.drop_of_length_le]
   refine WS vs.length 0 (fun i t h'=>h'=H1++[none]∧t 15=N i∧SlI (t 14) ((σ.take i).map PC.k)) (fun t h'=>h'=H1++[none]∧SlI (t 14) ((σ.take vs.length).map PC.k)) ⟨?_,?_,?_⟩ (Nat.zero_le _) ?_ ?_
   ·simp
   ·simp
   ·exact ⟨true,false,by simp [Qn],.inl rfl,.inl rfl⟩
   ·rintro i t2 h2' hf2 hi ⟨rfl,e15,u4,n4,e14,hu4,hu5⟩
    have f2':=hf2 2 (by kernel_rfl);have f9':=hf2 9 (by kernel_rfl)
    clear hf2
    simp [f2,f9] at f2' f9'
    by_cases h6:i < vs.length
    ·have hb6:ltB (i:Int) vs.length=true:=by rw [Qf];omega
     have h6':i < σ.length:=by omega
     have hci:=List.getElem?_eq_getElem h6'
     obtain ⟨b,cap,nlc,xa,xz,hbs1,hbM,hbl2,hM,hB,hlen,hK⟩:=ms.cellAt hci
     have ih7:QP 7 (.ha b 7 0 σ.length cap) (i:Int)=some (.ptr b (i * 7)):=by rw [Zy h6',Nat.zero_add]
     have gc:∀ k:List Box,(H1++k)[b]?=some (some (xa++(ZbV σ[i] nlc++xz))):=fun k=>by rw [Q7 hbl2];exact hB
     have gM:∀ k:List Box,(H1++k)[3]?=some (some [N s.size,L s.n1 s.plus,L s.n2 s.times,LB s.n3 s.below,.ha b 7 0 σ.length cap,N l]):=fun k=>by rw [Q7 ms.lM];exact hM
     have et:σ.take (i+1)=σ.take i++[σ[i]]:=List.take_succ_eq_append_getElem h6'
     have lt:(σ.take i).length=i:=by simp;omega
     rw [et,List.map_append]
     clear hbl2 hK hci hB hM
     generalize σ[i]=c at *
     obtain ⟨cb,ck,⟨cop,ccn,cnl1,cty,cnl2,cks⟩,ce⟩:=c
     simp only [ZbV,GTerm.cells,List.cons_append,List.nil_append] at gc
     have g1:∀ (z:List LV) (k m:Nat),((xa++z).drop (i * 7+k)).take m=(z.drop k).take m:=fun z k m=>get_at hlen k m
     have ap:∀ u:Bool,Wy 1 (OU u4 n4 ((σ.take i).map PC.k)) (.sl u false 1 [[N ck]])=some (OU true false ((σ.take i).map PC.k++[ck])):=fun u=>by
      simp only [Wy]
      rw [if_pos ⟨by rcases hu4 with h | h<;>simp [h],.inl trivial,.inl trivial,by simp;omega⟩]
      simp
     generalize (σ.take i).map PC.k=ki at *
     have hi6:∀ _:Unit,i < vs.length:=fun _=>h6
     clear h6 h6'
     simp (disch:=omega) [e15,e14,f2',f9',gM,hb6,ih7,gc,g1,Qn,ap,Qg]
     exact ⟨by omega,hi6 (),true,false,rfl,.inl rfl,.inr ⟨rfl,rfl⟩⟩
    ·have hb6:ltB (i:Int) vs.length=false:=by rw [Qd];omega
     simp (disch:=omega) [e15,f2',hb6]
     have:i=vs.length:=by omega
     subst this
     exact ⟨u4,n4,by simpa using e14,hu4,by simpa using hu5⟩
   ·rintro t2 h2' hf2 ⟨rfl,u4,n4,e14,hu4,hu5⟩
    have f6':=hf2 6 (by kernel_rfl);have f12':=hf2 12 (by kernel_rfl)
    clear hf2
    simp [f6] at f6' f12'
    have wl:w.cells.length=4:=by rw [<- csh,We,c4]
    have wsh:shareAll w.cells=w.cells:=by
     obtain ⟨op,n,nl1,ty,nl2,ks⟩:=w
     simp
    generalize hbk:(σ.take vs.length).map PC.k=bk at *
    simp (disch:=omega) [f6',f12',e14,g2,g2s,g2t,QN,Qo,c4,cal,csh,wl,wsh,List.take_of_length_le,List.drop_of_length_le]
    rw [<- List.map_take,hbk]
    exact ⟨_,u4,n4,rfl,w,w.cells,rfl,wsh,cn,cf⟩
end Go.Proofs.YtbmepminmpjlcaaGreat