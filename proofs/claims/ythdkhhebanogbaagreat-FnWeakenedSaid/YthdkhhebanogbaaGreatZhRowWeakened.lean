/- Part 8 of the proof of the row of the text YthdkhhebanogbaaGreatZRowWeakened: texts joined. No conditions. -/
import Derived.Test.YthdkhhebanogbaaGreatZgRowWeakened
set_option linter.unusedSimpArgs false
set_option linter.unusedVariables false
set_option linter.unusedSectionVars false
namespace Go.Proofs.YthdkhhebanogbaaGreat
open Go Go.TL
open Go.Proofs.YthdkhhebanogbaaGreat.Ty
set_option linter.unusedSimpArgs false
set_option linter.unusedVariables false
set_option linter.unusedSectionVars false
set_option maxRecDepth 20000
set_option maxHeartbeats 4000000
def isTyped (most:Int) (r:LV):Prop:=∃ (s:GSys) (ctx:Wz) (x y z:LV),r=.tup [x,y,z]∧s.sys=true∧s.wf∧x=s.lv∧y=.sl true false 1 (ctx.map fun x=>[OU true false x.2])∧Zs s ctx∧(ctx.length:Int)≤most∧isD s ctx.length 400 z
theorem Zro {a:Int} (h0:0≤a) (h1:a≤1099511627776):Xq .num .quo (N a) (N 60)=some (N (a / 60)):=by
 simp only [Xq,Z9]
 simp (disch:=omega) [Int.tdiv_eq_ediv_of_nonneg h0,Qd]
theorem dDeep_ok (D:Dr) (ok:D.ok):Qf Tryz.prog Zbz [D.lv] (fun r=>∃ m:Int,r=N m∧2≤m∧m≤4):=by
 refine Qf.of_codeOf ZmR Qz (by simp) ⟨N 2,⟨2,rfl,by omega,by omega⟩,by simp⟩ ?_
 have hlen:=ok.len
 have hq:=Zro (a:=D.bs.length) (by omega) (by omega)
 simp (disch:=omega) [ZfR,hq]
 refine Qa (Za9 _ 2) (by simp) ?_
 have h0:0≤(D.bs.length:Int) / 60:=by omega
 simp (disch:=omega) [Qd]
 omega
theorem DS.cells (d:DS):∃ cs,d.lv=.agg cs∧cs.length=4∧Wh cs=true∧QA 0 cs∧shareAll cs=d.sys.cells:=by
 have sd:=DS.share d
 cases d
 all_goals
  refine ⟨_,rfl,rfl,rfl,by simp,?_⟩
  simp only [DS.lv,share] at sd
  injection sd
theorem Zrv {D:Dr} {Q:LV→Prop} {h1 h3 ex:List Box} {ct:LV} {e:Exit} {s:St} {i' k':Int} {xs ys:List LV} {ta tb tc:Nat} (he:e=.normal∨e=.ret) (ha:s.t ta=.ptr (h1.length+(h3.length+1)) 0) (hc:s.t tc=.ptr (h1.length+(h3.length+1+1)) 0) (hn:tc≠tb)
  (hh:s.h=h1++some [ct,N i',N k']::(h3++(some xs::some ys::ex))) (hx:xs.length=4) (hy:ys.length=4) (hk:WR D i' k') (lo:QA 0 [.agg xs,s.t tb,.agg ys]) (hq:Q (.tup [.agg xs,s.t tb,.agg ys])) :
  ZfV D [.cell ta true 4,.tmp tb,.cell tc true 4] h1 h3 ct Q e s:=by
 have g1:s.h[h1.length+(h3.length+1)]?=some (some xs):=by
  rw [hh,List.getElem?_append_right (by omega),show h1.length+(h3.length+1) - h1.length=h3.length+1 by omega,List.getElem?_cons_succ,List.getElem?_append_right (by omega),Nat.sub_self]
  rfl
 have s1:∀ z,s.h.set (h1.length+(h3.length+1)) z=h1++some [ct,N i',N k']::(h3++(z::some ys::ex)):=fun z=>by
  rw [hh,List.set_append_right _ _ (by omega),show h1.length+(h3.length+1) - h1.length=h3.length+1 by omega,List.set_cons_succ,List.set_append_right _ _ (by omega),Nat.sub_self]
  rfl
 have g2:∀ z,(h1++some [ct,N i',N k']::(h3++(z::some ys::ex)))[h1.length+(h3.length+1+1)]?=some (some ys):=fun z=>by
  rw [List.getElem?_append_right (by omega),show h1.length+(h3.length+1+1) - h1.length=(h3.length+1)+1 by omega,List.getElem?_cons_succ,List.getElem?_append_right (by omega),show h3.length+1 - h3.length=1 by omega]
  rfl
 have s2:∀ z y,(h1++some [ct,N i',N k']::(h3++(z::some ys::ex))).set (h1.length+(h3.length+1+1)) y=h1++some [ct,N i',N k']::(h3++(z::y::ex)):=fun z y=>by
  rw [List.set_append_right _ _ (by omega),show h1.length+(h3.length+1+1) - h1.length=(h3.length+1)+1 by omega,List.set_cons_succ,List.set_append_right _ _ (by omega),show h3.length+1 - h3.length=1 by omega]
  rfl
 have u:upd s.t tb (TL.share (s.t tb)) tc=.ptr (h1.length+(h3.length+1+1)) 0:=by
  rw [← hc];simp [upd,hn]
 refine ⟨he,[.agg xs,s.t tb,.agg ys],⟨upd s.t tb (TL.share (s.t tb)),h1++some [ct,N i',N k']::(h3++(some (shareAll xs)::some (shareAll ys)::ex))⟩,i',k',_,?_,rfl,hk,by simpa [ZaJ] using lo,hq⟩
 simp only [Yd,Zfn,ha,g1,hx,Wr,if_true,s1,u,g2,hy,s2]
theorem Y3 {P:Program} {D:Dr} {K:St→Prop} {d:Nat} {f:FuncId} {rest:List LV} {Q:LV→Prop} {t:Nat→LV} {a b:Box} {h3:List Box} {ct:LV} {i k:Int} (c:Q0 P D f rest Q) (hct:TL.share ct=D.lv) (hk:WR D i k)
  (hh:∀ r i' k',WR D i' k'→Q r→K { t:=upd t d r,h:=a::b::some [ct,N i',N k']::h3 }):YY P .fr f (.ptr 2 0::rest) (some d) K { t:=t,h:=a::b::some [ct,N i,N k]::h3 } :=
 Qp (h1:=[a,b]) c hct hk hh
section
variable (D:Dr) (ok:D.ok)
include ok
theorem Zrc (deep most:Int) (data:Bool) (hd:0≤deep∧deep≤4) (hm:0≤most∧most≤8):Q0 Tryz.prog D ZaA [N deep,N most,B data] (isTyped most):=by
 refine Q0.of_codeOf ZjW Qz (by simp) ?_ ?_
 ·obtain ⟨z,hz⟩:=Zjv (s:=Kt 1 false) (nv:=0) (m:=400) (by omega)
  exact ⟨.tup [(Kt 1 false).lv,.sl true false 1 [],z],Kt 1 false,[],_,_,z,rfl,(DS.sound (.count 1) rfl).1,(DS.sound (.count 1) rfl).2,rfl,rfl,by simp [Zs],by simp;omega,hz⟩
 intro h1 h3 ct i k hct hk
 simp (disch:=omega) [Zd4]
 refine Qp (ZjA D ok) hct hk ?_
 rintro r i1 k1 hk1 ⟨d,hd',rfl⟩
 obtain ⟨dc,hdc,d4,dal,dlo,dsh⟩:=DS.cells d
 obtain ⟨s1,s2⟩:=DS.sound d hd'
 have ts:=GSys.sys_of s1
 have h16:=ts.hi
 have hs:1≤d.sys.size∧d.sys.size≤16:=⟨by have:=ts.lo;omega,h16⟩
 simp (disch:=omega) [hdc,d4,dal,dsh,List.take_of_length_le,List.drop_of_length_le,Qs]
 refine Qp (ZnC D ok d.sys hs most hm data) hct hk1 ?_
 rintro r i2 k2 hk2 ⟨ctx,rfl,hc,hlen⟩
 have hcm:LC false ctx=.sl false false 1 (ctx.map fun x=>[L false x.2]):=congrArg _ (cx_map hc)
 have di:=dIn_ok D ok s1 false ctx deep data hc (by omega) hd.1 hd.2
 rw [hcm] at di
 simp (disch:=omega) [d4,dsh,List.take_of_length_le]
 refine Qp di hct hk2 ?_
 rintro r i3 k3 hk3 hr
 obtain ⟨w,cs,rfl,c4,csh,clo,cal,cok⟩:=hr.el
 have l4:d.sys.cells.length=4:=rfl
 simp (disch:=omega) [c4,l4]
 refine Zrv (.inr rfl) (by simp) (by simp) (by decide) rfl rfl c4 hk3 (by simp [clo]) ?_
 exact ⟨d.sys,ctx,_,_,_,rfl,s1,s2,rfl,rfl,hc,hlen,hr⟩
end
theorem Zrb {size:Int} (h:size≤16) {ty:List Int} (hw:wty ty=true) (hg:YN size true ty=true):YN 16 false ty=true:=by
 exact Zjz hw
mutual
theorem Zmc {size:Int} (h16:size≤16):∀ (g:GTerm) (nv nv':Int),nv≤nv'→W8 nv size true g=true→W8 nv' 16 false g=true
 | .mk op n nl1 ty nl2 ks,nv,nv',hn,h=>by
  simp only [W8,Y4,Bool.and_eq_true] at h ⊢
  obtain ⟨⟨h1,h2,h3⟩,h4⟩:=h
  refine ⟨⟨h1,?_,?_⟩,Zoi h16 ks nv nv' op 0 hn h4⟩
  ·unfold ZcN at h2 ⊢
   split at h2
   ·rename_i e;rw [if_pos e];rw [Q5] at h2 ⊢;omega
   ·rename_i e;rw [if_neg e]
    split at h2
    ·rename_i e;rw [if_pos e];exact h2
    ·rename_i e;rw [if_neg e]
     split at h2
     ·rename_i e;rw [if_pos e]
      simp only [Bool.and_eq_true,Qi,Ql,Bool.or_eq_true,Bool.not_eq_true'] at h2 ⊢
      simp at h2 ⊢
      omega
     ·rename_i e;rw [if_neg e];exact h2
  ·unfold tyB at h3 ⊢
   split at h3
   ·rename_i e;rw [if_pos e]
    rw [Bool.and_eq_true] at h3 ⊢
    exact ⟨h3.1,Zrb h16 h3.1 h3.2⟩
   ·rename_i e;rw [if_neg e];exact h3
theorem Zoi {size:Int} (h16:size≤16):∀ (ks:List GTerm) (nv nv' op:Int) (k:Nat),nv≤nv'→W5 nv size true op k ks=true→W5 nv' 16 false op k ks=true
 | [],_,_,_,_,_,_=>by simp [W5]
 | t::ts,nv,nv',op,k,hn,h=>by
  simp only [W5,Bool.and_eq_true] at h ⊢
  exact ⟨Zmc h16 t _ _ (by omega) h.1,Zoi h16 ts nv nv' op (k+1) hn h.2⟩
end
mutual
theorem sh_wf:∀ (g:GTerm) (nv fr:Int),g.sk nv→0≤nv→nv+2 * g.size≤100000→g.wf→(shG 1 fr g).wf
 | .mk op n nl1 ty nl2 ks,nv,fr,h,h0,h1,hw=>by
  simp only [GTerm.sk] at h
  simp only [GTerm.wf] at hw
  simp only [GTerm.size] at h1
  simp only [shG,GTerm.wf,Y9]
  refine ⟨hw.1,?_,hw.2.2.1,hw.2.2.2.1,shs_wf ks nv fr op 0 h.2.2 h0 (by omega) hw.2.2.2.2⟩
  split
  ·rename_i e
   have:=h.2.1 e.1
   unfold I64;omega
  ·exact hw.2.1
theorem shs_wf:∀ (ks:List GTerm) (nv fr op:Int) (k:Nat),sks nv op k ks→0≤nv→nv+2 * WV ks+2≤100000→wfs ks→wfs (Y0 1 fr op k ks)
 | [],_,_,_,_,_,_,_,_=>by simp [Y0,wfs]
 | t::ts,nv,fr,op,k,h,h0,h1,hw=>by
  simp only [sks] at h
  simp only [wfs] at hw
  simp only [WV] at h1
  have:=Xw op k
  simp only [Y0,wfs]
  exact ⟨sh_wf t _ _ h.1 (by omega) (by omega) hw.1,shs_wf ts nv fr op (k+1) h.2 h0 (by omega) hw.2⟩
end
theorem ZmM {size nv:Int} (g:GTerm) (gw:g.wf) (gfl:g.fl) (h16:size≤16) (hn:0≤nv∧nv≤7) (hs:g.size≤400) (hf:W8 nv size true g=true) (k:Nat) (hk:k≤nv) :
  Qf Tryz.prog Kk [g.lv,N 1,N k] (Zn5 (some (shG 1 k g))):=by
 refine Qf.of_codeOf Zgw Qz (by simp) (ZoP _) ?_
 have w1:g.writ=true:=by
  unfold GTerm.writ
  rw [Bool.and_eq_true,decide_eq_true_eq]
  exact ⟨hs,Zmc h16 g nv 8 (by omega) hf⟩
 have f2:W8 (nv+1) size true (shG 1 k g)=true:=by rw [ZhW (by omega) g nv k (by omega) (by omega)];exact hf
 have w2:(shG 1 k g).writ=true:=by
  unfold GTerm.writ
  rw [Bool.and_eq_true,decide_eq_true_eq,Zfe]
  exact ⟨hs,Zmc h16 _ (nv+1) 8 (by omega) f2⟩
 have gs:=ZbE g nv gw hf
 have SH:=ZnS g nv 1 k (by omega) (by omega) gs gfl (by omega) (by omega)
 have k1:=w1
 unfold GTerm.writ at k1
 simp only [Bool.and_eq_true,decide_eq_true_eq] at k1
 have e1:ltB 1 0=false:=by rw [Qg];omega
 have e2:ltB (k:Int) 0=false:=by rw [Qg];omega
 have iw1:=ZaR g gw
 rw [w1] at iw1
 simp (disch:=omega) [Za0,Qw,Qs]
 refine Qa iw1 (by simp) ?_
 simp (disch:=omega) [e1,e2]
 refine Qk (Qf.low SH) (by simp) ?_
 rintro r ⟨⟨w,cs,rfl,q2,q3,q4⟩,lo⟩
 have c4:cs.length=4:=by rw [← Q6,q2];simp
 have cal:=ZP q2
 have pw:(shG 1 k g).wf:=sh_wf g nv k gs (by omega) (by omega) gw
 have iw:=ZaR w (Znx q3 pw)
 have e1:(((1:Nat):Int))=1:=rfl
 rw [writ_nm q3,e1,w2] at iw
 simp (disch:=omega) [c4,cal,q2,List.take_of_length_le,List.drop_of_length_le]
 refine Qa iw (by simp) ?_
 simp (disch:=omega) [c4,cal,List.take_of_length_le,List.drop_of_length_le]
 exact ⟨by simpa using lo,_,rfl,w,cs,rfl,q2,q3,q4⟩
theorem okL_nn (size:Int):okL size [1,0,0]=true :=
 Yu.2 ⟨.nd 1 [.nd 0 [],.nd 0 []],by simp [RT.ok,oks,WD],by simp [RT.flat,WP],by simp,fun c hc=>by
  simp at hc
  rcases hc with rfl | rfl<;>simp [okC,QP,W9]⟩
theorem weak_law {s:GSys} {ctx:Wz} {g w:GTerm} {x:TT} (a:Arg s ctx g) (hx:ZD s ctx g=some x) (h8:ctx.length < 8) (k:Nat) (hk:k≤ctx.length) (hw:w.nm=(shG 1 k g).nm) (hf:w.fl) :
  Arg s (ctx.take k++(false,[1,0,0])::ctx.drop k) w∧∃ y,ZD s (ctx.take k++(false,[1,0,0])::ctx.drop k) w=some y∧y.ty=x.ty∧y.needs=x.needs.take k++0::x.needs.drop k:=by
 obtain ⟨gx,hs,hc1,ht1,_,tx⟩:=Zb3 a hx
 obtain ⟨f1,f2,_⟩:=a.flags hc1
 have ht1':=ht1
 unfold GTerm.termB at ht1'
 simp only [Bool.and_eq_true,decide_eq_true_eq] at ht1'
 have gs:=ZbE g ctx.length a.gw ht1'.2.2
 have pw:(shG 1 k g).wf:=sh_wf g ctx.length k gs (by omega) (by omega) a.gw
 have ww:=Znx hw pw
 have hmem:∀ c∈ctx.take k++(false,[1,0,0])::ctx.drop k,c=(false,[1,0,0])∨c∈ctx:=by
  intro c hc
  simp only [List.mem_append,List.mem_cons] at hc
  rcases hc with hc | rfl | hc
  ·exact .inr (List.mem_of_mem_take hc)
  ·exact .inl rfl
  ·exact .inr (List.mem_of_mem_drop hc)
 have hl:(ctx.take k++(false,[1,0,0])::ctx.drop k).length=ctx.length+1:=by simp;omega
 have aw:Arg s (ctx.take k++(false,[1,0,0])::ctx.drop k) w:=⟨a.sw,⟨by rw [hl];omega,fun c hc=>by
  rcases hmem c hc with rfl | hc
  ·exact ⟨by simp,by simp [I64]⟩
  ·exact a.cw.2 c hc⟩,ww,fun c hc=>by
  rcases hmem c hc with rfl | hc
  ·simp [Zt]
  ·exact a.cf c hc,hf⟩
 refine ⟨aw,?_⟩
 have hm:(ctx.take k).map Prod.snd++(ctx.drop k).map Prod.snd=ctx.map Prod.snd:=by rw [← List.map_append,List.take_append_drop]
 have hsn:∀ c∈ctx,okL s.size c.2=true:=f1
 have pl:((ctx.take k).map Prod.snd).length=k:=by simp;omega
 obtain ⟨y,y1,y2,y3,y4⟩:=weaken hs (pre:=(ctx.take k).map Prod.snd) (ws:=[[1,0,0]]) (cx:=(ctx.drop k).map Prod.snd) (g:=g) (x:=x) (fun l h=>by
   obtain ⟨c,hc,rfl⟩:=List.mem_map.1 h
   exact hsn c (List.mem_of_mem_take hc)) (fun l h=>by
   obtain ⟨c,hc,rfl⟩:=List.mem_map.1 h
   exact hsn c (List.mem_of_mem_drop hc)) a.gw (by rw [hm,List.length_map];exact ht1'.2.2) (by rw [hm];exact tx)
 rw [pl] at y1 y4
 rw [hm,List.length_map] at y4
 have hm2:(ctx.take k).map Prod.snd++[[1,0,0]]++(ctx.drop k).map Prod.snd=(ctx.take k++(false,[1,0,0])::ctx.drop k).map Prod.snd:=by simp
 rw [hm2] at y1 y3
 have e11:((([[1,0,0]]:List (List Int)).length:Nat):Int)=1:=rfl
 rw [e11] at y1
 rw [List.length_map,hl] at y3
 refine ⟨y,?_,y2,?_⟩
 ·have hcB:Ze1 s.size (ctx.take k++(false,[1,0,0])::ctx.drop k)=true:=by
   unfold Ze1
   rw [Bool.and_eq_true,Ql,Yc]
   refine ⟨by rw [hl];omega,fun i hi=>?_⟩
   rw [ZhP hi]
   rcases hmem _ (List.getElem_mem hi) with e | h
   ·rw [e];exact okL_nn s.size
   ·exact hsn _ h
  have pf:W8 ((ctx.length:Int)+1) s.size true (shG 1 k g)=true:=by rw [ZhW (by omega) g ctx.length k (by omega) (by omega)];exact ht1'.2.2
  have hin:inB s (ctx.take k++(false,[1,0,0])::ctx.drop k) w=true:=by
   unfold inB GTerm.termB
   rw [← Zbt w,← ZbD w,hw,Zbt,ZbD,hs,hcB,hl,Zfe]
   have e1:Q4 ((ctx.length+1:Nat):Int) 0 8=true:=by rw [Q5];omega
   have e2:W8 (((ctx.length+1:Nat):Int)) s.size true (shG 1 k g)=true:=by rw [show ((ctx.length+1:Nat):Int)=(ctx.length:Int)+1 by omega];exact pf
   rw [e1,e2]
   simp [ht1'.2.1]
  unfold ZD
  rw [if_pos hin,Zjy hw,y1]
 ·have lx:x.needs.length=ctx.length:=gx.2.1
  have ly:y.needs.length=ctx.length+1:=y3.1
  apply List.ext_getElem
  ·simp [ly,lx];omega
  ·intro i h1 h2
   have e:=y4 i (by simp;omega)
   rw [List.getD_eq_getElem?_getD,List.getElem?_eq_getElem h1,Option.getD_some] at e
   rw [e]
   simp only [List.length_singleton] at *
   by_cases c1:i < k
   ·rw [if_pos c1,List.getElem_append_left (by simp;omega),List.getElem_take,List.getD_eq_getElem?_getD,List.getElem?_eq_getElem (by omega)];rfl
   ·rw [if_neg c1]
    by_cases c2:i < k+1
    ·rw [if_pos c2]
     have:i=k:=by omega
     subst this
     rw [List.getElem_append_right (by simp;omega)]
     simp [lx]
     have:i - min i ctx.length=0:=by omega
     simp [this]
    ·rw [if_neg c2,List.getElem_append_right (by simp;omega)]
     have e5:i - (List.take k x.needs).length=(i - 1 - k)+1:=by simp [lx];omega
     rw [List.getD_eq_getElem?_getD,List.getElem?_eq_getElem (by omega),Option.getD_some]
     simp only [e5,List.getElem_cons_succ,List.getElem_drop]
     congr 1;omega
theorem Zoa (nlc:Bool) (ctx:Wz) (a:List Int) (k:Nat) (hk:k≤ctx.length) (hc:ctx.length≤1000000) :
  Qf Tryz.prog Vh [LC nlc ctx,N k,L false a] (·=.sl true false 1 ((ctx.take k++(false,a)::ctx.drop k).map fun x=>[eC x])):=by
 refine Qf.of_codeOf Zhq Qz (by simp) ⟨_,rfl,by simp only [Zqm,ZeV];simp⟩ ?_
 have h2:1+ctx.length≤most:=by unfold most;omega
 have c1:Yq 1 (LC nlc ctx) none (some (k:Int)) none=some (.sl false nlc 1 ((ctx.take k).map fun x=>[eC x])):=by
  simp only [Yq,Option.getD_none,Option.getD_some,List.length_map]
  rw [if_pos ⟨trivial,by omega,by omega,by omega,by omega⟩,show ((k:Int)).toNat=k by omega,← List.map_take]
  generalize ctx.take k=q
  simp
 have c2:Yq 1 (LC nlc ctx) (some (k:Int)) none none=some (.sl false nlc 1 ((ctx.drop k).map fun x=>[eC x])):=by
  simp only [Yq,Option.getD_none,Option.getD_some,List.length_map]
  rw [if_pos ⟨trivial,by omega,by omega,by omega,by omega⟩,show ((k:Int)).toNat=k by omega,show ((ctx.length:Int)).toNat=ctx.length by omega,← List.map_take,← List.map_drop,List.take_length]
  generalize ctx.drop k=q
  simp
 have e3:(ctx.take k++(false,a)::ctx.drop k)=ctx.take k++([(false,a)]++ctx.drop k):=by simp
 rw [e3]
 have lt:(ctx.take k).length+(ctx.drop k).length=ctx.length:=by simp;omega
 generalize ctx.take k=A at *
 generalize ctx.drop k=B at *
 simp (disch:=omega) [Zb9,Qo,WS,h2,c1,c2]
 have hm:most=1099511627776:=rfl
 omega
theorem at0_ok (D:Dr) (ok:D.ok) (i:Nat) (hi:i≤1000000):Qf Tryz.prog Zej [D.lv,N i] (fun r=>∃ v,r=N v∧0≤v∧v≤255):=by
 refine Qf.of_codeOf Zp4 Qz (by simp) ⟨N 0,⟨0,rfl,by omega,by omega⟩,by simp⟩ ?_
 simp (disch:=omega) [Ziy]
 have hlen:=ok.len
 (with_reducible first | refine Qn (fun h5=>?_) (fun h5=>?_) | refine Qm (fun h5=>?_) (fun h5=>?_))
 ·simp only [Qi,Qg,Ql,Qj,Qe,Qc,Bool.not_true,Bool.not_false] at h5
  have hb:=byte_D ok (i:=(i:Int)) (by omega) h5
  simp (disch:=omega) [idx_D (i:=(i:Int)) (by omega) h5,Qd]
  have hi:i < D.bs.length:=by omega
  have e:D.bs.getD ((i:Int)).toNat 0=D.bs[i]:=by simp [List.getD_eq_getElem?_getD,hi]
  rw [e] at hb
  rw [Qd (by omega)]
  exact hb
 ·have q:=Zfm (m:=(i:Int) * 7+D.bs.length) (k:=256) (by omega) (by omega)
  simp (disch:=omega) [Js,Qd]
  omega
abbrev ocx (ctx:Wz):LV:=.sl true false 1 (ctx.map fun x=>[OU true false x.2])
theorem ZrJ (ctx:Wz) (h:∀ x∈ctx,x.1=false):(ctx.map fun x=>[L false x.2])=ctx.map fun x=>[eC x]:=List.map_congr_left fun x hx=>by simp [eC,h x hx]
def isDT (r:LV):Prop:=∃ (s:GSys) (ctx:Wz) (g:GTerm) (ss cs:List LV),r=.tup [.agg ss,ocx ctx,.agg cs]∧shareAll ss=s.cells∧ss.length=4∧(∀ x∈ctx,x.1=false)∧shareAll cs=g.cells∧cs.length=4∧Wh ss=true∧Arg s ctx g
theorem isDT_ex:∃ r,isDT r∧Low 0 r:=by
 have a:Arg ⟨0,false,[],false,[],false,[]⟩ [] (.mk 1 0 true [] true []):=⟨by simp [GSys.wf,I64],⟨by simp,by simp⟩,by simp only [GTerm.wf,wfs];exact ⟨by unfold I64;omega,by unfold I64;omega,by simp [Lok],by simp,trivial⟩,by simp,by simp only [GTerm.fl,fls];exact ⟨by simp [Zt],trivial⟩⟩
 exact ⟨_,⟨_,[],_,GSys.cells ⟨0,false,[],false,[],false,[]⟩,GTerm.cells (.mk 1 0 true [] true []),rfl,by simp,rfl,by simp,by simp,by simp,by simp,a⟩,by simp⟩
section
variable (D:Dr) (ok:D.ok)
include ok
theorem ZjS:Qf Tryz.prog J4 [D.lv] isDT:=by
 refine Qf.of_codeOf Zf8 Qz (by simp) isDT_ex ?_
 have hct:=D.share
 simp only [Zak]
 rw [JF,JF,JF]
 refine Vn (fun t h=>∃ (s0 s:GSys) (ctx:Wz) (w:GTerm) (ss cs:List LV) (i' k':Int),t 2=.ptr 0 0∧t 4=.ptr 1 0∧t 5=.ptr 2 0∧t 6=.ptr 3 0∧t 7=.sl true false 1 (ctx.map fun x=>[OU true false x.2])∧t 8=.rp cs ∧
   h=[some [N 0,.sl true true 1 [],.sl true true 1 [],.sl true true 1 []],some [N 0,N 0,.sl true true 1 [],.sl true true 1 []],some [D.lv,N i',N k'],some ss,none]∧WR D i' k'∧shareAll ss=s.cells∧ss.length=4∧Wh ss=true∧QA 0 ss∧s.wf ∧
   shareAll cs=w.cells∧Zs s0 ctx∧ctx.length≤3∧TmOk s0 ctx.length 400 w) ?_ ?_
 ·simp (disch:=omega)
  refine WG (l1New_ok D ok _) ?_
  rintro r h' ⟨k,rfl,hk,rfl⟩
  simp (disch:=omega)
  refine Qk (dDeep_ok D ok) (by simp) ?_
  rintro r ⟨m,rfl,m2,m4⟩
  simp (disch:=omega)
  refine Y3 (X9 D ok 2 (by unfold I64;omega)) hct hk ?_
  rintro r i1 k1 hk1 ⟨b,rfl⟩
  simp (disch:=omega)
  refine Y3 (Zrc D ok m 3 b ⟨by omega,m4⟩ (by omega)) hct hk1 ?_
  rintro r i2 k2 hk2 ⟨s,ctx,_,_,z,rfl,hsy,hsw,rfl,rfl,hc,hcl,hz⟩
  obtain ⟨w,cs,rfl,c4,csh,clo,cal,cok⟩:=hz.el
  have hcl':ctx.length≤3:=by omega
  simp (disch:=omega) [c4,csh,cal,List.take_of_length_le,List.drop_of_length_le,Qs]
  refine Y3 (X9 D ok 20 (by unfold I64;omega)) hct hk2 ?_
  rintro r i3 k3 hk3 ⟨b2,rfl⟩
  cases b2 with
  | false =>
   simp (disch:=omega) [c4,csh,cal,List.take_of_length_le,List.drop_of_length_le,Qs]
   exact ⟨s,s,ctx,rfl,w,s.cells,i3,k3,⟨⟨rfl,rfl⟩,rfl⟩,hk3,by simp,by simp,by simp,by simp,hsw,rfl,hc,hcl',cok⟩
  | true =>
   simp (disch:=omega) [c4,csh,cal,List.take_of_length_le,List.drop_of_length_le,Qs]
   refine Y3 ((Zkx D ok).toF (by simp) (by rintro r ⟨s,cs,rfl,_,h,_⟩;simpa using h)) hct hk3 ?_
   rintro r i4 k4 hk4 ⟨s',ss,rfl,sh,slo,sal,s4,swf⟩
   simp (disch:=omega) [c4,csh,cal,s4,List.take_of_length_le,List.drop_of_length_le,Qs]
   exact ⟨s,s',ctx,rfl,w,ss,i4,k4,⟨⟨rfl,rfl⟩,rfl⟩,hk4,sh,s4,sal,slo,swf,rfl,hc,hcl',cok⟩
 ·rintro t h hf ⟨s0,s,ctx,w,ss,cs,i1,k1,e2,e4,e5,e6,e7,e8,rfl,hk1,sh,s4,sal,slo,swf,csh,hc,hcl,cok⟩
  clear hf
  have c4:cs.length=4:=by rw [← Q6,csh];simp
  have cw:=cok.wf
  have cf:=cok.fl
  have csz:=cok.size
  have gs:=ZbE w ctx.length cw cok.form
  have flg:∀ (c:Wz),(∀ x∈c,x.1=false)→(c.map fun x=>[L false x.2])=c.map fun x=>[eC x]:=fun c h=>List.map_congr_left fun x hx=>by simp [eC,h x hx]
  have fin:∀ (c:Wz),(∀ x∈c,x.1=false)→c.length≤4→(∀ x∈c,Lok x.2)→∀ (g:GTerm),g.wf→g.fl→Arg s c g:=fun c h1 h2 h3 g h4 h5=>⟨by assumption,⟨by omega,h3⟩,h4,fun x hx=>by rw [h1 x hx];simp [Zt],h5⟩
  have lok:∀ x∈ctx,Lok x.2:=fun x hx=>ZbW (JJ (hc.1 x hx))
  have sp:=Zrj D ok w ctx.length 400 cw cf gs (by omega) (by omega) csz
  simp (disch:=omega) [e5]
  refine Y3 (X9 D ok 20 (by unfold I64;omega)) hct hk1 ?_
  rintro r i2 k2 hk2 ⟨b2,rfl⟩
  cases b2 with
  | false =>
   simp (disch:=omega) [e2,e4,e5,e6,e7,e8,c4,csh,s4,sal,List.take_of_length_le,List.drop_of_length_le,ZN]
   have A:=fin ctx hc.2 (by omega) lok
   refine ⟨?_,?_⟩
   all_goals
    refine Y3 sp hct hk2 ?_
    rintro r i3 k3 hk3 ⟨w',cs',rfl,csh',lo',al',len',wf',fl',sz'⟩
    simp (disch:=omega) [e2,e4,e5,e6,e7,e8,c4,csh,s4,sal,csh',al',len',List.take_of_length_le,List.drop_of_length_le,ZN,Qs]
    exact ⟨⟨slo,lo'⟩,s,ctx,w',ss,cs',rfl,sh,s4,hc.2,csh',len',sal,A w' wf' fl'⟩
  | true =>
   simp (disch:=omega) [e2,e4,e5,e6,e7,e8,s4,sal,sh,List.take_of_length_le,List.drop_of_length_le]
   have dt:=ZhK D ok s swf.1
   refine Y3 dt hct hk2 ?_
   rintro r i3 k3 hk3 ⟨l,rfl,ll,lI⟩
   have hm:most=1099511627776:=rfl
   have h1m:ctx.length+1≤most:=by omega
   simp (disch:=omega) [e2,e4,e5,e6,e7,e8,c4,csh,s4,sal,List.take_of_length_le,List.drop_of_length_le,ZN,Qo,WS,h1m]
   have A:=fin (ctx++[(false,l)]) (fun x hx=>by
    rcases List.mem_append.1 hx with hx | hx
    ·exact hc.2 x hx
    ·simp at hx;subst hx;rfl) (by simp;omega) (fun x hx=>by
    rcases List.mem_append.1 hx with hx | hx
    ·exact lok x hx
    ·simp at hx;subst hx;exact ⟨show l.length≤_ by omega,lI⟩)
   refine ⟨?_,?_⟩
   all_goals
    refine Y3 sp hct hk3 ?_
    rintro r i4 k4 hk4 ⟨w',cs',rfl,csh',lo',al',len',wf',fl',sz'⟩
    simp (disch:=omega) [e2,e4,e5,e6,e7,e8,c4,csh,s4,sal,csh',al',len',List.take_of_length_le,List.drop_of_length_le,ZN,Qs]
    exact ⟨⟨slo,lo'⟩,s,ctx++[(false,l)],w',ss,cs',by simp,sh,s4,(fun x hx=>by
     rcases List.mem_append.1 hx with hx | hx
     ·exact hc.2 x hx
     ·simp at hx;subst hx;rfl),csh',len',sal,A w' wf' fl'⟩
end
theorem ZnG (D:Dr) (hb':∀ b∈D.bs,0≤b∧b≤255):Qf Tryz.prog Zaj [D.lv] (·=B true):=by
 refine Qf.of_codeOf Zfl Qz (by simp) ⟨_,rfl,by simp⟩ ?_
 simp (disch:=omega) [Zaq]
 refine Qa (big_ok D) (by simp) ?_
 cases hB:ltB 1048576 (D.bs.length:Int)
 rotate_left
 ·simp (disch:=omega)
 rw [Qg] at hB
 have ok:D.ok:=⟨by omega,hb'⟩
 simp (disch:=omega)
 refine Qk (Qf.low (ZjS D ok)) (by simp) ?_
 rintro r ⟨⟨s,ctx,g,ss,cs,rfl,ssh,s4,cfl,csh,c4,sal,a⟩,lo⟩
 have cal:=ZP csh
 have ecx:=ZrJ ctx cfl
 have hcl:ctx.length≤1099511627776:=a.cw.1
 have to1:=Zlb a false
 have ht:=ZpN a false
 have at0:=at0_ok D ok 0 (by omega)
 simp (disch:=omega) [Qs,c4,csh,cal,ssh,s4,sal,List.take_of_length_le,List.drop_of_length_le,ecx]
 refine Qk (Qf.low to1) (by simp) ?_
 rintro r ⟨hr1,lo1⟩
 cases hx:ZD s ctx g with
 | none =>
  rw [hx] at hr1 ht
  subst hr1
  simp (disch:=omega) [c4,csh,ssh,s4,List.take_of_length_le,ecx]
  refine Qa ht (by simp) ?_
  simp (disch:=omega)
 | some x =>
  rw [hx] at hr1 ht
  subst hr1
  cases h8:leB 8 (ctx.length:Int)
  rotate_left
  ·simp (disch:=omega) [c4,csh,ssh,s4,List.take_of_length_le,ecx,h8]
   refine Qa ht (by simp) ?_
   simp (disch:=omega) [h8]
  ·simp (disch:=omega) [c4,csh,ssh,s4,List.take_of_length_le,ecx,h8]
   rw [Qj] at h8
   obtain ⟨gx,hs,hc1,ht1,_,tx⟩:=Zb3 a hx
   have ts:=GSys.sys_of hs
   have ht1':=ht1
   unfold GTerm.termB at ht1'
   simp only [Bool.and_eq_true,decide_eq_true_eq] at ht1'
   refine Qk (Qf.low at0) (by simp) ?_
   rintro r ⟨⟨v,rfl,v0,v1⟩,_⟩
   obtain ⟨k0,k1⟩:=Zfm (m:=v) (k:=(ctx.length:Int)+1) v0 (by omega)
   have hne:¬ ((ctx.length:Int)+1=0):=by omega
   simp (disch:=omega) [Js,Qd,hne]
   generalize v.tmod ((ctx.length:Int)+1)=kk at *
   obtain ⟨k,rfl⟩:∃ k:Nat,kk=k:=⟨kk.toNat,by omega⟩
   have hk:k≤ctx.length:=by omega
   have SH:=ZmM g a.gw a.gf ts.hi (nv:=ctx.length) (by omega) ht1'.2.1 ht1'.2.2 k (by omega)
   simp (disch:=omega) [c4,csh,ssh,s4,List.take_of_length_le]
   refine Qk (Qf.low SH) (by simp) ?_
   rintro r ⟨hr2,lo2⟩
   obtain ⟨v2,rfl,w,ws,rfl,wsh,wn,wf⟩:=hr2
   have w4:ws.length=4:=by rw [← Q6,wsh];simp
   have wal:=ZP wsh
   obtain ⟨aw,y,hy,yt,yn⟩:=weak_law a hx (by omega) k hk wn wf
   have gy:=(Zb3 aw hy).1
   have to3:=Zlb aw false
   rw [hy] at to3
   have ins:=Zoa false ctx [1,0,0] k hk (by omega)
   have lx:x.needs.length=ctx.length:=gx.2.1
   have ly:y.needs.length=ctx.length+1:=by rw [gy.2.1];simp;omega
   have yl:=QH gy.1
   simp (disch:=omega) [Qs,w4,wsh,wal,ssh,s4,List.take_of_length_le,ecx,Qo]
   refine Qa ins (by simp) ?_
   have hcx:∀ c∈ctx.take k++(false,[1,0,0])::ctx.drop k,c.1=false:=fun c hc=>by
    simp only [List.mem_append,List.mem_cons] at hc
    rcases hc with hc | rfl | hc
    ·exact cfl c (List.mem_of_mem_take hc)
    ·rfl
    ·exact cfl c (List.mem_of_mem_drop hc)
   generalize ctx.take k++(false,[1,0,0])::ctx.drop k=ctx' at *
   simp (disch:=omega) [Qs,w4,wsh,wal,ssh,s4,List.take_of_length_le]
   refine Qk (Qf.low to3) (by simp) ?_
   rintro r ⟨hr5,lo5⟩
   subst hr5
   have io:=Zqt false false y.ty x.ty (by omega)
   have q4:(y.ty == x.ty)=true:=by rw [yt];simp
   rw [q4] at io
   have i1:=Xu y.needs false false k (by omega) (by omega)
   have yk:y.needs.getD k 0=0:=by
    rw [yn,List.getD_eq_getElem?_getD,List.getElem?_append_right (by simp;omega)]
    simp [lx]
    have:k - min k ctx.length=0:=by omega
    simp [this]
   rw [show ((k:Int)).toNat=k by omega,yk] at i1
   have c1:Yq 1 (L false y.needs) none (some (k:Int)) none=some (L false (y.needs.take k)):=VI (by omega)
   have c2:Yq 1 (L false y.needs) (some ((k:Int)+1)) none none=some (L false (y.needs.drop (k+1))):=YR (k:=k+1) (by omega)
   have q1:eqB (y.needs.length:Int) (x.needs.length+1)=true:=by rw [Qe];omega
   have hAB:y.needs.take k++y.needs.drop (k+1)=x.needs:=by
    rw [yn,List.take_append_of_le_length (by simp;omega),List.take_of_length_le (by simp;omega),List.drop_append]
    rw [List.drop_of_length_le (by simp;omega)]
    simp [lx]
    rw [show k+1 - min k ctx.length=1 by omega]
    simp
   have lA:(y.needs.take k).length+(y.needs.drop (k+1)).length=ctx.length:=by simp;omega
   generalize y.needs.take k=A at *
   generalize y.needs.drop (k+1)=Bl at *
   have hm:most=1099511627776:=rfl
   have m1:A.length≤most:=by omega
   have m2:A.length+Bl.length≤most:=by omega
   have io2:Qf Tryz.prog KN [.sl false false 1 (A.map (fun x=>[N x])++Bl.map fun x=>[N x]),L false x.needs] (·=B true):=by
    have:=Zqt false false (A++Bl) x.needs (by simp;omega)
    rw [hAB] at this
    have e:(x.needs == x.needs)=true:=by simp
    rw [e,← hAB] at this
    rw [← hAB,← List.map_append]
    exact this
   simp (disch:=omega) [Qd]
   refine Qa io (by simp) ?_
   simp (disch:=omega) [Qd,q1,i1,c1,c2,Qo,WS,m1,m2]
   refine Qa io2 (by simp) ?_
   simp (disch:=omega)
end Go.Proofs.YthdkhhebanogbaaGreat