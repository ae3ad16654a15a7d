/- Part 6 of the proof of the row of the text YtbmepminmpjlcaaGreatZRowEvaluate: texts joined. No conditions. -/
import Derived.Test.YtbmepminmpjlcaaGreatZeRowEvaluate
set_option linter.unusedSimpArgs false
set_option linter.unusedVariables false
set_option linter.unusedSectionVars false
namespace Go.Proofs.YtbmepminmpjlcaaGreat
open Go Go.TL
open Go.Proofs.YtbmepminmpjlcaaGreat.Ty
set_option linter.unusedSimpArgs false
set_option linter.unusedVariables false
set_option maxRecDepth 20000
set_option maxHeartbeats 4000000
def flOk (nl:Bool) (l:List Int):Prop:=nl=true->l=[]
mutual
def GTerm.fl:GTerm->Prop
 | .mk _ _ nl1 ty _ ks=>flOk nl1 ty∧fls ks
def fls:List GTerm->Prop
 | []=>True
 | k::ks=>k.fl∧fls ks
end
theorem ZaK:∀ {ks:List GTerm},fls ks ↔ ∀ k∈ks,k.fl
 | []=>by simp [fls]
 | k::ks=>by simp [fls,ZaK (ks:=ks)]
def FzR (R:LV->Prop) (r:LV) (h':List Box):Prop:=∃ t h1 m,Fz t r h' h1∧(0:Nat)<=m∧m<=h1.length∧Low m t∧(∀ l xs,l < m->h1[l]?=some (some xs)->QI m xs)∧R t∧Low 0 t
theorem Qe.freeze {P:Program} {f:FuncId} {args:List LV} {R:LV->Prop} (c:QE P f args [] (FzR R)):Qe P f args R:=by
 refine QE.freeze (c.mono fun r h' hr=>?_)
 obtain ⟨t,h1,m,a,b,c,d,e,f,g⟩:=hr
 exact ⟨t,h1,m,a,b,c,d,e,f,g⟩
theorem fz_bad {R:LV->Prop} {h':List Box} {l:Nat} {xs:List LV} (hl:h'[l]?=some (some xs)) (hs:Zaz xs xs (h'.set l none) (h'.set l none)) (lo:QI 0 xs) (hR:R (.rp xs)):FzR R (.ptr l 0) h' :=
 ⟨.rp xs,h'.set l none,0,by simp only [Fz];exact .inr ⟨l,xs,rfl,hl,hs⟩,Nat.le_refl _,Nat.zero_le _,by simpa using lo,fun l xs h=>by omega,hR,by simpa using lo⟩
theorem ZpD {u nl:Bool} {sz:Nat} {Qj:List (List LV)} (h:List Box):Fz (.sl u nl sz Qj) (.sl u nl sz Qj) h h:=by simp only [Fz];exact .inl ⟨trivial,trivial⟩
theorem Zc8:∀ {xs:List LV} {h:List Box},(∀ x∈xs,∀ h,Fz x x h h)->Zaz xs xs h h
 | [],h,_=>by simp [Zaz]
 | x::xs,h,hx=>by
  simp only [Zaz]
  exact ⟨x,xs,h,rfl,hx x (by simp) h,Zc8 fun y hy=>hx y (by simp [hy])⟩
theorem ZbE {R:LV->Prop} {h':List Box} {l:Nat} {f:Int} {u nl:Bool} {p:List Int} (hl:h'[l]?=some (some [.sl true true 1 [],.sl true true 1 [],.sl true true 1 [],N f,OU u nl p]))
  (hR:R (.rp [.sl true true 1 [],.sl true true 1 [],.sl true true 1 [],N f,OU u nl p])):FzR R (.ptr l 0) h' :=
 fz_bad hl (Zc8 fun x hx=>by
  simp only [List.mem_cons,List.not_mem_nil,or_false] at hx
  rcases hx with rfl | rfl | rfl | rfl | rfl
  all_goals first | exact ZpD | (intro h;simp [Fz])) (by simp) hR
theorem Zln:∀ (l:List Int) (h:List Box),Zei (l.map fun n=>[N n]) 1 (l.map N) h h
 | [],h=>by simp [Zei]
 | a::l,h=>by
  simp only [List.map_cons,Zei]
  exact ⟨[N a],l.map N,h,rfl,rfl,Zc8 (fun x hx=>by simp only [List.mem_singleton] at hx;subst hx;intro h;simp [Fz]),Zln l h⟩
theorem fz_ok {R:LV->Prop} {c2:Box} {u:Bool} {T nd:List Int} {ndv:LV} {m:Nat} {u3 n3:Bool} {Qj:List (List LV)} {hr:List Box} (lo:∀ k,WV k Qj)
  (hn:(∃ u,ndv=OU u false nd)∨(ndv=.ha 2 1 0 m m∧c2=some (nd.map N)∧nd.length=m)) (hR:∀ u2,R (.rp [OU u false T,OU u2 false nd,.sl u3 n3 1 Qj,N 0,.sl true true 1 []])) :
  FzR R (.ptr 3 0) (none::none::c2::some [OU u false T,ndv,.sl u3 n3 1 Qj,N 0,.sl true true 1 []]::hr):=by
 rcases hn with ⟨u2,rfl⟩ | ⟨rfl,rfl,rfl⟩
 ·refine fz_bad (by rfl) (Zc8 fun x hx=>?_) (by simp [lo]) (hR u2)
  simp only [List.mem_cons,List.not_mem_nil,or_false] at hx
  rcases hx with rfl | rfl | rfl | rfl | rfl
  all_goals first | exact ZpD | (intro h;simp [Fz])
 ·refine ⟨.rp [OU u false T,OU true false nd,.sl u3 n3 1 Qj,N 0,.sl true true 1 []],none::none::none::none::hr,0,?_,Nat.le_refl _,Nat.zero_le _,by simp [lo],fun l xs h=>by omega,hR true,by simp [lo]⟩
  simp only [Fz]
  refine .inr ⟨3,_,rfl,rfl,?_⟩
  simp only [Zaz]
  refine ⟨_,_,_,rfl,ZpD _,_,_,_,rfl,?_,_,_,_,rfl,ZpD _,_,_,_,rfl,⟨rfl,rfl⟩,_,_,_,rfl,ZpD _,rfl,rfl⟩
  simp only [Fz]
  refine .inr ⟨trivial,trivial,2,nd.length,nd.map N,[],by simp,by simp,by simp,by simp,?_⟩
  exact Zln nd _
theorem J8 (ys:List LV):(LV.rp ys).flat=true:=rfl
theorem Zk (ys:List LV):(LV.rp ys).cells=[.rp ys]:=rfl
theorem app_new {Qj:List (List LV)} {row:List LV} (h:Qj.length < 1099511627776):Wy 1 (.sl (!Qj.isEmpty) Qj.isEmpty 1 Qj) (.sl true false 1 [row])=some (.sl (!(Qj++[row]).isEmpty) (Qj++[row]).isEmpty 1 (Qj++[row])):=by
 simp only [Wy]
 rw [if_pos ⟨by cases Qj<;>simp,.inl trivial,.inl trivial,by simp [WX];omega⟩]
 cases Qj<;>simp
theorem Zg4 {nv size:Int} {closed:Bool} {op:Int}:∀ {ks:List GTerm} {k:Nat},X8 nv size closed op k ks=true->∀ (i:Nat) (h:i < ks.length),XC (nv+Qy op ((k+i:Nat):Int)) size closed ks[i]=true
 | [],_,_,i,h=>by simp at h
 | t::ts,k,hf,i,h=>by
  simp only [X8,Bool.and_eq_true] at hf
  cases i with
  | zero=>simpa using hf.1
  | succ i =>
   have:=Zg4 hf.2 i (by simpa using h)
   rw [show k+1+i=k+(i+1) by omega] at this
   simpa using this
mutual
theorem Zbs {s:GSys}:∀ (g:GTerm) (ctx:List (List Int)) (f:Int) (p:List Int),Qr s ctx g=.bad f p->p.length<=g.size
 | .mk op n _ ty _ ks,ctx,f0,p0,h=>by
  rw [Qr] at h
  split at h
  ·rename_i f' p' hd
   simp only [Res.bad.injEq] at h
   obtain ⟨rfl,rfl⟩:=h
   have:=ZkW ks ctx op n ty [] _ _ hd
   simpa [GTerm.size] using this
  ·split at h
   ·simp at h
   ·simp only [Res.bad.injEq] at h
    obtain ⟨_,rfl⟩:=h
    simp
theorem ZkW {s:GSys}:∀ (ks:List GTerm) (ctx:List (List Int)) (op n:Int) (ty:List Int) (ds:List TT) (f:Int) (p:List Int),Wi s ctx op n ty ds ks=.bad f p->p.length<=WB ks+1
 | [],ctx,op,n,ty,ds,f,p,h=>by simp [Wi] at h
 | k::ks,ctx,op,n,ty,ds,f,p,h=>by
  rw [Wi] at h
  split at h
  ·rename_i f' p' hd
   simp only [KRes.bad.injEq] at h
   obtain ⟨rfl,rfl⟩:=h
   have:=Zbs k _ _ p' hd
   simp [WB];omega
  ·split at h
   ·simp only [KRes.bad.injEq] at h
    obtain ⟨_,rfl⟩:=h
    simp
   ·split at h
    ·simp only [KRes.bad.injEq] at h
     obtain ⟨_,rfl⟩:=h
     simp
    ·have:=ZkW ks ctx op n ty _ f p h
     simp [WB];omega
end
theorem Zqf {c:Wk} (h:c.length < 1099511627776) (f:Bool) (l:List Int):Wy 1 (ZbS c) (.sl true false 1 [[L f l]])=some (ZbS (c++[(f,l)])):=by
 have:=app_new (Qj:=c.map fun x=>[eC x]) (row:=[L f l]) (by rw [List.length_map];exact h)
 have e1:(c.map fun x=>[eC x]).isEmpty=c.isEmpty:=by cases c<;>rfl
 have e2:(c.map (fun x=>[eC x])++[[L f l]])=(c++[(f,l)]).map fun x=>[eC x]:=by simp
 have e3:((c++[(f,l)]).map fun x=>[eC x]).isEmpty=(c++[(f,l)]).isEmpty:=by cases c<;>rfl
 rw [e2,e1,e3] at this
 exact this
theorem Zih (l:List Int):Qv (l.map fun n=>[N n])=l.map fun n=>[N n]:=by simp
theorem Ku {c:Wk} {g g':Nat->List Int} {v:Bool×List Int} (hc:∀ (j:Nat) (h:j < c.length),(c[j]).2=g j) (h1:∀ j,j < c.length->g' j=g j) (h2:v.2=g' c.length):∀ (j:Nat) (h:j < (c++[v]).length),((c++[v])[j]).2=g' j:=by
 intro j h
 rw [List.length_append] at h
 rcases Nat.lt_or_ge j c.length with q | q
 ·rw [List.getElem_append_left q,hc j q,h1 j q]
 ·have:j=c.length:=by simp at h;omega
  subst this
  rw [List.getElem_append_right (Nat.le_refl _)]
  simpa using h2
theorem ZeW {c:Wk} {l:List Int} (h:∀ x∈c,x.1=false):∀ x∈c++[(false,l)],x.1=false:=by
 intro x hx
 rcases List.mem_append.1 hx with hx | hx
 ·exact h x hx
 ·simp at hx;subst hx;rfl
theorem ZF {ds:List TT} {x:TT} {j:Nat} (h:j < ds.length):(ds++[x]).getD j (.mk [] [] [])=ds.getD j (.mk [] [] []):=by
 simp [List.getD_eq_getElem?_getD,List.getElem?_append_left h]
theorem YE {ds:List TT} {x:TT} {j:Nat} (h:j=ds.length):(ds++[x]).getD j (.mk [] [] [])=x:=by
 subst h;simp [List.getD_eq_getElem?_getD]
theorem Zci {c:Wk} (h:c.length < 1099511627776) (f:Bool) (l:List Int) (k:Nat):Wy 1 (ZbS c) (.sl true false 1 [[.sl false f 1 (List.take k (l.map fun n=>[N n]))]])=some (ZbS (c++[(f,l.take k)])):=by
 rw [<- List.map_take];exact Zqf h f (l.take k)
theorem Zcz {c:Wk} (h:c.length < 1099511627776) (f:Bool) (l:List Int) (k:Nat):Wy 1 (ZbS c) (.sl true false 1 [[.sl false f 1 (List.drop k (l.map fun n=>[N n]))]])=some (ZbS (c++[(f,l.drop k)])):=by
 rw [<- List.map_drop];exact Zqf h f (l.drop k)
theorem Zce {n2:Bool} {l:List Int} {k:Nat} (h:k<=l.length):ZZ 1 (L n2 l) none (some (k:Int)) none=some (L n2 (l.take k)):=by
 simp only [ZZ,Option.getD_none,Option.getD_some,List.length_map]
 rw [if_pos ⟨trivial,by omega,by omega,by omega,by omega⟩,show ((k:Int)).toNat=k by omega,<- List.map_take]
 simp only [Option.isSome_none,Bool.false_and,List.drop_zero,Int.toNat_zero,Zih]
theorem ZM {n2:Bool} {l:List Int} {k:Nat} (h:k<=l.length):ZZ 1 (L n2 l) (some (k:Int)) none none=some (L n2 (l.drop k)):=by
 simp only [ZZ,Option.getD_none,Option.getD_some,List.length_map]
 rw [if_pos ⟨trivial,by omega,by omega,by omega,by omega⟩,show ((k:Int)).toNat=k by omega,show ((l.length:Int)).toNat=l.length by omega,<- List.map_take,<- List.map_drop,List.take_length]
 simp only [Option.isSome_none,Bool.false_and,Zih]
mutual
theorem ZR {s:GSys}:∀ (g:GTerm) (ctx:List (List Int)) (f:Int) (p:List Int),Qr s ctx g=.bad f p->f≠0
 | .mk op n _ ty _ ks,ctx,f0,p0,h=>by
  rw [Qr] at h
  split at h
  ·rename_i f' p' hd
   simp only [Res.bad.injEq] at h
   obtain ⟨rfl,rfl⟩:=h
   exact ZnU ks ctx op n ty [] _ _ hd
  ·split at h
   ·simp at h
   ·rename_i hne
    simp only [Res.bad.injEq] at h
    obtain ⟨rfl,rfl⟩:=h
    exact hne
theorem ZnU {s:GSys}:∀ (ks:List GTerm) (ctx:List (List Int)) (op n:Int) (ty:List Int) (ds:List TT) (f:Int) (p:List Int),Wi s ctx op n ty ds ks=.bad f p->f≠0
 | [],ctx,op,n,ty,ds,f,p,h=>by simp [Wi] at h
 | k::ks,ctx,op,n,ty,ds,f,p,h=>by
  rw [Wi] at h
  split at h
  ·rename_i f' p' hd
   simp only [KRes.bad.injEq] at h
   obtain ⟨rfl,rfl⟩:=h
   exact ZR k _ _ p' hd
  ·split at h
   ·rename_i hne
    simp only [KRes.bad.injEq] at h
    obtain ⟨rfl,rfl⟩:=h
    exact hne
   ·split at h
    ·simp only [KRes.bad.injEq] at h
     obtain ⟨rfl,rfl⟩:=h
     omega
    ·exact ZnU ks ctx op n ty _ f p h
end
mutual
theorem TT.ex:∀ x:TT,∃ r,x.is r∧∃ ys,r=.rp ys
 | .mk ty nd ks=>by
  obtain ⟨Qj,h⟩:=TT.exs ks
  exact ⟨_,by simp only [TT.is];exact ⟨false,false,Qj,rfl,h⟩,_,rfl⟩
theorem TT.exs:∀ xs:List TT,∃ Qj,TT.are xs Qj
 | []=>⟨[],by simp [TT.are]⟩
 | x::xs=>by
  obtain ⟨r,h,_⟩:=TT.ex x
  obtain ⟨Qj,h2⟩:=TT.exs xs
  exact ⟨_,by simp only [TT.are];exact ⟨r,Qj,rfl,h,h2⟩⟩
end
theorem res_ex (x:Res) (hb:∀ f p,x=.bad f p->f≠0):∃ ys,x.is (share (.rp ys))∧QI 0 ys:=by
 cases x with
 | ok x =>
  obtain ⟨r,h,ys,rfl⟩:=TT.ex x
  obtain ⟨h1,h2⟩:=ZpG x _ h
  exact ⟨ys,by rw [h1];exact h,by simpa using h2 0⟩
 | bad f p=>exact ⟨[.sl false true 1 [],.sl false true 1 [],.sl false true 1 [],N f,L false p],⟨hb f p rfl,false,by simp⟩,by simp⟩
theorem fz_ex (R:LV->Prop) (h:∃ ys,R (.rp ys)∧QI 0 ys):∃ r h',FzR R r h':=by
 obtain ⟨ys,h1,h2⟩:=h
 exact ⟨.rp ys,[],.rp ys,[],0,by simp only [Fz];exact .inl ⟨trivial,trivial⟩,Nat.le_refl _,Nat.zero_le _,by simpa using h2,fun l xs h=>by omega,h1,by simpa using h2⟩
structure TypJ (s:GSys) (cx:List (List Int)) (op n:Int) (gty:List Int) (ks:List GTerm) (i:Nat) (t:Nat->LV) (h:List Box) (ds:List TT) (Qj:List (List LV)) (nds uds:Wk) (hr:List Box):Prop where
 are:TT.are ds Qj
 len:ds.length=i
 kok:KidsOk s cx.length op n ds
 tell:Wi s cx op n gty [] ks=Wi s cx op n gty ds (ks.drop i)
 ulen:uds.length=i
 nlen:nds.length=i
 us:∀ (j:Nat) (h:j < uds.length),(uds[j]).2=usP op ds j
 nd:∀ (j:Nat) (h:j < nds.length),(nds[j]).2=ndP op ds j
 nf:∀ c∈nds,c.1=false
 e24:t 24=N i
 e8:t 8=ZbS nds
 e9:t 9=ZbS uds
 heap:h=none::none::some ((zeros cx.length).map N)::ZhI (.sl true true 1 []) (.ha 2 1 0 cx.length cx.length) true ds.isEmpty Qj::hr
theorem typ_ok {s:GSys} (hsy:s.sys=true) (d:Nat):∀ (g:GTerm) (nlc:Bool) (ctx:Wk),g.size<=d->g.wf->g.fl->(∀ c∈ctx,okL s.size c.2=true)->(∀ c∈ctx,c.1=false)->ctx.length+2 * g.size<=100000->XC ctx.length s.size true g=true ->
  Qe Tryz.prog Zz [s.lv,LC nlc ctx,g.lv] (fun r=>(Qr s (ctx.map Prod.snd) g).is (share r)):=by
 induction d with
 | zero=>intro g _ _ h;have:=g.size_pos;omega
 | succ d ih =>
  rintro ⟨op,n,nl1,gty,nl2,ks⟩ nlc ctx hsz hw hfl hc hcf hlen hform
  have t:=GSys.sys_of hsy
  have h16:=t.hi
  simp only [XC,Bool.and_eq_true] at hform
  obtain ⟨hnode,hforms⟩:=hform
  have no:=ZeV hnode
  simp only [GTerm.wf] at hw
  obtain ⟨wop,wn,wty,wk,wks⟩:=hw
  simp only [GTerm.fl] at hfl
  obtain ⟨fl1,flk⟩:=hfl
  simp only [GTerm.size] at hsz hlen
  have hm:(ctx.length:Int)<=(WX:Nat):=by unfold WX;omega
  have many:=no.many
  have hk3:ks.length<=3:=by
   unfold W1 at many
   repeat' split at many
   all_goals omega
  have cxl:(ctx.map Prod.snd).length=ctx.length:=by simp
  refine Qe.freeze (QE.of_codeOf Zgx Qx (by simp) ?_ ?_)
  ·exact fz_ex (fun r=>(Qr s (ctx.map Prod.snd) (GTerm.mk op n nl1 gty nl2 ks)).is (share r)) (res_ex _ fun f p h=>ZR _ _ f p h)
  have hfl0:∀ a b c d e,(LV.ha a b c d e).flat=true∧(LV.ha a b c d e).cells.length=1:=fun _ _ _ _ _=>⟨rfl,rfl⟩
  have hce0:∀ a b c d e,(LV.ha a b c d e).cells=[.ha a b c d e]:=fun _ _ _ _ _=>rfl
  simp (disch:=omega) [Zbm,Qt,Qo,GTerm.cells,hm,hfl0,hce0]
  refine WS ks.length 0 (fun i t h=>∃ ds Qj nds uds hr,TypJ s (ctx.map Prod.snd) op n gty ks i t h ds Qj nds uds hr) (fun t h=>∃ ds Qj nds uds hr,TypJ s (ctx.map Prod.snd) op n gty ks ks.length t h ds Qj nds uds hr) ?_ (by omega) ?_ ?_
  ·refine ⟨[],[],[],[],[],by simp [TT.are],rfl,⟨fun i x h=>by simp at h,fun _ x h=>by simp at h⟩,by simp,rfl,rfl,fun j h=>by simp at h,fun j h=>by simp at h,by simp,by simp,by simp,by simp,?_⟩
   simp [zeros]
  ·rintro i t1 hh hf hi ⟨ds,Qj,nds,uds,hr,J⟩
   (have e1:=hf 1 (by kernel_rfl);have e3:=hf 3 (by kernel_rfl);have e5:=hf 5 (by kernel_rfl);have e7:=hf 7 (by kernel_rfl);have e22:=hf 22 (by kernel_rfl);have e23:=hf 23 (by kernel_rfl);clear hf;simp [] at e1 e3 e5 e7 e22 e23)
   obtain ⟨are,len,kok,tell,ulen,nlen,us,nd,nf,e24,e8,e9,rfl⟩:=J
   have gl:GTerm.cells (GTerm.mk op n nl1 gty nl2 ks)=[N op,N n,L nl1 gty,.sl false nl2 4 (Q9 ks)]:=by simp [GTerm.cells]
   simp (disch:=omega) [e1,e3,e5,e7,e22,e23,e24]
   by_cases h6:i < ks.length
   rotate_left
   ·have hb:ltB (i:Int) ks.length=false:=by rw [Qd];omega
    have hik:i=ks.length:=by omega
    simp (disch:=omega) [hb]
    exact ⟨ds,Qj,nds,uds,hr,are,by omega,kok,by rw [tell,hik],by omega,by omega,us,nd,nf,by simp [e24,hik],by simp [e8],by simp [e9],by simp⟩
   have hb:ltB (i:Int) ks.length=true:=by rw [Qf];omega
   have hdrop:=List.drop_eq_getElem_cons h6
   have hkw:(ks[i]).wf:=(ZbM.1 wks) _ (List.getElem_mem h6)
   have hkf:(ks[i]).fl:=(ZaK.1 flk) _ (List.getElem_mem h6)
   have hks:=YM h6
   have hkform:XC ((ctx.length:Int)+Qy op i) s.size true ks[i]=true:=by have:=Zg4 hforms i h6;simpa using this
   have hix:=Wq ks false nl2 i h6
   rw [hdrop] at tell
   generalize ks[i]=k at *
   have hadd:=V8 op i
   have hcs:∀ l∈ctx.map Prod.snd,okL s.size l=true:=fun l hl=>by
    obtain ⟨c,h1,rfl⟩:=List.mem_map.1 hl
    exact hc c h1
   have hty:op=9->okL s.size gty=true:=fun h=>no.typed (by subst h;simp [Xa,Qc])
   have hfirst:i≠0->okL s.size (first ds)=true∧Zgf op (hd (first ds)):=fun h=>by
    have:=kok.first (by rintro rfl;simp at len;omega)
    exact ⟨this.1,this.2.1⟩
   have hm1:∀ f,KC op nl1 gty i f=[]∨True:=fun _=>.inr trivial
   have rl:=ZoE ds Qj are
   have hmore:∃ more:Wk,more=KC op nl1 gty i (first ds):=⟨_,rfl⟩
   obtain ⟨more,hmd⟩:=hmore
   have hms:more.map Prod.snd=Qz op gty i (first ds):=by rw [hmd];exact ZrF op nl1 gty i (first ds)
   have hml:more.length=(Qy op i).toNat:=by
    have:=congrArg List.length hms
    rw [List.length_map,Zcr] at this;exact this
   have hmok:∀ c∈more++ctx,okL s.size c.2=true:=by
    intro c hcm
    rcases List.mem_append.1 hcm with hcm | hcm
    ·exact Zlr (i:=i) (f:=first ds) hty hfirst c.2 (by rw [<- hms];exact List.mem_map_of_mem hcm)
    ·exact hc c hcm
   have hmf:∀ c∈more++ctx,c.1=false:=by
    intro c hcm
    rcases List.mem_append.1 hcm with hcm | hcm
    ·rw [hmd] at hcm
     unfold KC at hcm
     split at hcm
     ·rename_i h9
      simp at hcm;subst hcm
      have:=QK (hty h9)
      cases hn:nl1 with
      | false=>rfl
      | true=>have:=fl1 hn;subst this;simp at *
     ·simp at hcm;obtain ⟨a,_,rfl⟩:=hcm;rfl
    ·exact hcf c hcm
   have cc:=ZrE [(more.isEmpty,more),(nlc,ctx)] (by simp) (by simp [lnC];omega)
   have ce:flC [(more.isEmpty,more),(nlc,ctx)]=more++ctx:=by simp [flC]
   rw [ce] at cc
   have recu:=ih k (!ltB 0 ((more++ctx).length:Int)) (more++ctx) (by omega) hkw hkf hmok hmf (by rw [List.length_append];omega) (by rw [List.length_append,show ((more.length+ctx.length:Nat):Int)=ctx.length+Qy op i by omega];exact hkform)
   rw [List.map_append,hms] at recu
   clear hmok hmf ce
   generalize more++ctx=mc at cc recu
   have hg0:∀ r:Int×List Int,Wi s (ctx.map Prod.snd) op n gty ds (k::List.drop (i+1) ks)=.bad r.1 r.2->Qr s (ctx.map Prod.snd) (GTerm.mk op n nl1 gty nl2 ks)=.bad r.1 r.2:=fun r h=>by rw [Qr,tell,h]
   have hgoodI:∀ x,Qr s (Qz op gty i (first ds)++ctx.map Prod.snd) k=.ok x->x.good s ((ctx.map Prod.snd).length+(Qy op i).toNat):=fun x hx=>by
    have:=Zbb t k (Qz op gty i (first ds)++ctx.map Prod.snd) x (by rw [<- len];exact ext_ok hcs (fun h=>hty h) kok)
     (by rw [List.length_append,Zcr,cxl,show (((Qy op i).toNat+ctx.length:Nat):Int)=ctx.length+Qy op i by omega];exact hkform) hx
    rw [List.length_append,Zcr,Nat.add_comm] at this
    exact this
   have hbadI:∀ f p,Qr s (Qz op gty i (first ds)++ctx.map Prod.snd) k=.bad f p->Qr s (ctx.map Prod.snd) (GTerm.mk op n nl1 gty nl2 ks)=.bad f ((i:Int)::p):=fun f p h =>
    hg0 (f,(i:Int)::p) (by rw [Wi,len,h])
   have hfbI:∀ x,Qr s (Qz op gty i (first ds)++ctx.map Prod.snd) k=.ok x->QU s op n i (hd x.ty)≠0->Qr s (ctx.map Prod.snd) (GTerm.mk op n nl1 gty nl2 ks)=.bad (QU s op n i (hd x.ty)) []:=fun x h h2 =>
    hg0 (QU s op n i (hd x.ty),[]) (by rw [Wi,len,h];simp only;rw [if_pos h2])
   have hsameI:∀ x,Qr s (Qz op gty i (first ds)++ctx.map Prod.snd) k=.ok x->QU s op n i (hd x.ty)=0->(op=10∧i=1∧x.ty≠QA (first ds))->Qr s (ctx.map Prod.snd) (GTerm.mk op n nl1 gty nl2 ks)=.bad 3 []:=fun x h h2 h3 =>
    hg0 (3,[]) (by rw [Wi,len,h];simp only;rw [if_neg (by simpa using h2),if_pos h3])
   have hnextI:∀ x,Qr s (Qz op gty i (first ds)++ctx.map Prod.snd) k=.ok x->QU s op n i (hd x.ty)=0->¬ (op=10∧i=1∧x.ty≠QA (first ds))->Wi s (ctx.map Prod.snd) op n gty [] ks=Wi s (ctx.map Prod.snd) op n gty (ds++[x]) (List.drop (i+1) ks):=fun x h h2 h3=>by
    rw [tell,Wi,len,h];simp only;rw [if_neg (by simpa using h2),if_neg h3]
   have hthree:(i=0∧op≠9)∨(i=0∧op=9)∨0 < i:=by omega
   rcases hthree with ⟨hi0,h9⟩ | ⟨hi0,h9⟩ | hi0
   ·subst hi0
    simp only [Int.natCast_zero] at hb hix e24
    have h9b:eqB op 9=false:=by rw [Qb];exact h9
    have hz:ltB 0 0=false:=by rw [Qd];omega
    have hme:more=[]:=List.eq_nil_of_length_eq_zero (by rw [hml];unfold Qy;rw [if_neg (by omega),if_neg (by omega)];rfl)
    have em:LV.sl false true 1 []=LV.sl false more.isEmpty 1 (more.map fun c=>[eC c]):=by rw [hme];rfl
    simp (disch:=omega) [e1,e3,e5,e7,e8,e9,e22,e23,e24,hb,hix,h9b,hz,Qn]
    rw [em]
    refine Qa cc (by simp) ?_
    simp (disch:=omega) [e1,e3,e5,e7,e8,e9,e22,e23,e24,hb,hix]
    refine Qp recu (by simp) ?_
    intro r hr1
    cases hT:Qr s (Qz op gty 0 (first ds)++List.map Prod.snd ctx) k with
    | bad f p =>
     rw [hT] at hr1
     obtain ⟨hf0,n4,hsr2⟩:=hr1
     have hfb:eqB f 0=false:=by rw [Qb];exact hf0
     have hpl:=Zbs k _ f p hT
     have hpm:1+p.length<=WX:=by unfold WX;omega
     have hres:=hbadI f p hT
     simp (disch:=omega) [e1,e3,e5,e7,e8,e9,e22,e23,e24,hb,hix,hsr2,hfb,Qn,Wy,hpm,Qt]
     refine QM (.inr rfl) (by simp) (ZbE (f:=f) (u:=true) (nl:=false) (p:=(0:Int)::p) (by simp) ?_)
     rw [hres]
     exact ⟨hf0,false,by simp⟩
    | ok x =>
     have hgood:=hgoodI x hT
     have hfb:=hfbI x hT
     have hsame:=hsameI x hT
     have hnext:=hnextI x hT
     rw [hT] at hr1
     obtain ⟨xty,xnd,xks⟩:=x
     have hxis:(TT.mk xty xnd xks).is (share r):=hr1
     simp only [Res.is,TT.is] at hr1
     obtain ⟨n3,n4,xrows,hsr2,hxr⟩:=hr1
     simp only [TT.ty_mk] at hfb hsame hnext
     have hgt:okL s.size xty=true:=hgood.1
     have fo:=Zez t (GTerm.mk op n nl1 gty nl2 ks) op n nl1 gty nl2 ks rfl 0 (by omega) xty hgt no.op13 (fun h=>no.grade (by rcases h with h | h | h<;>(subst h;simp [XH,Qc])))
     simp only [GTerm.lv,GTerm.cells] at fo
     simp (disch:=omega) [e1,e3,e5,e7,e8,e9,e22,e23,e24,hb,hix,hsr2,Qn]
     refine Qa fo (by simp) ?_
     simp (disch:=omega) [e1,e3,e5,e7,e8,e9,e22,e23,e24,hb,hix,hsr2,Qn]
     by_cases hq:QU s op n 0 (hd xty)=0
     ·rw [hq]
      have hz0:eqB 0 0=true:=by rw [Qc]
      simp (disch:=omega) [e1,e3,e5,e7,e8,e9,e22,e23,e24,hb,hix,hsr2,Qn,hz0]
      by_cases h10:op=10
      ·by_cases h19:op=9
       ·exfalso;omega
       ·have h10b:eqB op 10=true:=by rw [Qc];exact h10
        by_cases hi1:0=1
        ·exfalso;omega
        ·have hi1b:eqB 0 1=false:=by rw [Qb];omega
         have hxl:xnd.length=ctx.length+more.length:=by have:=hgood.2.1;rw [cxl] at this;rw [hml];exact this
         have hak:∀ v,Wy 1 (.sl true ds.isEmpty 1 Qj) (.sl true false 1 [[v]])=some (.sl true false 1 (Qj++[[v]])):=fun v=>by
          simp only [Wy]
          rw [if_pos ⟨.inl trivial,.inl trivial,.inl trivial,by simp [WX];omega⟩]
          simp
         have hau:=Zci (c:=uds) (by omega) false xnd more.length
         have han:=Zcz (c:=nds) (by omega) false xnd more.length
         have hc1:=Zce (n2:=false) (l:=xnd) (k:=more.length) (by omega)
         have hc2:=ZM (n2:=false) (l:=xnd) (k:=more.length) (by omega)
         have hxs:=(XK _ xrows hxr).1
         have hnot:¬ (op=10∧0=1∧xty≠QA (first ds)):=fun h=>hi1 h.2.1
         have fin:∀ (T:Nat->LV) (H:List Box),T 24=N (0+1)->T 8=ZbS (nds++[(false,xnd.drop more.length)])->T 9=ZbS (uds++[(false,xnd.take more.length)])->H=none::none::some ((zeros (ctx.map Prod.snd).length).map N)::ZhI (.sl true true 1 []) (.ha 2 1 0 (ctx.map Prod.snd).length (ctx.map Prod.snd).length) true (ds++[TT.mk xty xnd xks]).isEmpty (Qj++[[share r]])::(hr++[some k.cells])->0 < ks.length∧∃ ds Qj nds uds hr,TypJ s (ctx.map Prod.snd) op n gty ks (0+1) T H ds Qj nds uds hr:=fun T H q1 q2 q3 q4 =>
          ⟨h6,ds++[TT.mk xty xnd xks],Qj++[[share r]],nds++[(false,xnd.drop more.length)],uds++[(false,xnd.take more.length)],hr++[some k.cells],Za2 ds Qj _ _ are hxis,by simp [len],
           kok.snoc (by rw [len];exact hgood) (by rw [len];exact hq) (by rw [len];exact hnot),hnext hq hnot,by simp [ulen],by simp [nlen],
           Ku us (fun j hj=>by unfold usP;rw [ZF (by omega)]) (by unfold usP;rw [YE (by omega),hml,ulen];rfl),
           Ku nd (fun j hj=>by unfold ndP;rw [ZF (by omega)]) (by unfold ndP;rw [YE (by omega),hml,nlen];rfl),(ZeW nf),
           by simpa using q1,q2,q3,q4⟩
         simp (disch:=omega) [e1,e3,e5,e7,e8,e9,e22,e23,e24,hb,hix,hsr2,Qn,h10b,hi1b,J8,Zk,hak,hau,han,hc1,hc2,hxs,Qg]
         first
          | exact fin _ _ (by simp) (by simp) (by simp) (by simp [hsr2])
          | (trace_state;simp (disch:=omega) [e1,e3,e5,e7,e8,e9,e22,e23,e24,hb,hix,hsr2,Qn,h10b,hi1b,J8,Zk,hak,hau,han,hc1,hc2,hxs,Qg];exact fin _ _ (by simp) (by simp) (by simp) (by simp [hsr2]))
      ·have h10b:eqB op 10=false:=by rw [Qb];exact h10
       have hxl:xnd.length=ctx.length+more.length:=by have:=hgood.2.1;rw [cxl] at this;rw [hml];exact this
       have hak:∀ v,Wy 1 (.sl true ds.isEmpty 1 Qj) (.sl true false 1 [[v]])=some (.sl true false 1 (Qj++[[v]])):=fun v=>by
        simp only [Wy]
        rw [if_pos ⟨.inl trivial,.inl trivial,.inl trivial,by simp [WX];omega⟩]
        simp
       have hau:=Zci (c:=uds) (by omega) false xnd more.length
       have han:=Zcz (c:=nds) (by omega) false xnd more.length
       have hc1:=Zce (n2:=false) (l:=xnd) (k:=more.length) (by omega)
       have hc2:=ZM (n2:=false) (l:=xnd) (k:=more.length) (by omega)
       have hxs:=(XK _ xrows hxr).1
       have hnot:¬ (op=10∧0=1∧xty≠QA (first ds)):=fun h=>h10 h.1
       have fin:∀ (T:Nat->LV) (H:List Box),T 24=N (0+1)->T 8=ZbS (nds++[(false,xnd.drop more.length)])->T 9=ZbS (uds++[(false,xnd.take more.length)])->H=none::none::some ((zeros (ctx.map Prod.snd).length).map N)::ZhI (.sl true true 1 []) (.ha 2 1 0 (ctx.map Prod.snd).length (ctx.map Prod.snd).length) true (ds++[TT.mk xty xnd xks]).isEmpty (Qj++[[share r]])::(hr++[some k.cells])->0 < ks.length∧∃ ds Qj nds uds hr,TypJ s (ctx.map Prod.snd) op n gty ks (0+1) T H ds Qj nds uds hr:=fun T H q1 q2 q3 q4 =>
        ⟨h6,ds++[TT.mk xty xnd xks],Qj++[[share r]],nds++[(false,xnd.drop more.length)],uds++[(false,xnd.take more.length)],hr++[some k.cells],Za2 ds Qj _ _ are hxis,by simp [len],
         kok.snoc (by rw [len];exact hgood) (by rw [len];exact hq) (by rw [len];exact hnot),hnext hq hnot,by simp [ulen],by simp [nlen],
         Ku us (fun j hj=>by unfold usP;rw [ZF (by omega)]) (by unfold usP;rw [YE (by omega),hml,ulen];rfl),
         Ku nd (fun j hj=>by unfold ndP;rw [ZF (by omega)]) (by unfold ndP;rw [YE (by omega),hml,nlen];rfl),(ZeW nf),
         by simpa using q1,q2,q3,q4⟩
       simp (disch:=omega) [e1,e3,e5,e7,e8,e9,e22,e23,e24,hb,hix,hsr2,Qn,h10b,J8,Zk,hak,hau,han,hc1,hc2,hxs,Qg]
       first
        | exact fin _ _ (by simp) (by simp) (by simp) (by simp [hsr2])
        | (trace_state;simp (disch:=omega) [e1,e3,e5,e7,e8,e9,e22,e23,e24,hb,hix,hsr2,Qn,h10b,J8,Zk,hak,hau,han,hc1,hc2,hxs,Qg];exact fin _ _ (by simp) (by simp) (by simp) (by simp [hsr2]))
     ·have hq0:eqB (QU s op n 0 (hd xty)) 0=false:=by rw [Qb];exact hq
      have hres:=hfb hq
      simp (disch:=omega) [e1,e3,e5,e7,e8,e9,e22,e23,e24,hb,hix,hsr2,Qn,hq0,Qt]
      refine QM (.inr rfl) (by simp) (ZbE (f:=QU s op n 0 (hd xty)) (u:=true) (nl:=true) (p:=[]) (by simp) ?_)
      rw [hres]
      exact ⟨hq,true,by simp⟩
   ·subst hi0
    simp only [Int.natCast_zero] at hb hix e24
    have h9b:eqB op 9=true:=by rw [Qc];exact h9
    have hz:ltB 0 0=false:=by rw [Qd];omega
    have had:=Zm7 (GTerm.mk op n nl1 gty nl2 ks) op n nl1 gty nl2 ks rfl no.op13 0 (by omega) true [] (size:=s.size) (fun h=>absurd rfl h)
    have hmd':KC op nl1 gty 0 []=more:=by rw [hmd];simp [KC,h9]
    rw [hmd'] at had
    simp only [GTerm.lv,GTerm.cells] at had
    simp (disch:=omega) [e1,e3,e5,e7,e8,e9,e22,e23,e24,hb,hix,h9b,hz,Qn]
    refine Qa had (by simp) ?_
    simp (disch:=omega) [e1,e3,e5,e7,e8,e9,e22,e23,e24,hb,hix,h9b,hz,Qn]
    refine Qa cc (by simp) ?_
    simp (disch:=omega) [e1,e3,e5,e7,e8,e9,e22,e23,e24,hb,hix]
    refine Qp recu (by simp) ?_
    intro r hr1
    cases hT:Qr s (Qz op gty 0 (first ds)++List.map Prod.snd ctx) k with
    | bad f p =>
     rw [hT] at hr1
     obtain ⟨hf0,n4,hsr2⟩:=hr1
     have hfb:eqB f 0=false:=by rw [Qb];exact hf0
     have hpl:=Zbs k _ f p hT
     have hpm:1+p.length<=WX:=by unfold WX;omega
     have hres:=hbadI f p hT
     simp (disch:=omega) [e1,e3,e5,e7,e8,e9,e22,e23,e24,hb,hix,hsr2,hfb,Qn,Wy,hpm,Qt]
     refine QM (.inr rfl) (by simp) (ZbE (f:=f) (u:=true) (nl:=false) (p:=(0:Int)::p) (by simp) ?_)
     rw [hres]
     exact ⟨hf0,false,by simp⟩
    | ok x =>
     have hgood:=hgoodI x hT
     have hfb:=hfbI x hT
     have hsame:=hsameI x hT
     have hnext:=hnextI x hT
     rw [hT] at hr1
     obtain ⟨xty,xnd,xks⟩:=x
     have hxis:(TT.mk xty xnd xks).is (share r):=hr1
     simp only [Res.is,TT.is] at hr1
     obtain ⟨n3,n4,xrows,hsr2,hxr⟩:=hr1
     simp only [TT.ty_mk] at hfb hsame hnext
     have hgt:okL s.size xty=true:=hgood.1
     have fo:=Zez t (GTerm.mk op n nl1 gty nl2 ks) op n nl1 gty nl2 ks rfl 0 (by omega) xty hgt no.op13 (fun h=>no.grade (by rcases h with h | h | h<;>(subst h;simp [XH,Qc])))
     simp only [GTerm.lv,GTerm.cells] at fo
     simp (disch:=omega) [e1,e3,e5,e7,e8,e9,e22,e23,e24,hb,hix,hsr2,Qn]
     refine Qa fo (by simp) ?_
     simp (disch:=omega) [e1,e3,e5,e7,e8,e9,e22,e23,e24,hb,hix,hsr2,Qn]
     by_cases hq:QU s op n 0 (hd xty)=0
     ·rw [hq]
      have hz0:eqB 0 0=true:=by rw [Qc]
      simp (disch:=omega) [e1,e3,e5,e7,e8,e9,e22,e23,e24,hb,hix,hsr2,Qn,hz0]
      have h10b:eqB op 10=false:=by rw [Qb];omega
      have hxl:xnd.length=ctx.length+more.length:=by have:=hgood.2.1;rw [cxl] at this;rw [hml];exact this
      have hak:∀ v,Wy 1 (.sl true ds.isEmpty 1 Qj) (.sl true false 1 [[v]])=some (.sl true false 1 (Qj++[[v]])):=fun v=>by
       simp only [Wy]
       rw [if_pos ⟨.inl trivial,.inl trivial,.inl trivial,by simp [WX];omega⟩]
       simp
      have hau:=Zci (c:=uds) (by omega) false xnd more.length
      have han:=Zcz (c:=nds) (by omega) false xnd more.length
      have hc1:=Zce (n2:=false) (l:=xnd) (k:=more.length) (by omega)
      have hc2:=ZM (n2:=false) (l:=xnd) (k:=more.length) (by omega)
      have hxs:=(XK _ xrows hxr).1
      have hnot:¬ (op=10∧0=1∧xty≠QA (first ds)):=fun h=>by omega
      have fin:∀ (T:Nat->LV) (H:List Box),T 24=N (0+1)->T 8=ZbS (nds++[(false,xnd.drop more.length)])->T 9=ZbS (uds++[(false,xnd.take more.length)])->H=none::none::some ((zeros (ctx.map Prod.snd).length).map N)::ZhI (.sl true true 1 []) (.ha 2 1 0 (ctx.map Prod.snd).length (ctx.map Prod.snd).length) true (ds++[TT.mk xty xnd xks]).isEmpty (Qj++[[share r]])::(hr++[some k.cells])->0 < ks.length∧∃ ds Qj nds uds hr,TypJ s (ctx.map Prod.snd) op n gty ks (0+1) T H ds Qj nds uds hr:=fun T H q1 q2 q3 q4 =>
       ⟨h6,ds++[TT.mk xty xnd xks],Qj++[[share r]],nds++[(false,xnd.drop more.length)],uds++[(false,xnd.take more.length)],hr++[some k.cells],Za2 ds Qj _ _ are hxis,by simp [len],
        kok.snoc (by rw [len];exact hgood) (by rw [len];exact hq) (by rw [len];exact hnot),hnext hq hnot,by simp [ulen],by simp [nlen],
        Ku us (fun j hj=>by unfold usP;rw [ZF (by omega)]) (by unfold usP;rw [YE (by omega),hml,ulen];rfl),
        Ku nd (fun j hj=>by unfold ndP;rw [ZF (by omega)]) (by unfold ndP;rw [YE (by omega),hml,nlen];rfl),(ZeW nf),
        by simpa using q1,q2,q3,q4⟩
      simp (disch:=omega) [e1,e3,e5,e7,e8,e9,e22,e23,e24,hb,hix,hsr2,Qn,h10b,J8,Zk,hak,hau,han,hc1,hc2,hxs,Qg]
      first
       | exact fin _ _ (by simp) (by simp) (by simp) (by simp [hsr2])
       | (trace_state;simp (disch:=omega) [e1,e3,e5,e7,e8,e9,e22,e23,e24,hb,hix,hsr2,Qn,h10b,J8,Zk,hak,hau,han,hc1,hc2,hxs,Qg];exact fin _ _ (by simp) (by simp) (by simp) (by simp [hsr2]))
     ·have hq0:eqB (QU s op n 0 (hd xty)) 0=false:=by rw [Qb];exact hq
      have hres:=hfb hq
      simp (disch:=omega) [e1,e3,e5,e7,e8,e9,e22,e23,e24,hb,hix,hsr2,Qn,hq0,Qt]
      refine QM (.inr rfl) (by simp) (ZbE (f:=QU s op n 0 (hd xty)) (u:=true) (nl:=true) (p:=[]) (by simp) ?_)
      rw [hres]
      exact ⟨hq,true,by simp⟩
   ·have hz:ltB 0 (i:Int)=true:=by rw [Qf];omega
    have had:=Zm7 (GTerm.mk op n nl1 gty nl2 ks) op n nl1 gty nl2 ks rfl no.op13 i (by omega) false (first ds) (size:=s.size) (fun h=>⟨rfl,hfirst h⟩)
    rw [<- hmd] at had
    simp only [GTerm.lv,GTerm.cells] at had
    have hsr:=(XK ds Qj are).1
    obtain ⟨q3,q4,qr,hx0,_⟩:=Zsc are false ds.isEmpty 0 (by omega)
    simp only [Int.natCast_zero] at hx0
    have hqs:∀ rws,Qv rws=rws->Qv rws=rws:=fun _ h=>h
    simp (disch:=omega) [e1,e3,e5,e7,e8,e9,e22,e23,e24,hb,hix,hz,hsr,hx0,Qn]
    refine Qa had (by simp) ?_
    simp (disch:=omega) [e1,e3,e5,e7,e8,e9,e22,e23,e24,hb,hix,hz,hsr,Qn]
    refine Qa cc (by simp) ?_
    simp (disch:=omega) [e1,e3,e5,e7,e8,e9,e22,e23,e24,hb,hix]
    refine Qp recu (by simp) ?_
    intro r hr1
    cases hT:Qr s (Qz op gty i (first ds)++List.map Prod.snd ctx) k with
    | bad f p =>
     rw [hT] at hr1
     obtain ⟨hf0,n4,hsr2⟩:=hr1
     have hfb:eqB f 0=false:=by rw [Qb];exact hf0
     have hpl:=Zbs k _ f p hT
     have hpm:1+p.length<=WX:=by unfold WX;omega
     have hres:=hbadI f p hT
     simp (disch:=omega) [e1,e3,e5,e7,e8,e9,e22,e23,e24,hb,hix,hsr2,hfb,Qn,Wy,hpm,Qt]
     refine QM (.inr rfl) (by simp) (ZbE (f:=f) (u:=true) (nl:=false) (p:=(i:Int)::p) (by simp) ?_)
     rw [hres]
     exact ⟨hf0,false,by simp⟩
    | ok x =>
     have hgood:=hgoodI x hT
     have hfb:=hfbI x hT
     have hsame:=hsameI x hT
     have hnext:=hnextI x hT
     rw [hT] at hr1
     obtain ⟨xty,xnd,xks⟩:=x
     have hxis:(TT.mk xty xnd xks).is (share r):=hr1
     simp only [Res.is,TT.is] at hr1
     obtain ⟨n3,n4,xrows,hsr2,hxr⟩:=hr1
     simp only [TT.ty_mk] at hfb hsame hnext
     have hgt:okL s.size xty=true:=hgood.1
     have fo:=Zez t (GTerm.mk op n nl1 gty nl2 ks) op n nl1 gty nl2 ks rfl i (by omega) xty hgt no.op13 (fun h=>no.grade (by rcases h with h | h | h<;>(subst h;simp [XH,Qc])))
     simp only [GTerm.lv,GTerm.cells] at fo
     simp (disch:=omega) [e1,e3,e5,e7,e8,e9,e22,e23,e24,hb,hix,hsr2,Qn]
     refine Qa fo (by simp) ?_
     simp (disch:=omega) [e1,e3,e5,e7,e8,e9,e22,e23,e24,hb,hix,hsr2,Qn]
     by_cases hq:QU s op n i (hd xty)=0
     ·rw [hq]
      have hz0:eqB 0 0=true:=by rw [Qc]
      simp (disch:=omega) [e1,e3,e5,e7,e8,e9,e22,e23,e24,hb,hix,hsr2,Qn,hz0]
      by_cases h10:op=10
      ·by_cases h19:op=9
       ·exfalso;omega
       ·have h10b:eqB op 10=true:=by rw [Qc];exact h10
        by_cases hi1:i=1
        ·have hi1b:eqB (i:Int) 1=true:=by rw [Qc];omega
         have hxs0:=(XK _ xrows hxr).1
         simp (disch:=omega) [e1,e3,e5,e7,e8,e9,e22,e23,e24,hb,hix,hsr2,Qn,h10b,hi1b,hsr,hx0,hxs0,J8,Zk]
         have hf1:=hfirst (by omega)
         refine Qa (Zfa (l:=tyP ds 0) (Ye hf1.1)) (by simp) ?_
         rw [Vy (l:=tyP ds 0) (ZcE (hf1.2.2.2.2.1 h10))]
         have hx1:QP 1 (.sl true false 1 [[L false (QA (tyP ds 0))],[L false (QX (tyP ds 0))]]) 0=some (.rp [L false (QA (tyP ds 0))]):=by simp [QP]
         simp (disch:=omega) [e1,e3,e5,e7,e8,e9,e22,e23,e24,hb,hix,hsr2,Qn,hx1]
         have hlx:=QK hgt
         refine Qa (ZgK false false xty (QA (tyP ds 0)) (by omega)) (by simp) ?_
         cases he:(xty == QA (tyP ds 0))
         ·have he2:xty≠QA (tyP ds 0):=by simpa using he
          have hres:=hsame hq ⟨h10,hi1,he2⟩
          simp (disch:=omega) [e1,e3,e5,e7,e8,e9,e22,e23,e24,hb,hix,hsr2,Qn,Qt]
          refine QM (.inr rfl) (by simp) (ZbE (f:=3) (u:=true) (nl:=true) (p:=[]) (by simp) ?_)
          rw [hres]
          exact ⟨by omega,true,by simp⟩
         ·have he':xty=QA (first ds):=by simpa [first] using he
          have hxl:xnd.length=ctx.length+more.length:=by have:=hgood.2.1;rw [cxl] at this;rw [hml];exact this
          have hak:∀ v,Wy 1 (.sl true ds.isEmpty 1 Qj) (.sl true false 1 [[v]])=some (.sl true false 1 (Qj++[[v]])):=fun v=>by
           simp only [Wy]
           rw [if_pos ⟨.inl trivial,.inl trivial,.inl trivial,by simp [WX];omega⟩]
           simp
          have hau:=Zci (c:=uds) (by omega) false xnd more.length
          have han:=Zcz (c:=nds) (by omega) false xnd more.length
          have hc1:=Zce (n2:=false) (l:=xnd) (k:=more.length) (by omega)
          have hc2:=ZM (n2:=false) (l:=xnd) (k:=more.length) (by omega)
          have hxs:=(XK _ xrows hxr).1
          have hnot:¬ (op=10∧i=1∧xty≠QA (first ds)):=fun h=>h.2.2 he'
          have fin:∀ (T:Nat->LV) (H:List Box),T 24=N ((i:Int)+1)->T 8=ZbS (nds++[(false,xnd.drop more.length)])->T 9=ZbS (uds++[(false,xnd.take more.length)])->H=none::none::some ((zeros (ctx.map Prod.snd).length).map N)::ZhI (.sl true true 1 []) (.ha 2 1 0 (ctx.map Prod.snd).length (ctx.map Prod.snd).length) true (ds++[TT.mk xty xnd xks]).isEmpty (Qj++[[share r]])::(hr++[some k.cells])->i < ks.length∧∃ ds Qj nds uds hr,TypJ s (ctx.map Prod.snd) op n gty ks (i+1) T H ds Qj nds uds hr:=fun T H q1 q2 q3 q4 =>
           ⟨h6,ds++[TT.mk xty xnd xks],Qj++[[share r]],nds++[(false,xnd.drop more.length)],uds++[(false,xnd.take more.length)],hr++[some k.cells],Za2 ds Qj _ _ are hxis,by simp [len],
            kok.snoc (by rw [len];exact hgood) (by rw [len];exact hq) (by rw [len];exact hnot),hnext hq hnot,by simp [ulen],by simp [nlen],
            Ku us (fun j hj=>by unfold usP;rw [ZF (by omega)]) (by unfold usP;rw [YE (by omega),hml,ulen];rfl),
            Ku nd (fun j hj=>by unfold ndP;rw [ZF (by omega)]) (by unfold ndP;rw [YE (by omega),hml,nlen];rfl),(ZeW nf),
            by simpa using q1,q2,q3,q4⟩
          simp (disch:=omega) [e1,e3,e5,e7,e8,e9,e22,e23,e24,hb,hix,hsr2,Qn,h10b,hi1b,J8,Zk,hak,hau,han,hc1,hc2,hxs,Qg]
          first
           | exact fin _ _ (by simp) (by simp) (by simp) (by simp [hsr2])
           | (trace_state;simp (disch:=omega) [e1,e3,e5,e7,e8,e9,e22,e23,e24,hb,hix,hsr2,Qn,h10b,hi1b,J8,Zk,hak,hau,han,hc1,hc2,hxs,Qg];exact fin _ _ (by simp) (by simp) (by simp) (by simp [hsr2]))
        ·have hi1b:eqB (i:Int) 1=false:=by rw [Qb];omega
         have hxl:xnd.length=ctx.length+more.length:=by have:=hgood.2.1;rw [cxl] at this;rw [hml];exact this
         have hak:∀ v,Wy 1 (.sl true ds.isEmpty 1 Qj) (.sl true false 1 [[v]])=some (.sl true false 1 (Qj++[[v]])):=fun v=>by
          simp only [Wy]
          rw [if_pos ⟨.inl trivial,.inl trivial,.inl trivial,by simp [WX];omega⟩]
          simp
         have hau:=Zci (c:=uds) (by omega) false xnd more.length
         have han:=Zcz (c:=nds) (by omega) false xnd more.length
         have hc1:=Zce (n2:=false) (l:=xnd) (k:=more.length) (by omega)
         have hc2:=ZM (n2:=false) (l:=xnd) (k:=more.length) (by omega)
         have hxs:=(XK _ xrows hxr).1
         have hnot:¬ (op=10∧i=1∧xty≠QA (first ds)):=fun h=>hi1 h.2.1
         have fin:∀ (T:Nat->LV) (H:List Box),T 24=N ((i:Int)+1)->T 8=ZbS (nds++[(false,xnd.drop more.length)])->T 9=ZbS (uds++[(false,xnd.take more.length)])->H=none::none::some ((zeros (ctx.map Prod.snd).length).map N)::ZhI (.sl true true 1 []) (.ha 2 1 0 (ctx.map Prod.snd).length (ctx.map Prod.snd).length) true (ds++[TT.mk xty xnd xks]).isEmpty (Qj++[[share r]])::(hr++[some k.cells])->i < ks.length∧∃ ds Qj nds uds hr,TypJ s (ctx.map Prod.snd) op n gty ks (i+1) T H ds Qj nds uds hr:=fun T H q1 q2 q3 q4 =>
          ⟨h6,ds++[TT.mk xty xnd xks],Qj++[[share r]],nds++[(false,xnd.drop more.length)],uds++[(false,xnd.take more.length)],hr++[some k.cells],Za2 ds Qj _ _ are hxis,by simp [len],
           kok.snoc (by rw [len];exact hgood) (by rw [len];exact hq) (by rw [len];exact hnot),hnext hq hnot,by simp [ulen],by simp [nlen],
           Ku us (fun j hj=>by unfold usP;rw [ZF (by omega)]) (by unfold usP;rw [YE (by omega),hml,ulen];rfl),
           Ku nd (fun j hj=>by unfold ndP;rw [ZF (by omega)]) (by unfold ndP;rw [YE (by omega),hml,nlen];rfl),(ZeW nf),
           by simpa using q1,q2,q3,q4⟩
         simp (disch:=omega) [e1,e3,e5,e7,e8,e9,e22,e23,e24,hb,hix,hsr2,Qn,h10b,hi1b,J8,Zk,hak,hau,han,hc1,hc2,hxs,Qg]
         first
          | exact fin _ _ (by simp) (by simp) (by simp) (by simp [hsr2])
          | (trace_state;simp (disch:=omega) [e1,e3,e5,e7,e8,e9,e22,e23,e24,hb,hix,hsr2,Qn,h10b,hi1b,J8,Zk,hak,hau,han,hc1,hc2,hxs,Qg];exact fin _ _ (by simp) (by simp) (by simp) (by simp [hsr2]))
      ·have h10b:eqB op 10=false:=by rw [Qb];exact h10
       have hxl:xnd.length=ctx.length+more.length:=by have:=hgood.2.1;rw [cxl] at this;rw [hml];exact this
       have hak:∀ v,Wy 1 (.sl true ds.isEmpty 1 Qj) (.sl true false 1 [[v]])=some (.sl true false 1 (Qj++[[v]])):=fun v=>by
        simp only [Wy]
        rw [if_pos ⟨.inl trivial,.inl trivial,.inl trivial,by simp [WX];omega⟩]
        simp
       have hau:=Zci (c:=uds) (by omega) false xnd more.length
       have han:=Zcz (c:=nds) (by omega) false xnd more.length
       have hc1:=Zce (n2:=false) (l:=xnd) (k:=more.length) (by omega)
       have hc2:=ZM (n2:=false) (l:=xnd) (k:=more.length) (by omega)
       have hxs:=(XK _ xrows hxr).1
       have hnot:¬ (op=10∧i=1∧xty≠QA (first ds)):=fun h=>h10 h.1
       have fin:∀ (T:Nat->LV) (H:List Box),T 24=N ((i:Int)+1)->T 8=ZbS (nds++[(false,xnd.drop more.length)])->T 9=ZbS (uds++[(false,xnd.take more.length)])->H=none::none::some ((zeros (ctx.map Prod.snd).length).map N)::ZhI (.sl true true 1 []) (.ha 2 1 0 (ctx.map Prod.snd).length (ctx.map Prod.snd).length) true (ds++[TT.mk xty xnd xks]).isEmpty (Qj++[[share r]])::(hr++[some k.cells])->i < ks.length∧∃ ds Qj nds uds hr,TypJ s (ctx.map Prod.snd) op n gty ks (i+1) T H ds Qj nds uds hr:=fun T H q1 q2 q3 q4 =>
        ⟨h6,ds++[TT.mk xty xnd xks],Qj++[[share r]],nds++[(false,xnd.drop more.length)],uds++[(false,xnd.take more.length)],hr++[some k.cells],Za2 ds Qj _ _ are hxis,by simp [len],
         kok.snoc (by rw [len];exact hgood) (by rw [len];exact hq) (by rw [len];exact hnot),hnext hq hnot,by simp [ulen],by simp [nlen],
         Ku us (fun j hj=>by unfold usP;rw [ZF (by omega)]) (by unfold usP;rw [YE (by omega),hml,ulen];rfl),
         Ku nd (fun j hj=>by unfold ndP;rw [ZF (by omega)]) (by unfold ndP;rw [YE (by omega),hml,nlen];rfl),(ZeW nf),
         by simpa using q1,q2,q3,q4⟩
       simp (disch:=omega) [e1,e3,e5,e7,e8,e9,e22,e23,e24,hb,hix,hsr2,Qn,h10b,J8,Zk,hak,hau,han,hc1,hc2,hxs,Qg]
       first
        | exact fin _ _ (by simp) (by simp) (by simp) (by simp [hsr2])
        | (trace_state;simp (disch:=omega) [e1,e3,e5,e7,e8,e9,e22,e23,e24,hb,hix,hsr2,Qn,h10b,J8,Zk,hak,hau,han,hc1,hc2,hxs,Qg];exact fin _ _ (by simp) (by simp) (by simp) (by simp [hsr2]))
     ·have hq0:eqB (QU s op n i (hd xty)) 0=false:=by rw [Qb];exact hq
      have hres:=hfb hq
      simp (disch:=omega) [e1,e3,e5,e7,e8,e9,e22,e23,e24,hb,hix,hsr2,Qn,hq0,Qt]
      refine QM (.inr rfl) (by simp) (ZbE (f:=QU s op n i (hd xty)) (u:=true) (nl:=true) (p:=[]) (by simp) ?_)
      rw [hres]
      exact ⟨hq,true,by simp⟩
  ·rintro t1 hh hf ⟨ds,Qj,nds,uds,hr,J⟩
   (have e1:=hf 1 (by kernel_rfl);have e3:=hf 3 (by kernel_rfl);have e5:=hf 5 (by kernel_rfl);have e7:=hf 7 (by kernel_rfl);clear hf;simp [] at e1 e3 e5 e7)
   obtain ⟨are,len,kok,tell,ulen,nlen,us,nd,nf,e24,e8,e9,rfl⟩:=J
   rw [List.drop_length,Wi] at tell
   simp (disch:=omega) [e1,e3,e5,e7,e8,e9]
   have no':NodeOk s ctx.length op n gty ds.length:=by rw [len];exact no
   have kok':KidsOk s ctx.length op n ds:=by rw [<- cxl];exact kok
   have hnd:∀ j,j < ds.length->QP 1 (LC nds.isEmpty nds) (j:Int)=some (.rp [L false (ndP op ds j)]):=fun j hj=>by
    have h1:=nf _ (List.getElem_mem (show j < nds.length by omega))
    rw [Kl nds nds.isEmpty j (by omega),<- nd j (by omega)]
    show some (LV.rp [L (nds[j]'(by omega)).1 (nds[j]'(by omega)).2])=_
    rw [h1]
   have hud:∀ j,j < ds.length->∃ f,QP 1 (LC uds.isEmpty uds) (j:Int)=some (.rp [L f (usP op ds j)]):=fun j hj =>
    ⟨(uds[j]'(by omega)).1,by rw [Kl uds uds.isEmpty j (by omega),<- us j (by omega)]⟩
   have fin:=ZrL hsy nlc ctx (by omega) hc hcf op n nl1 gty nl2 ks ds no' kok' Qj are true ds.isEmpty nds.isEmpty uds.isEmpty nds uds hnd hud hr ctx.length rfl
   simp only [GTerm.lv,GTerm.cells] at fin
   refine Qm (by simpa only [cxl] using fin) ?_
   rintro r h' ⟨rfl,T,ndv,c2,hr',rfl,hfin⟩
   have hT:Qr s (ctx.map Prod.snd) (GTerm.mk op n nl1 gty nl2 ks)=if (Q0 s (ctx.map Prod.snd) op n gty ds).1=0 then .ok (.mk (Q0 s (ctx.map Prod.snd) op n gty ds).2.1 (Q0 s (ctx.map Prod.snd) op n gty ds).2.2 ds) else .bad (Q0 s (ctx.map Prod.snd) op n gty ds).1 []:=by
    rw [Qr,tell]
   generalize Q0 s (ctx.map Prod.snd) op n gty ds=q at hfin hT
   obtain ⟨F,Q1,Q2⟩:=q
   simp only at hfin hT
   have hsr:=XK ds Qj are
   by_cases hF:F=0
   ·subst hF
    obtain ⟨⟨u,rfl⟩,hn⟩:=hfin rfl
    rw [if_pos rfl] at hT
    have hz0:eqB 0 0=true:=by rw [Qc]
    simp (disch:=omega) [e1,e3,e5,e7,hz0]
    refine QM (.inr rfl) (by simp) ?_
    simp
    refine fz_ok hsr.2 hn fun u2=>?_
    rw [hT]
    exact ⟨ds.isEmpty,true,Qj,by simp [hsr.1],are⟩
   ·have hF0:eqB F 0=false:=by rw [Qb];exact hF
    rw [if_neg hF] at hT
    simp (disch:=omega) [e1,e3,e5,e7,hF0,Qt]
    refine QM (.inr rfl) (by simp) (ZbE (f:=F) (u:=true) (nl:=true) (p:=[]) (by simp) ?_)
    rw [hT]
    exact ⟨hF,true,by simp⟩
theorem Qe.low {P:Program} {f:FuncId} {args:List LV} {R:LV->Prop} (c:Qe P f args R):Qe P f args (fun r=>R r∧Low 0 r) :=
 QE.mono c fun r h' h=>⟨h,h.2⟩
def GTerm.termB (size n:Int) (t:GTerm):Bool:=Wc n 0 8 && (decide (t.size<=400) && XC n size true t)
def inB (s:GSys) (ctx:Wk) (t:GTerm):Bool:=s.sys && (ZhL s.size ctx && t.termB s.size ctx.length)
theorem has_fn {s:GSys} (t:s.Tab) (n:Int) (h:I64 n):FnB Tryz.prog (.fnm WD [s.lv]) (N n) (Wc n 0 (s.size - 1)):=by
 have h2:=t.lo;have h16:=t.hi
 exact ⟨WD,[s.lv,N n],by simp [ZW],by simp,Zre s ⟨by omega,by omega⟩ (by omega) n⟩
theorem ZlY {s:GSys} (t:s.Tab) (nl:Bool) (ty:List Int) (h:Lok ty):FnB Tryz.prog (.fn YR [.rp s.cells]) (L nl ty) (wty ty && J5 s.size true ty):=by
 refine ⟨YR,[L nl ty,.rp s.cells],by simp [ZW],by simp,?_⟩
 refine Qe.of_codeOf Zg5 Qx (by simp) ⟨_,rfl,by simp⟩ ?_
 simp (disch:=omega) [ZbO]
 refine Qa (ZeO t nl ty h) (by simp) ?_
 simp (disch:=omega)
theorem ZpI {s:GSys} (t:s.Tab) (g:GTerm) (hw:g.wf) (n:Int) (hn:I64 n):Qe Tryz.prog Zax [s.lv,g.lv,N n] (·=B (g.termB s.size n)):=by
 refine Qe.of_codeOf Zi0 Qx (by simp) ⟨_,rfl,by simp⟩ ?_
 by_cases hr:Wc n 0 8=true
 ·rw [Wb] at hr
  have hc:=check_ok (.fnm WD [s.lv]) (.fn YR [.rp s.cells]) (fun m=>Wc m 0 (s.size - 1)) (fun ty=>wty ty && J5 s.size true ty) (by simp) (by simp) (by simp) (by simp) (fun m hm=>has_fn t m hm) (fun nl ty h=>ZlY t nl ty h) g.size g (by omega) hw n 0 (by omega) (by omega) (by omega) (by omega)
  rw [ZqG (size:=s.size) (closed:=true) (fun m=>by rw [Bool.eq_iff_iff];simp [Wc,Qf,Qd,Qi,Qh,Qc,Qb,Bool.not_true,Bool.not_false];omega) (fun ty=>rfl)] at hc
  have h2:leB (ZhQ (XC n s.size true g) 0 g.size) 400=g.termB s.size n:=by
   rw [Bool.eq_iff_iff]
   simp only [Qf,Qd,Qi,Qh,Qc,Qb,Bool.not_true,Bool.not_false,ZhQ,GTerm.termB,Bool.and_eq_true,decide_eq_true_eq,Wb]
   split<;>grind
  have hr':Wc n 0 8=true:=by rw [Wb];exact hr
  simp (disch:=omega) [Zap,Qt,Qo]
  refine Qa (J3 n 0 8) (by simp) ?_
  simp (disch:=omega) [hr']
  refine Qa hc (by simp) ?_
  simp (disch:=omega) [h2]
 ·have hr':Wc n 0 8=false:=by simpa using hr
  simp (disch:=omega) [Zap,Qt,Qo]
  refine Qa (J3 n 0 8) (by simp) ?_
  simp (disch:=omega) [hr',GTerm.termB]
theorem ZnN {ctx:Wk} (h:ctx.wf):I64 (ctx.length:Int):=by have:=h.1;unfold I64;omega
structure Arg (s:GSys) (ctx:Wk) (g:GTerm):Prop where
 sw:s.wf
 cw:ctx.wf
 gw:g.wf
 cf:∀ c∈ctx,flOk c.1 c.2
 gf:g.fl
theorem Arg.flags {s:GSys} {ctx:Wk} {g:GTerm} (a:Arg s ctx g) (h:ZhL s.size ctx=true):(∀ c∈ctx,okL s.size c.2=true)∧(∀ c∈ctx,c.1=false)∧ctx.length<=8:=by
 unfold ZhL at h
 rw [Bool.and_eq_true,Qi,Zb] at h
 have hk:∀ c∈ctx,okL s.size c.2=true:=by
  intro c hc
  obtain ⟨i,hi,rfl⟩:=List.getElem_of_mem hc
  have:=h.2 i hi
  rw [Zob hi] at this
  exact this
 refine ⟨hk,fun c hc=>?_,by omega⟩
 cases hn:c.1 with
 | false=>rfl
 | true=>have:=a.cf c hc hn;have:=QK (hk c hc);simp_all
theorem Zrw {s:GSys} {ctx:Wk} {g:GTerm} (a:Arg s ctx g) (nlc:Bool):Qe Tryz.prog Zbk [s.lv,LC nlc ctx,g.lv] (fun r=>if inB s ctx g=true then (Qr s (ctx.map Prod.snd) g).is (share r) else r=.sc (.pointer none)):=by
 refine Qe.of_codeOf ZjP Qx (by simp) ?_ ?_
 ·by_cases h:inB s ctx g=true
  ·obtain ⟨ys,h1,h2⟩:=res_ex (Qr s (ctx.map Prod.snd) g) fun f p h=>ZR _ _ f p h
   exact ⟨.rp ys,by rw [if_pos h];exact h1,by simpa using h2⟩
  ·exact ⟨.sc (.pointer none),by rw [if_neg h],by simp⟩
 simp (disch:=omega) [Zex,Qt,Qo]
 refine Qa (ZiZ s a.sw) (by simp) ?_
 cases hs:s.sys
 ·simp (disch:=omega) [inB,hs]
 ·have t:=GSys.sys_of hs
  simp (disch:=omega)
  refine Qa (ZoM s t nlc ctx a.cw) (by simp) ?_
  cases hc:ZhL s.size ctx
  ·simp (disch:=omega) [inB,hs,hc]
  ·simp (disch:=omega)
   refine Qa (ZpI t g a.gw ctx.length (ZnN a.cw)) (by simp) ?_
   cases ht:g.termB s.size ctx.length
   ·simp (disch:=omega) [inB,hs,hc,ht]
   ·have hin:inB s ctx g=true:=by simp [inB,hs,hc,ht]
    obtain ⟨f1,f2,f3⟩:=a.flags hc
    have ht':=ht
    unfold GTerm.termB at ht'
    simp only [Bool.and_eq_true,decide_eq_true_eq] at ht'
    have ty:=typ_ok hs g.size g nlc ctx (Nat.le_refl _) a.gw a.gf f1 f2 (by omega) ht'.2.2
    simp (disch:=omega) [take_cells]
    refine Qp (Qe.low ty) (by simp) ?_
    rintro r ⟨hr,lo⟩
    simp (disch:=omega) [hin,hr,lo]
def Z2 (s:GSys) (ctx:Wk) (g:GTerm):Option TT:=if inB s ctx g=true then (match Qr s (ctx.map Prod.snd) g with
 | .ok x=>some x
 | .bad _ _=>none) else none
def told3 (x:Option TT) (r:LV):Prop:=match x with
 | some x=>r=.tup [OU true false x.ty,OU true false x.needs,B true]
 | none=>r=.tup [.sl false true 1 [],.sl false true 1 [],B false]
theorem VE {s:GSys} {ctx:Wk} {g:GTerm} (a:Arg s ctx g) {x:TT} (h:Z2 s ctx g=some x):x.good s ctx.length∧s.sys=true∧ZhL s.size ctx=true∧g.termB s.size ctx.length=true∧ctx.length<=8∧Qr s (ctx.map Prod.snd) g=.ok x:=by
 unfold Z2 at h
 split at h
 ·rename_i hin
  unfold inB at hin
  simp only [Bool.and_eq_true] at hin
  obtain ⟨h1,h2,h3⟩:=hin
  obtain ⟨f1,f2,f3⟩:=a.flags h2
  split at h
  ·rename_i y hy
   simp only [Option.some.injEq] at h
   subst h
   have h4:=h3
   unfold GTerm.termB at h4
   simp only [Bool.and_eq_true,decide_eq_true_eq] at h4
   have:=Zbb (GSys.sys_of h1) g (ctx.map Prod.snd) y (fun l hl=>by
    obtain ⟨c,hc,rfl⟩:=List.mem_map.1 hl
    exact f1 c hc) (by rw [List.length_map];exact h4.2.2) hy
   rw [List.length_map] at this
   exact ⟨this,h1,h2,h3,f3,hy⟩
  ·simp at h
 ·simp at h
theorem ZsD (ys:List LV):XB .ptr .eql (.rp ys) (.sc (.pointer none))=some (B false):=rfl
theorem bin_pnil:XB .ptr .eql (.sc (.pointer none)) (.sc (.pointer none))=some (B true):=rfl
theorem Zs6 {s:GSys} {ctx:Wk} {g:GTerm} (a:Arg s ctx g) (nlc:Bool):Qe Tryz.prog Zb0 [s.lv,LC nlc ctx,g.lv] (told3 (Z2 s ctx g)):=by
 refine Qe.of_codeOf Zm0 Qx (by simp) ?_ ?_
 ·cases h:Z2 s ctx g with
  | some x=>exact ⟨_,rfl,by simp⟩
  | none=>exact ⟨_,rfl,by simp⟩
 simp (disch:=omega) [Zfy,Qt,Qo]
 refine Qp (Qe.low (Zrw a nlc)) (by simp) ?_
 rintro r ⟨hr,lo⟩
 by_cases hin:inB s ctx g=true
 ·rw [if_pos hin] at hr
  cases hT:Qr s (ctx.map Prod.snd) g with
  | ok x =>
   have hx:Z2 s ctx g=some x:=by simp [Z2,hin,hT]
   obtain ⟨hg,_,_,_,hc8,_⟩:=VE a hx
   rw [hT] at hr
   obtain ⟨ty,nd,ks⟩:=x
   simp only [Res.is,TT.is] at hr
   obtain ⟨n3,n4,Qj,hs2,hrr⟩:=hr
   have hty:=QK hg.1
   have hnd:=hg.2.1
   simp only [TT.ty_mk,TT.needs_mk] at hty hnd
   rw [hx]
   have hz0:eqB 0 0=true:=by rw [Qc]
   have hrs:=(XK _ Qj hrr).1
   simp (disch:=omega) [hs2,hz0,hrs,ZsD]
   refine Qa (Zhc false ty (by omega)) (by simp) ?_
   simp (disch:=omega) [hs2,hz0,hrs,cl]
   refine Qa (Zhc false nd (by omega)) (by simp) ?_
   simp (disch:=omega) [hs2,hz0,hrs,cl,told3]
  | bad f p =>
   have hx:Z2 s ctx g=none:=by simp [Z2,hin,hT]
   rw [hT] at hr
   obtain ⟨hf,n4,hs2⟩:=hr
   have hf0:eqB f 0=false:=by rw [Qb];exact hf
   rw [hx]
   simp (disch:=omega) [hs2,hf0,told3,ZsD]
 ·rw [if_neg hin] at hr
  subst hr
  have hx:Z2 s ctx g=none:=by simp [Z2,hin]
  rw [hx]
  simp (disch:=omega) [told3,bin_pnil]
def mmLV (mx:Bool) (x y:LV):Option LV:=match x,y with
 | .sc (.int k a),.sc (.int _ b)=>some (.sc (.int k (if (if mx then b > a else b < a) then b else a)))
 | _,_=>none
@[simp] theorem step_mm {s:St} {d:Nat} {mx:Bool} {x y:X}:TL.step (.minmax d mx x y) s=(mmLV mx (TL.get s.t x) (TL.get s.t y)).map (s.put d):=by
 simp only [TL.step,mmLV]
 split<;>simp_all
@[simp] theorem mm_min {k k':IntKind} {a b:Int}:mmLV false (.sc (.int k a)) (.sc (.int k' b))=some (.sc (.int k (if b < a then b else a))):=by simp [mmLV]
@[simp] theorem mm_max {k k':IntKind} {a b:Int}:mmLV true (.sc (.int k a)) (.sc (.int k' b))=some (.sc (.int k (if a < b then b else a))):=by simp [mmLV]
def tabL {α:Type} (f:Nat->Nat->α) (size a b:Nat):List α:=((List.range a).flatMap fun x=>(List.range size).map fun y=>f x y)++(List.range b).map fun y=>f a y
abbrev OI (l:List Int):LV:=.sl true l.isEmpty 1 (l.map fun n=>[N n])
abbrev OBl (l:List Bool):LV:=.sl true l.isEmpty 1 (l.map fun b=>[B b])
def nPl (n a b:Nat):Int:=min ((a:Int)+b) (n+1)
def nTm (n a b:Nat):Int:=min ((a:Int) * b) (n+1)
def nBl (n:Nat) (bound:Bool) (a b:Nat):Bool:=eqB a b || (eqB b (n+1) || (bound && leB a b))
set_option linter.unusedSectionVars false
def andI (a b:Int):Int:=IntKind.i64.wrap (BitVec.ofInt 64 a &&& BitVec.ofInt 64 b).toNat
def xorI (a b:Int):Int:=IntKind.i64.wrap (BitVec.ofInt 64 a ^^^ BitVec.ofInt 64 b).toNat
def shrI (a b:Int):Int:=a.fdiv (2 ^ (min b.toNat 64))
@[simp] theorem bin_and {a b:Int}:XB .num .and (N a) (N b)=some (N (andI a b)):=rfl
@[simp] theorem bin_xor {a b:Int}:XB .num .xor (N a) (N b)=some (N (xorI a b)):=rfl
@[simp] theorem bin_shr {a b:Int}:XB .num .shr (N a) (.sc (.int .u64 b))=if b < 0 then none else some (N (shrI a b)):=by simp [XB,shrI,IntKind.bits]
theorem Zhr {a b:Int}:XB .num .rem (N a) (N b)=if b=0 then none else some (N (a.tmod b)):=by
 simp only [XB,KS]
 by_cases h:b=0<;>simp [h]
def lX (n a:Nat):Int:=((n:Int)+1 - a).tmod (n+1)
def lPl (n a b:Nat):Int:=((n:Int)+1 - max (lX n a) (lX n b)).tmod (n+1)
def lTm (n a b:Nat):Int:=((n:Int)+1 - min (lX n a) (lX n b)).tmod (n+1)
def lBl (n a b:Nat):Bool:=leB (lX n a) (lX n b)
abbrev Zij (size:Nat) (p t:Nat->Nat->Int) (b:Nat->Nat->Bool):LV:=.agg [N size,OI (tabL p size size 0),OI (tabL t size size 0),OBl (tabL b size size 0)]
def Zic (n g:Int):Int:=if g=0 then 0 else if g=1 then 1 else if g<=n+1 then (g - 1).tdiv n else g.tdiv n
def Ze3 (n g:Int):Int:=if g < 2 then g else if g<=n+1 then (g - 1).tmod n else g.tmod n
def pairI (n x y:Int):Int:=if x * n+y=0 then 0 else if x * n+y=n+1 then 1 else if x * n+y < n+1 then x * n+y+1 else x * n+y
def tabG (size:Nat) (p t:Nat->Nat->Int) (b:Nat->Nat->Bool):GSys :=
 ⟨size,(tabL p size size 0).isEmpty,tabL p size size 0,(tabL t size size 0).isEmpty,tabL t size size 0,(tabL b size size 0).isEmpty,tabL b size size 0⟩
theorem ZsX (size:Nat) (p t:Nat->Nat->Int) (b:Nat->Nat->Bool):share (Zij size p t b)=(tabG size p t b).lv:=by simp [Zij,tabG]
def pPl (a b:GSys) (n:Nat) (g h:Nat):Int:=pairI n (a.pl (Zic n g) (Zic n h)) (b.pl (Ze3 n g) (Ze3 n h))
def pTm (a b:GSys) (n:Nat) (g h:Nat):Int:=pairI n (a.tm (Zic n g) (Zic n h)) (b.tm (Ze3 n g) (Ze3 n h))
def pBl (a b:GSys) (n:Nat) (g h:Nat):Bool:=a.le (Zic n g) (Zic n h) && b.le (Ze3 n g) (Ze3 n h)
set_option maxRecDepth 100000
inductive DS where
 | count (n:Nat) | bound (n:Nat) | level (n:Nat) | prod (n:Nat)
def DS.ok:DS->Bool
 | .count n=>decide (1<=n) && decide (n<=3)
 | .bound n=>decide (1<=n) && decide (n<=3)
 | .level n=>decide (1<=n) && decide (n<=3)
 | .prod n=>decide (1<=n) && decide (n<=2)
def cntG (n:Nat) (bound:Bool):GSys:=tabG (n+2) (nPl n) (nTm n) (nBl n bound)
def levG (n:Nat):GSys:=tabG (n+1) (lPl n) (lTm n) (lBl n)
def prodG (n:Nat):GSys:=tabG (3 * (n+1)) (pPl (cntG 1 false) (levG n) (n+1)) (pTm (cntG 1 false) (levG n) (n+1)) (pBl (cntG 1 false) (levG n) (n+1))
def DS.sys:DS->GSys
 | .count n=>cntG n false
 | .bound n=>cntG n true
 | .level n=>levG n
 | .prod n=>prodG n
def DS.lv:DS->LV
 | .count n=>Zij (n+2) (nPl n) (nTm n) (nBl n false)
 | .bound n=>Zij (n+2) (nPl n) (nTm n) (nBl n true)
 | .level n=>Zij (n+1) (lPl n) (lTm n) (lBl n)
 | .prod n=>Zij (3 * (n+1)) (pPl (cntG 1 false) (levG n) (n+1)) (pTm (cntG 1 false) (levG n) (n+1)) (pBl (cntG 1 false) (levG n) (n+1))
theorem DS.share (d:DS):share d.lv=d.sys.lv:=by
 cases d<;>simp only [DS.lv,DS.sys,cntG,levG,prodG,ZsX]
theorem Zlu {l r:List Int} {u nl:Bool} (h:l.length+r.length<=1099511627776):Wy 1 (OU true false l) (OU u nl r)=some (OU true false (l++r)):=by
 simp only [Wy]
 rw [if_pos ⟨.inl trivial,.inl trivial,.inl trivial,by simp only [List.length_map];exact h⟩]
 simp only [Bool.true_or,Bool.false_and]
 rw [OU,List.map_append]
def ZaH (c:Int) (ctx:Wk) (k:Nat):List Int:=c::((ctx.take k).map (·.2)).flatten
theorem Zr9 (c:Int) (ctx:Wk) (k:Nat) (h:k < ctx.length):ZaH c ctx (k+1)=ZaH c ctx k++ctx[k].2:=by
 rw [ZaH,ZaH,List.take_succ_eq_append_getElem h,List.map_append,List.flatten_append,List.cons_append]
 simp only [List.map_cons,List.map_nil,List.flatten_cons,List.flatten_nil,List.append_nil]
theorem ZsY (c:Int) (ctx:Wk) (k:Nat) (h:k<=ctx.length):(ZaH c ctx k).length<=1+cws ctx:=by
 have key:∀ (ctx:Wk),((ctx.map (·.2)).flatten).length=cws ctx:=by
  intro ctx
  induction ctx with
  | nil=>simp [cws]
  | cons a l ih=>simp [cws,ih]
 have h2:∀ (ctx:Wk) (k:Nat),cws (ctx.take k)<=cws ctx:=by
  intro ctx
  induction ctx with
  | nil=>intro k;simp
  | cons a l ih=>intro k;cases k with
   | zero=>simp [cws]
   | succ k=>simp [cws];exact ih k
 simp only [ZaH,List.length_cons,key]
 have:=h2 ctx k
 omega
theorem Znm (c:Int) (nl:Bool) (ctx:Wk) (hw:ctx.length<=1000000) (hl:cws ctx<=1000000000):Qe Tryz.prog XP [N c,LC nl ctx] (·=OU true false (c::(ctx.map (·.2)).flatten)):=by
 obtain ⟨z,hz⟩:∃ z,c::(ctx.map (·.2)).flatten=z:=⟨_,rfl⟩
 rw [hz]
 refine Qe.of_codeOf Zmx Qx (by simp) ⟨_,rfl,by simp⟩ ?_
 simp (disch:=omega) [Zfx]
 refine WS ctx.length 0 (fun i t _=>t 6=N i∧t 5=OU true false (ZaH c ctx i)) (fun t _=>t 5=OU true false z) (by simp [ZaH]) (by omega) ?_ ?_
 ·rintro i t1 hh hf hi ⟨e6,e5⟩
  (have e1:=hf 1 (by kernel_rfl);clear hf;simp [] at e1)
  simp (disch:=omega) [e1,e5,e6]
  (with_reducible first | refine Qk (fun h1=>?_) (fun h1=>?_) | refine Ql (fun h1=>?_) (fun h1=>?_))
  ·simp only [Qf,Qd,Qi,Qh,Qc,Qb,Bool.not_true,Bool.not_false] at h1
   simp (disch:=omega) [e1,e5,e6,Kl]
   have hm:=Zjx (List.getElem_mem (show i < ctx.length by omega))
   have hg:=ZsY c ctx i (by omega)
   rw [Zlu (by omega),<- Zr9 c ctx i (by omega)]
   simp (disch:=omega) [e1,e5,e6,Qg]
   omega
  ·simp only [Qf,Qd,Qi,Qh,Qc,Qb,Bool.not_true,Bool.not_false] at h1
   simp (disch:=omega) [e5]
   rw [show i=ctx.length by omega,<- hz];simp [ZaH]
 ·rintro t1 hh hf e5
  simp (disch:=omega) [e5]
theorem ZrH (c:Int) (nl n1:Bool) (a:List Int) (hl:a.length<=100000):Qe Tryz.prog XP [N c,.sl false nl 1 [[L n1 a]]] (·=OU true false (c::a)):=by
 have:=Znm c nl [(n1,a)] (by simp) (by simp [cws];omega)
 simp only [List.map_cons,List.map_nil,List.flatten_cons,List.flatten_nil,List.append_nil] at this
 exact this
theorem ZcS (c:Int) (nl n1 n2:Bool) (a b:List Int) (ha:a.length<=100000) (hb:b.length<=100000):Qe Tryz.prog XP [N c,.sl false nl 1 [[L n1 a],[L n2 b]]] (·=OU true false (c::(a++b))):=by
 have:=Znm c nl [(n1,a),(n2,b)] (by simp) (by simp [cws];omega)
 simp only [List.map_cons,List.map_nil,List.flatten_cons,List.flatten_nil,List.append_nil] at this
 exact this
mutual
def RT.gr (size:Int) (data:Bool):RT->Prop
 | .nd c ks=>okC size true c=true∧(data=true->QW c=false)∧grs size data ks
def grs (size:Int) (data:Bool):List RT->Prop
 | []=>True
 | t::ts=>RT.gr size data t∧grs size data ts
end
theorem KF (nl:Bool) (l:List Int) (hl:l.length<=1099511627776):Qe Tryz.prog Yk [L nl l] (·=OU true false l):=by
 refine Qe.of_codeOf ZlU Qx (by simp) ⟨_,rfl,by simp⟩ ?_
 have hm:l.length<=WX:=hl
 simp (disch:=omega) [Zfw,Qn,Wy,hm]
theorem Zcc (n1 n2:Bool) (a b:List Int) (ha:a.length<=1099511627776):Qe Tryz.prog YX [L n1 a,L n2 b] (·=B (a == b)):=by
 generalize hq:(a == b)=q
 refine Qe.of_codeOf Zm5 Qx (by simp) ⟨_,rfl,by simp⟩ ?_
 simp (disch:=omega) [ZfB]
 (with_reducible first | refine Qk (fun h1=>?_) (fun h1=>?_) | refine Ql (fun h1=>?_) (fun h1=>?_))
 ·simp (disch:=omega) [h1]
  simp only [Qf,Qd,Qi,Qh,Qc,Qb,Bool.not_true,Bool.not_false] at h1
  refine Wf a.length 0 (fun i t _=>t 5=N i∧q=(a.drop i == b.drop i)) (by simp [hq]) (by omega) ?_
  rintro i t1 hh hf hi ⟨e5,hj⟩
  (have e0:=hf 0 (by kernel_rfl);have e1:=hf 1 (by kernel_rfl);clear hf;simp [] at e0 e1)
  simp (disch:=omega) [e0,e1,e5]
  (with_reducible first | refine Qk (fun h6=>?_) (fun h6=>?_) | refine Ql (fun h6=>?_) (fun h6=>?_))
  ·simp only [Qf,Qd,Qi,Qh,Qc,Qb,Bool.not_true,Bool.not_false] at h6
   have hd1:=List.drop_eq_getElem_cons (l:=a) (i:=i) (by omega)
   have hd2:=List.drop_eq_getElem_cons (l:=b) (i:=i) (by omega)
   have hq2:q=(a[i]'(by omega) == b[i]'(by omega) && (a.drop (i+1) == b.drop (i+1))):=by rw [hj,hd1,hd2];rfl
   clear hd1 hd2 hj
   simp (disch:=omega) [e0,e1,e5,Xv]
   repeat' (first
  | (with_reducible (first | refine Qk (fun hb_=>?_) (fun hb_=>?_) | refine Ql (fun hb_=>?_) (fun hb_=>?_))<;>simp (disch:=omega) [hb_,e0,e1,e5,Qg])
  | simp (disch:=omega) [e0,e1,e5,Qg])
   all_goals simp only [Qf,Qd,Qi,Qh,Qc,Qb,Bool.not_true,Bool.not_false] at hb_
   ·exact ⟨by omega,by simp [hq2,hb_]⟩
   ·simp [hq2,hb_]
  ·simp only [Qf,Qd,Qi,Qh,Qc,Qb,Bool.not_true,Bool.not_false] at h6
   simp (disch:=omega)
   rw [hj,List.drop_of_length_le (by omega),List.drop_of_length_le (by omega)];simp
 ·simp (disch:=omega) [h1]
  simp only [Qf,Qd,Qi,Qh,Qc,Qb,Bool.not_true,Bool.not_false] at h1
  rw [<- hq];simp;intro h;exact h1 (by rw [h])
theorem ZaV (n:Nat) (hn:n<=1099511627776):Qe Tryz.prog ZO [N n] (·=OU true false (zeros n)):=by
 refine Qe.of_codeOf Zmk Qx (by simp) ⟨_,rfl,by simp⟩ ?_
 have hm:(n:Int)<=(WX:Nat):=by unfold WX;omega
 simp (disch:=omega) [ZfH,hm]
 have e:List.replicate n (N 0)=(zeros n).map N:=by simp [zeros]
 have hz:(zeros n).length=n:=by simp [zeros]
 have:=Zsw (h0:=[]) (z:=(zeros n).map N) (l:=zeros n) rfl
 rw [hz] at this
 simp only [List.nil_append,List.length_nil] at this
 first
  | (rw [e,this];simp)
def Zf2 (s:GSys) (a:List Int) (g:Int) (b:List Int):List Int:=List.zipWith (fun x y=>s.pl x (s.tm g y)) a b
theorem ZL {s:GSys} (t:s.Tab) (n1 n2:Bool) (a:List Int) (g:Int) (hg:s.G g) (b:List Int) (hl:a.length<=1000000) (hab:a.length=b.length) (ha:∀ u∈a,s.G u) (hb:∀ u∈b,s.G u) :
  Qe Tryz.prog Yd [s.lv,L n1 a,N g,L n2 b] (·=OU true false (Zf2 s a g b)):=by
 obtain ⟨z,hze⟩:∃ z,z=Zf2 s a g b:=⟨_,rfl⟩
 have hz:z.length=a.length:=by rw [hze];simp [Zf2,hab]
 have hget:∀ (i:Nat) (h:i < a.length),z[i]'(by omega)=s.pl a[i] (s.tm g (b[i]'(by omega))):=by intro i h;simp [hze,Zf2]
 rw [<- hze];clear hze
 refine Qe.of_codeOf Zpo Qx (by simp) ⟨_,rfl,by simp⟩ ?_
 simp (disch:=omega) [Zhn,Qt,Qo,Qn]
 refine Wf a.length 0 (fun i t h=>t 10=N i∧t 9=OU true false (z.take i)∧h=[none]) (by simp) (by omega) ?_
 rintro i t1 hh hf hi ⟨e10,e9,rfl⟩
 (have e1:=hf 1 (by kernel_rfl);have e2:=hf 2 (by kernel_rfl);have e3:=hf 3 (by kernel_rfl);have e4:=hf 4 (by kernel_rfl);clear hf;simp [] at e1 e2 e3 e4)
 simp (disch:=omega) [e1,e2,e3,e4,e9,e10]
 (with_reducible first | refine Qk (fun h6=>?_) (fun h6=>?_) | refine Ql (fun h6=>?_) (fun h6=>?_))
 ·simp only [Qf,Qd,Qi,Qh,Qc,Qb,Bool.not_true,Bool.not_false] at h6
  simp (disch:=omega) [e1,e2,e3,e4,e9,e10,Xv]
  refine Qa (KW t hg (hb _ (List.getElem_mem (show i < b.length by omega)))) (by simp) ?_
  simp (disch:=omega) [e1,e2,e3,e4,e9,e10,Xv]
  refine Qa (ZeL t (ha _ (List.getElem_mem (show i < a.length by omega))) (GSys.Gtm t _ _)) (by simp) ?_
  have hst:z.take (i+1)=z.take i++[s.pl a[i] (s.tm g (b[i]'(by omega)))]:=by rw [List.take_succ_eq_append_getElem (by omega),hget i (by omega)]
  rw [hst]
  have hlt:(z.take i).length<=a.length:=by simp;omega
  generalize z.take i=y at *
  have hap:Wy 1 (OU true false y) (.sl true false 1 [[N (s.pl a[i] (s.tm g (b[i]'(by omega))))]])=some (OU true false (y++[s.pl a[i] (s.tm g (b[i]'(by omega)))])):=Zlu (l:=y) (r:=[_]) (u:=true) (nl:=false) (by simp;omega)
  simp (disch:=omega) [e1,e2,e3,e4,e9,e10,Xv,Qg,Qn]
  rw [hap]
  simp (disch:=omega) [e10,Qg]
  omega
 ·simp only [Qf,Qd,Qi,Qh,Qc,Qb,Bool.not_true,Bool.not_false] at h6
  simp (disch:=omega) [e9]
  rw [List.take_of_length_le (by simp;omega)]
  simp
theorem ZnQ {s:GSys} (t:s.Tab) (n1 n2:Bool) (a b:List Int) (hl:a.length<=1000000) (hab:a.length=b.length) (ha:∀ u∈a,s.G u) (hb:∀ u∈b,s.G u) :
  Qe Tryz.prog VU [s.lv,L n1 a,L n2 b] (·=OU true false (YC s a b)):=by
 obtain ⟨z,hze⟩:∃ z,z=YC s a b:=⟨_,rfl⟩
 have hz:z.length=a.length:=by rw [hze];simp [YC,hab]
 have hget:∀ (i:Nat) (h:i < a.length),z[i]'(by omega)=s.join a[i] (b[i]'(by omega)):=by intro i h;simp [hze,YC]
 rw [<- hze];clear hze
 refine Qe.of_codeOf Zma Qx (by simp) ⟨_,rfl,by simp⟩ ?_
 simp (disch:=omega) [ZfS,Qt,Qo,Qn]
 refine Wf a.length 0 (fun i t h=>t 8=N i∧t 7=OU true false (z.take i)∧h=[none]) (by simp) (by omega) ?_
 rintro i t1 hh hf hi ⟨e8,e7,rfl⟩
 (have e1:=hf 1 (by kernel_rfl);have e2:=hf 2 (by kernel_rfl);have e3:=hf 3 (by kernel_rfl);clear hf;simp [] at e1 e2 e3)
 simp (disch:=omega) [e1,e2,e3,e7,e8]
 (with_reducible first | refine Qk (fun h6=>?_) (fun h6=>?_) | refine Ql (fun h6=>?_) (fun h6=>?_))
 ·simp only [Qf,Qd,Qi,Qh,Qc,Qb,Bool.not_true,Bool.not_false] at h6
  simp (disch:=omega) [e1,e2,e3,e7,e8,Xv]
  refine Qa (Znp t (ha _ (List.getElem_mem (show i < a.length by omega))) (hb _ (List.getElem_mem (show i < b.length by omega)))) (by simp) ?_
  have hst:z.take (i+1)=z.take i++[s.join a[i] (b[i]'(by omega))]:=by rw [List.take_succ_eq_append_getElem (by omega),hget i (by omega)]
  rw [hst]
  have hlt:(z.take i).length<=a.length:=by simp;omega
  generalize z.take i=y at *
  have hap:Wy 1 (OU true false y) (.sl true false 1 [[N (s.join a[i] (b[i]'(by omega)))]])=some (OU true false (y++[s.join a[i] (b[i]'(by omega))])):=Zlu (l:=y) (r:=[_]) (u:=true) (nl:=false) (by simp;omega)
  simp (disch:=omega) [e1,e2,e3,e7,e8,Xv,Qg,Qn]
  rw [hap]
  simp (disch:=omega) [e8,Qg]
  omega
 ·simp only [Qf,Qd,Qi,Qh,Qc,Qb,Bool.not_true,Bool.not_false] at h6
  simp (disch:=omega) [e7]
  rw [List.take_of_length_le (by simp;omega)]
  simp
theorem Zck (n1 n2:Bool) (c f:Wk) (hc:c.length<=1000000) (hf:f.length<=1000000):Qe Tryz.prog Kn [LC n1 c,LC n2 f] (·=.sl true false 1 ((f++c).map fun x=>[eC x])):=by
 refine Qe.of_codeOf Zmf Qx (by simp) ⟨_,rfl,by simp⟩ ?_
 have h1:f.length<=WX:=by unfold WX;omega
 have h2:f.length+c.length<=WX:=by unfold WX;omega
 simp (disch:=omega) [ZfM,Qn,Wy,h1,h2]
theorem YF {size:Int} {l:List Int} (h:okL size l=true) (k:Int) (hk:W7 (hd l)=some 1∨W7 (hd l)=some 2):Qe Tryz.prog Wz [L false l,N k] (·=OU true false (if k=0 then QA l else QX l)):=by
 have hl:=QK h
 have hlok:=ZgW (Ye h)
 have he:JG l 1=1+(QA l).length∧l=hd l::(QA l++QX l):=by
  rcases hk with hk | hk
  ·obtain ⟨q1,q2,q3⟩:=ZbC h hk
   obtain ⟨u,g1,g2,_⟩:=YK.1 q3
   refine ⟨?_,by rw [q2,List.append_nil];exact q1⟩
   unfold JG
   rw [if_pos (by omega),show (1:Int).toNat=1 from rfl]
   have e:l.drop 1=u.flat++[]:=by
    conv=>lhs;rw [q1]
    rw [List.drop_one,List.tail_cons,g2,List.append_nil]
   have e2:l.length=1+u.flat.length:=by
    conv=>lhs;rw [q1]
    rw [g2];simp;omega
   rw [e,Zgb g1,e2,g2];simp
  ·obtain ⟨q1,q2,q3⟩:=Xs h hk
   obtain ⟨u,g1,g2,_⟩:=YK.1 q2
   refine ⟨?_,q1⟩
   unfold JG
   rw [if_pos (by omega),show (1:Int).toNat=1 from rfl]
   have e:l.drop 1=u.flat++QX l:=by
    conv=>lhs;rw [q1]
    rw [List.drop_one,List.tail_cons,g2]
   have e2:l.length=1+(u.flat.length+(QX l).length):=by
    conv=>lhs;rw [q1]
    rw [g2];simp;omega
   rw [e,Zgb g1,e2,g2];omega
 have hlen:l.length=1+((QA l).length+(QX l).length):=by
  have:=congrArg List.length he.2
  simpa [Nat.add_comm] using this
 have c0:ZZ 1 (L false l) (some 1) (some (1+((QA l).length:Int))) none=some (L false (QA l)):=by
  simp only [ZZ,Option.getD_none,Option.getD_some,List.length_map]
  rw [if_pos ⟨trivial,by omega,by omega,by omega,by omega⟩,show (1+((QA l).length:Int)).toNat=1+(QA l).length by omega,show (1:Int).toNat=1 from rfl,<- List.map_take,<- List.map_drop]
  have e:List.drop 1 (List.take (1+(QA l).length) l)=QA l:=by
   have h2:=he.2
   generalize QA l=p0 at *
   generalize QX l=p1 at *
   rw [h2,Nat.add_comm,List.take_succ_cons,List.drop_one,List.tail_cons,List.take_left]
  rw [e];simp only [Option.isSome_none,Bool.false_and,Zih]
 have c1:ZZ 1 (L false l) (some (1+((QA l).length:Int))) none none=some (L false (QX l)):=by
  have:=ZM (n2:=false) (l:=l) (k:=1+(QA l).length) (by omega)
  rw [show ((1+(QA l).length:Nat):Int)=1+((QA l).length:Int) by omega] at this
  rw [this]
  have e:List.drop (1+(QA l).length) l=QX l:=by
   have h2:=he.2
   generalize QA l=p0 at *
   generalize QX l=p1 at *
   rw [h2,Nat.add_comm,List.drop_succ_cons,List.drop_left]
  rw [e]
 have hend:=Zqj false l hlok 1 (by omega)
 rw [show ((1:Nat):Int)=1 from rfl,he.1] at hend
 refine Qe.of_codeOf Zl5 Qx (by simp) ⟨_,rfl,by split<;>simp⟩ ?_
 simp (disch:=omega) [ZfC]
 refine Qa hend (by simp) ?_
 simp (disch:=omega)
 by_cases h0:k=0
 ·subst h0
  have hz:eqB 0 0=true:=by rw [Qc]
  simp (disch:=omega) [hz,c0]
  refine Qa (KF false (QA l) (by omega)) (by simp) ?_
  simp (disch:=omega)
 ·have hz:eqB k 0=false:=by rw [Qb];exact h0
  simp (disch:=omega) [hz,c1,h0]
  refine Qa (KF false (QX l) (by omega)) (by simp) ?_
  simp (disch:=omega)
def Res.told:Res->LV->Prop
 | .ok x,r=>∃ u1 u2 u4 n4,r=.agg [OU u1 false x.ty,OU u2 false x.needs,N 0,.sl u4 n4 1 []]
 | .bad f p,r=>f≠0∧∃ u1 u2 u4 n4,r=.agg [.sl u1 true 1 [],.sl u2 true 1 [],N f,OU u4 n4 p]
theorem Xq (f:Int) (hf:f≠0):Qe Tryz.prog WP [N f] (Res.bad f []).told:=by
 refine Qe.of_codeOf Zon Qx (by simp) ⟨.agg [.sl false true 1 [],.sl false true 1 [],N f,.sl false true 1 []],⟨hf,false,false,false,true,by simp⟩,by simp⟩ ?_
 simp (disch:=omega) [ZgX]
 exact ⟨hf,true,true,true,true,by simp⟩
def Zkz (ty nd:List Int):Res:=if ty.length<=40 then .ok (.mk ty nd []) else .bad 3 []
theorem ZbJ (x:Res) (h:∀ f p,x=.bad f p->f≠0):∃ r,x.told r∧Low 0 r:=by
 cases x with
 | ok x=>exact ⟨.agg [L false x.ty,L false x.needs,N 0,.sl false true 1 []],⟨false,false,false,true,rfl⟩,by simp⟩
 | bad f p=>exact ⟨.agg [.sl false true 1 [],.sl false true 1 [],N f,L true p],⟨h f p rfl,false,false,false,true,rfl⟩,by simp⟩
theorem ZsQ {ty nd:List Int} {f:Int} {p:List Int} (h:Zkz ty nd=.bad f p):f≠0:=by
 unfold Zkz at h
 split at h
 ·simp at h
 ·simp at h;omega
theorem ZcD (ty nd:List Int):Qe Tryz.prog Y3 [L false ty,L false nd] (Zkz ty nd).told:=by
 refine Qe.of_codeOf ZmH Qx (by simp) (ZbJ _ fun f p h=>ZsQ h) ?_
 simp (disch:=omega) [ZfF]
 by_cases h:ty.length<=40
 ·have hb:ltB 40 (ty.length:Int)=false:=by rw [Qd];omega
  simp (disch:=omega) [hb,Zkz,h]
  exact ⟨false,false,true,true,by simp⟩
 ·have hb:ltB 40 (ty.length:Int)=true:=by rw [Qf];omega
  simp (disch:=omega) [hb,Zkz,h]
  refine Qp (Qe.low (Xq 3 (by omega))) (by simp) ?_
  rintro r ⟨⟨h3,u1,u2,u4,n4,rfl⟩,lo⟩
  simp (disch:=omega)
  exact ⟨h3,u1,u2,u4,n4,by simp⟩
def ofR (i:Nat):Res->Res
 | .ok x=>.ok x
 | .bad f p=>.bad f ((i:Int)::p)
def Res.fine:Res->Prop
 | .ok _=>True
 | .bad f p=>f≠0∧p.length<=1000000
theorem ofR_fine {i:Nat} {x:Res} (h:x.fine):∀ f p,ofR i x=.bad f p->f≠0:=by
 intro f p e
 cases x with
 | ok x=>simp [ofR] at e
 | bad f0 p0=>simp [ofR] at e;rw [<- e.1];exact h.1
theorem X3 (s:GSys) (op n:Int) (nl1:Bool) (gty:List Int) (nl2:Bool) (ks:List GTerm) (i:Nat) (hi:i < ks.length) (nlc:Bool) (ctx:Wk) (R:Res) (hR:R.fine)
  (hk:Qe Tryz.prog WZ [s.lv,LC nlc ctx,(ks[i]).lv] R.told):Qe Tryz.prog YO [s.lv,LC nlc ctx,(GTerm.mk op n nl1 gty nl2 ks).lv,N i] (ofR i R).told:=by
 refine Qe.of_codeOf ZqW Qx (by simp) (ZbJ _ (ofR_fine hR)) ?_
 have hix:=Wq ks false nl2 i hi
 simp (disch:=omega) [ZiG,Qt,Qo,GTerm.cells,hix]
 refine Qp (Qe.low hk) (by simp) ?_
 rintro r ⟨hr,lo⟩
 cases R with
 | ok x =>
  obtain ⟨u1,u2,u4,n4,rfl⟩:=hr
  have hz:eqB 0 0=true:=by rw [Qc]
  simp (disch:=omega) [hz]
  exact ⟨u1,u2,u4,n4,by simp⟩
 | bad f p =>
  obtain ⟨hf,u1,u2,u4,n4,rfl⟩:=hr
  have hf0:eqB f 0=false:=by rw [Qb];exact hf
  have hpm:1+p.length<=WX:=by have:=hR.2;unfold WX;omega
  simp (disch:=omega) [hf0,Qn,Wy,hpm]
  exact ⟨hf,u1,u2,true,false,by simp⟩
theorem Znu {size:Int} {l:List Int} (h:okL size l=true):((QH (hd l)).1=0 ↔ hd l=0)∧((QH (hd l)).1=1 ↔ hd l=1)∧((QH (hd l)).1=2 ↔ hd l=2)∧((QH (hd l)).1=3 ↔ QW (hd l)=true)∧((QH (hd l)).1=4 ↔ WJ (hd l)=true):=by
 have h1:=XX h
 obtain ⟨a,b,c,d,e,_⟩:=KL h1.2.1 h1.2.2.1
 exact ⟨a,b,c,d,e⟩
theorem sh00:(QH 0).1=0:=by decide
theorem fo2 {s:GSys} {n:Int} {i:Nat}:QU s 2 n i 0=0:=by simp [QU,Kp,sh00]
theorem fo3 {s:GSys} {n:Int}:QU s 3 n 0 0=0:=by simp [QU,Kp,sh00]
theorem fo_add {s:GSys} {n:Int} {i:Nat} {l:List Int} (h:okL s.size l=true):QU s 2 n i (hd l)=if hd l=0 then 0 else 2:=by
 obtain ⟨a,b,c,d,e⟩:=Znu h
 by_cases q:hd l=0
 ·simp [QU,Kp,q,sh00]
 ·have:¬ (QH (hd l)).1=0:=fun h=>q (a.1 h)
  simp [QU,Kp,q,this]
theorem fo_if0 {s:GSys} {n:Int} {l:List Int} (h:okL s.size l=true):QU s 3 n 0 (hd l)=if hd l=0 then 0 else 2:=by
 obtain ⟨a,b,c,d,e⟩:=Znu h
 by_cases q:hd l=0
 ·simp [QU,Kp,q,sh00]
 ·have:¬ (QH (hd l)).1=0:=fun h=>q (a.1 h)
  simp [QU,Kp,q,this]
theorem Zcm {s:GSys} {op n:Int} {i:Nat} {c:Int} (h:i≠0) (h2:op≠2):QU s op n i c=0:=by
 simp [QU,Kp,h,h2]
theorem tell_add {s:GSys} {cx:List (List Int)} {n:Int} {nl1 nl2:Bool} {gty:List Int} {a b:GTerm} {x:TT} (hA:Qr s cx a=.ok x) (hx:okL s.size x.ty=true) (h0:hd x.ty=0) (hb:∀ y,Qr s cx b=.ok y->okL s.size y.ty=true) :
  Qr s cx (.mk 2 n nl1 gty nl2 [a,b])=match Qr s cx b with
   | .bad f p=>.bad f (1::p)
   | .ok y=>if hd y.ty=0 then .ok (.mk [0] (Y6 s x.needs y.needs) [x,y]) else .bad 2 []:=by
 cases hB:Qr s cx b with
 | bad f p=>simp [Qr,Wi,Qz,Qy,hA,hB,fo2,h0]
 | ok y =>
  have:=hb y hB
  by_cases q:hd y.ty=0
  ·simp [Qr,Wi,Qz,Qy,hA,hB,fo2,h0,q,Q0,ndP]
  ·simp [Qr,Wi,Qz,Qy,hA,hB,fo2,fo_add this,h0,q]
theorem tell_if {s:GSys} {cx:List (List Int)} {n:Int} {nl1 nl2:Bool} {gty:List Int} {a b c:GTerm} {x:TT} (hA:Qr s cx a=.ok x) (hx:okL s.size x.ty=true) (h0:hd x.ty=0) :
  Qr s cx (.mk 3 n nl1 gty nl2 [a,b,c])=match Qr s cx b with
   | .bad f p=>.bad f (1::p)
   | .ok y=>match Qr s cx c with
    | .bad f p=>.bad f (2::p)
    | .ok z=>if y.ty=z.ty then .ok (.mk y.ty (Y6 s x.needs (YC s y.needs z.needs)) [x,y,z]) else .bad 3 []:=by
 cases hB:Qr s cx b with
 | bad f p=>simp [Qr,Wi,Qz,Qy,hA,hB,fo3,h0]
 | ok y =>
  cases hC:Qr s cx c with
  | bad f p=>simp [Qr,Wi,Qz,Qy,hA,hB,hC,fo3,h0,Zcm]
  | ok z =>
   by_cases q:y.ty=z.ty
   ·simp [Qr,Wi,Qz,Qy,hA,hB,hC,fo3,h0,Zcm,Q0,tyP,ndP,q]
   ·simp [Qr,Wi,Qz,Qy,hA,hB,hC,fo3,h0,Zcm,Q0,tyP,ndP,q]
def Z3 (ty nd:List Int) (ks:List TT):Res:=if ty.length<=40 then .ok (.mk ty nd ks) else .bad 3 []
section
variable {s:GSys} {cx:List (List Int)} {n:Int} {nl1 nl2:Bool} {gty:List Int} {a b c:GTerm} {x:TT}
theorem Zd {op:Int} {ks:List GTerm} {f:Int} {p:List Int} (h:Qr s (Qz op gty 0 []++cx) a=.bad f p):Qr s cx (.mk op n nl1 gty nl2 (a::ks))=.bad f (0::p):=by
 have h':Qr s (Qz op gty 0 (first [])++cx) a=.bad f p:=h
 simp [Qr,Wi,h']
theorem tell_var:Qr s cx (.mk 0 n nl1 gty nl2 [])=.ok (.mk (cx.getD n.toNat []) ((zeros cx.length).set n.toNat 1) []):=by simp [Qr,Wi,Q0]
theorem Zk9:Qr s cx (.mk 1 n nl1 gty nl2 [])=.ok (.mk [0] (zeros cx.length) []):=by simp [Qr,Wi,Q0]
theorem Zam {op n:Int} {i:Nat} {c:Int} (h:op=4∨op=6∨op=7∨op=9∨op=11):QU s op n i c=0:=by
 rcases h with rfl | rfl | rfl | rfl | rfl<;>simp [QU,Kp]
theorem fo_sh {op n:Int} {w f:Int} {l:List Int} (hw:Kp op 0=(w,f)) (hw0:0<=w) (ho:op=5∨op=8∨op=12) {q:Prop} [Decidable q] (hq:(QH (hd l)).1=w ↔ q):QU s op n 0 (hd l)=if q then (if s.le 1 n=true then 0 else 8) else f:=by
 unfold QU
 rw [hw]
 by_cases h:q
 ·rw [if_neg (by simp [hq.2 h]),if_pos h]
  cases g:s.le 1 n<;>simp [ho]
 ·have:(QH (hd l)).1≠w:=fun e=>h (hq.1 e)
  rw [if_pos ⟨hw0,this⟩,if_neg h]
theorem ZnG (hA:Qr s cx a=.ok x):Qr s cx (.mk 4 n nl1 gty nl2 [a,b])=match Qr s cx b with
  | .bad f p=>.bad f (1::p)
  | .ok y=>Z3 (1::(x.ty++y.ty)) (Y6 s x.needs y.needs) [x,y]:=by
 cases hB:Qr s cx b with
 | bad f p=>simp [Qr,Wi,Qz,Qy,hA,hB,Zam]
 | ok y =>
  by_cases q:(1::(x.ty++y.ty)).length<=40
  ·simp [Qr,Wi,Qz,Qy,hA,hB,Zam,Q0,ndP,tyP,YT,Z3,q]
   simp at q
   simp [q]
  ·simp [Qr,Wi,Qz,Qy,hA,hB,Zam,Q0,ndP,tyP,YT,Z3,q]
   simp at q
   simp [Nat.not_le.2 q]
theorem Znn (hA:Qr s cx a=.ok x):Qr s cx (.mk 6 n nl1 gty nl2 [a])=Z3 (2::(x.ty++gty)) x.needs [x]:=by
 by_cases q:(2::(x.ty++gty)).length<=40
 ·simp [Qr,Wi,Qz,Qy,hA,Zam,Q0,ndP,tyP,YT,Z3,q]
  simp at q
  simp [q]
 ·simp [Qr,Wi,Qz,Qy,hA,Zam,Q0,ndP,tyP,YT,Z3,q]
  simp at q
  simp [Nat.not_le.2 q]
theorem ZkS (hA:Qr s cx a=.ok x):Qr s cx (.mk 7 n nl1 gty nl2 [a])=Z3 (2::(gty++x.ty)) x.needs [x]:=by
 by_cases q:(2::(gty++x.ty)).length<=40
 ·simp [Qr,Wi,Qz,Qy,hA,Zam,Q0,ndP,tyP,YT,Z3,q]
  simp at q
  simp [q]
 ·simp [Qr,Wi,Qz,Qy,hA,Zam,Q0,ndP,tyP,YT,Z3,q]
  simp at q
  simp [Nat.not_le.2 q]
theorem tell_fun (hA:Qr s (gty::cx) a=.ok x):Qr s cx (.mk 9 n nl1 gty nl2 [a])=if Wr s (x.needs.take 1) n=true then Z3 ((3+n)::(gty++x.ty)) (x.needs.drop 1) [x] else .bad 9 []:=by
 by_cases u:Wr s (x.needs.take 1) n=true
 ·rw [if_pos u]
  by_cases q:((3+n)::(gty++x.ty)).length<=40
  ·simp [Qr,Wi,Qz,Qy,hA,Zam,Q0,ndP,tyP,usP,u,YT,Z3,q]
   simp at q
   simp [q]
  ·simp [Qr,Wi,Qz,Qy,hA,Zam,Q0,ndP,tyP,usP,u,YT,Z3,q]
   simp at q
   simp [Nat.not_le.2 q]
 ·rw [if_neg u]
  simp [Qr,Wi,Qz,Qy,hA,Zam,Q0,ndP,tyP,usP,u]
theorem Zpy (hA:Qr s cx a=.ok x):Qr s cx (.mk 11 n nl1 gty nl2 [a])=Z3 ((19+n)::x.ty) (Wg s n x.needs) [x]:=by
 by_cases q:((19+n)::x.ty).length<=40
 ·simp [Qr,Wi,Qz,Qy,hA,Zam,Q0,ndP,tyP,YT,Z3,q]
  simp at q
  simp [q]
 ·simp [Qr,Wi,Qz,Qy,hA,Zam,Q0,ndP,tyP,YT,Z3,q]
  simp at q
  simp [Nat.not_le.2 q]
theorem tell_app (hA:Qr s cx a=.ok x) (hx:okL s.size x.ty=true):Qr s cx (.mk 10 n nl1 gty nl2 [a,b])=if QW (hd x.ty)=true then (match Qr s cx b with
  | .bad f p=>.bad f (1::p)
  | .ok y=>if y.ty=QA x.ty then .ok (.mk (QX x.ty) (Y6 s x.needs (Wg s (QH (hd x.ty)).2 y.needs)) [x,y]) else .bad 3 []) else .bad 6 []:=by
 have fo:QU s 10 n 0 (hd x.ty)=if QW (hd x.ty)=true then 0 else 6:=by
  obtain ⟨_,_,_,d,_⟩:=Znu hx
  by_cases q:QW (hd x.ty)=true
  ·simp [QU,Kp,q,d.2 q]
  ·have:¬ (QH (hd x.ty)).1=3:=fun h=>q (d.1 h)
   simp [QU,Kp,q,this]
 by_cases q:QW (hd x.ty)=true
 ·rw [if_pos q]
  rw [if_pos q] at fo
  cases hB:Qr s cx b with
  | bad f p=>simp [Qr,Wi,Qz,Qy,hA,hB,fo]
  | ok y =>
   by_cases e:y.ty=QA x.ty
   ·simp [Qr,Wi,Qz,Qy,hA,hB,fo,Zcm,first,tyP,e,Q0,ndP]
   ·simp [Qr,Wi,Qz,Qy,hA,hB,fo,Zcm,first,tyP,e]
 ·rw [if_neg q]
  rw [if_neg q] at fo
  simp [Qr,Wi,Qz,Qy,hA,fo]
theorem Zrf (hA:Qr s cx a=.ok x) (hx:okL s.size x.ty=true):Qr s cx (.mk 5 n nl1 gty nl2 [a,b])=if hd x.ty=1 then (if s.le 1 n=true then (match Qr s (QX x.ty::QA x.ty::cx) b with
  | .bad f p=>.bad f (1::p)
  | .ok y=>if Wr s (y.needs.take 2) n=true then .ok (.mk y.ty (Y6 s (Wg s n x.needs) (y.needs.drop 2)) [x,y]) else .bad 9 []) else .bad 8 []) else .bad 4 []:=by
 have fo:=fo_sh (s:=s) (op:=5) (n:=n) (w:=1) (f:=4) (l:=x.ty) rfl (by omega) (by simp) (Znu hx).2.1
 by_cases q:hd x.ty=1
 ·rw [if_pos q] at fo ⊢
  by_cases l:s.le 1 n=true
  ·rw [if_pos l] at fo ⊢
   cases hB:Qr s (QX x.ty::QA x.ty::cx) b with
   | bad f p=>simp [Qr,Wi,Qz,Qy,hA,hB,fo,first,tyP]
   | ok y =>
    by_cases u:Wr s (y.needs.take 2) n=true
    ·simp [Qr,Wi,Qz,Qy,hA,hB,fo,Zcm,first,tyP,Q0,ndP,usP,u]
    ·simp [Qr,Wi,Qz,Qy,hA,hB,fo,Zcm,first,tyP,Q0,ndP,usP,u]
  ·rw [if_neg l] at fo ⊢
   simp [Qr,Wi,Qz,Qy,hA,fo]
 ·rw [if_neg q] at fo ⊢
  simp [Qr,Wi,Qz,Qy,hA,fo]
theorem ZsM (hA:Qr s cx a=.ok x) (hx:okL s.size x.ty=true):Qr s cx (.mk 12 n nl1 gty nl2 [a,b])=if WJ (hd x.ty)=true then (if s.le 1 n=true then (match Qr s (QA x.ty::cx) b with
  | .bad f p=>.bad f (1::p)
  | .ok y=>if Wr s (y.needs.take 1) (s.tm n (QH (hd x.ty)).2)=true then .ok (.mk y.ty (Y6 s (Wg s n x.needs) (y.needs.drop 1)) [x,y]) else .bad 9 []) else .bad 8 []) else .bad 7 []:=by
 have fo:=fo_sh (s:=s) (op:=12) (n:=n) (w:=4) (f:=7) (l:=x.ty) rfl (by omega) (by simp) (Znu hx).2.2.2.2
 by_cases q:WJ (hd x.ty)=true
 ·rw [if_pos q] at fo ⊢
  by_cases l:s.le 1 n=true
  ·rw [if_pos l] at fo ⊢
   cases hB:Qr s (QA x.ty::cx) b with
   | bad f p=>simp [Qr,Wi,Qz,Qy,hA,hB,fo,first,tyP]
   | ok y =>
    by_cases u:Wr s (y.needs.take 1) (s.tm n (QH (hd x.ty)).2)=true
    ·simp [Qr,Wi,Qz,Qy,hA,hB,fo,Zcm,first,tyP,Q0,ndP,usP,u]
    ·simp [Qr,Wi,Qz,Qy,hA,hB,fo,Zcm,first,tyP,Q0,ndP,usP,u]
  ·rw [if_neg l] at fo ⊢
   simp [Qr,Wi,Qz,Qy,hA,fo]
 ·rw [if_neg q] at fo ⊢
  simp [Qr,Wi,Qz,Qy,hA,fo]
theorem ZsW (hA:Qr s cx a=.ok x) (hx:okL s.size x.ty=true):Qr s cx (.mk 8 n nl1 gty nl2 [a,b,c])=if hd x.ty=2 then (if s.le 1 n=true then (match Qr s (QA x.ty::cx) b with
  | .bad f p=>.bad f (1::p)
  | .ok y=>match Qr s (QX x.ty::cx) c with
   | .bad f p=>.bad f (2::p)
   | .ok z=>if y.ty=z.ty then (if Wr s (y.needs.take 1) n=true∧Wr s (z.needs.take 1) n=true then .ok (.mk y.ty (Y6 s (Wg s n x.needs) (YC s (y.needs.drop 1) (z.needs.drop 1))) [x,y,z]) else .bad 9 []) else .bad 3 []) else .bad 8 []) else .bad 5 []:=by
 have fo:=fo_sh (s:=s) (op:=8) (n:=n) (w:=2) (f:=5) (l:=x.ty) rfl (by omega) (by simp) (Znu hx).2.2.1
 by_cases q:hd x.ty=2
 ·rw [if_pos q] at fo ⊢
  by_cases l:s.le 1 n=true
  ·rw [if_pos l] at fo ⊢
   cases hB:Qr s (QA x.ty::cx) b with
   | bad f p=>simp [Qr,Wi,Qz,Qy,hA,hB,fo,first,tyP]
   | ok y =>
    cases hC:Qr s (QX x.ty::cx) c with
    | bad f p=>simp [Qr,Wi,Qz,Qy,hA,hB,hC,fo,Zcm,first,tyP]
    | ok z =>
     by_cases e:y.ty=z.ty
     ·by_cases u:Wr s (y.needs.take 1) n=true∧Wr s (z.needs.take 1) n=true
      ·simp [Qr,Wi,Qz,Qy,hA,hB,hC,fo,Zcm,first,tyP,Q0,ndP,usP,u,e]
      ·simp [Qr,Wi,Qz,Qy,hA,hB,hC,fo,Zcm,first,tyP,Q0,ndP,usP,u,e]
     ·simp [Qr,Wi,Qz,Qy,hA,hB,hC,fo,Zcm,first,tyP,Q0,ndP,usP,e]
  ·rw [if_neg l] at fo ⊢
   simp [Qr,Wi,Qz,Qy,hA,fo]
 ·rw [if_neg q] at fo ⊢
  simp [Qr,Wi,Qz,Qy,hA,fo]
end
theorem Zhx (p:Int->Bool):∀ (n:Nat) (g:Nat),Yy p g n=-1∨p (Yy p g n)=true
 | 0,g=>.inl rfl
 | n+1,g=>by
  unfold Yy
  split
  ·rename_i h;exact .inr h
  ·exact Zhx p n (g+1)
structure GSys.Laws (s:GSys):Prop where
 z_pl:∀ a,s.G a->s.pl 0 a=a
 o_tm:∀ a,s.G a->s.tm 1 a=a
 tm_o:∀ a,s.G a->s.tm a 1=a
 z_tm:∀ a,s.G a->s.tm 0 a=0
 tm_z:∀ a,s.G a->s.tm a 0=0
 refl:∀ a,s.G a->s.le a a=true
 comm:∀ a b,s.G a->s.G b->s.pl a b=s.pl b a
 pl_as:∀ a b c,s.G a->s.G b->s.G c->s.pl (s.pl a b) c=s.pl a (s.pl b c)
 tm_as:∀ a b c,s.G a->s.G b->s.G c->s.tm (s.tm a b) c=s.tm a (s.tm b c)
 ldis:∀ a b c,s.G a->s.G b->s.G c->s.tm a (s.pl b c)=s.pl (s.tm a b) (s.tm a c)
 rdis:∀ a b c,s.G a->s.G b->s.G c->s.tm (s.pl a b) c=s.pl (s.tm a c) (s.tm b c)
 trans:∀ a b c,s.G a->s.G b->s.G c->s.le a b=true->s.le b c=true->s.le a c=true
 pl_mo:∀ a b c,s.G a->s.G b->s.G c->s.le a b=true->s.le (s.pl a c) (s.pl b c)=true
 tm_mr:∀ a b c,s.G a->s.G b->s.G c->s.le a b=true->s.le (s.tm a c) (s.tm b c)=true
 tm_ml:∀ a b c,s.G a->s.G b->s.G c->s.le a b=true->s.le (s.tm c a) (s.tm c b)=true
 anti:∀ a b,s.G a->s.G b->s.le a b=true->s.le b a=true->a=b
 j_l:∀ a b,s.G a->s.G b->s.le a (s.join a b)=true
 j_r:∀ a b,s.G a->s.G b->s.le b (s.join a b)=true
 j_m:∀ a b c,s.G a->s.G b->s.G c->s.le a c=true->s.le b c=true->s.le (s.join a b) c=true
theorem GSys.laws {s:GSys} (hs:s.sys=true):s.Laws:=by
 have t:=GSys.sys_of hs
 have key:∀ a b c,s.G a->s.G b->s.G c->s.one a=true∧s.two a b=true∧s.three a b c=true:=by
  intro a b c ha hb hc
  have hs':=hs
  unfold GSys.sys at hs'
  rw [Bool.and_eq_true,Zb] at hs'
  have h:=hs'.2 a.toNat (by have:=ha.1;have:=ha.2;omega)
  unfold GSys.sysB at h
  rw [Bool.and_eq_true,Zb] at h
  obtain ⟨h1,h⟩:=h
  have h:=h b.toNat (by have:=hb.1;have:=hb.2;omega)
  unfold GSys.sysC at h
  rw [Bool.and_eq_true,Zb] at h
  obtain ⟨h2,h⟩:=h
  have h3:=h c.toNat (by have:=hc.1;have:=hc.2;omega)
  have e1:((a.toNat:Nat):Int)=a:=by have:=ha.1;omega
  have e2:((b.toNat:Nat):Int)=b:=by have:=hb.1;omega
  have e3:((c.toNat:Nat):Int)=c:=by have:=hc.1;omega
  rw [e1] at h1
  rw [e1,e2] at h2
  rw [e1,e2,e3] at h3
  exact ⟨h1,h2,h3⟩
 have one:∀ a,s.G a->_:=fun a ha=>(key a 0 0 ha (GSys.G0 t) (GSys.G0 t)).1
 have two:∀ a b,s.G a->s.G b->_:=fun a b ha hb=>(key a b 0 ha hb (GSys.G0 t)).2.1
 have three:∀ a b c,s.G a->s.G b->s.G c->_:=fun a b c ha hb hc=>(key a b c ha hb hc).2.2
 simp only [GSys.one,GSys.two,GSys.three,Bool.and_eq_true,Qc,Bool.or_eq_true,Bool.not_eq_true',Qi] at one two three
 have isJ:∀ a b,s.G a->s.G b->s.isJoin a b (s.join a b)=true:=fun a b ha hb=>by
  have h:=(two a b ha hb).2
  rcases Zhx (s.isJoin a b) s.size.toNat 0 with q | q
  ·unfold GSys.join at h
   omega
  ·exact q
 simp only [GSys.isJoin,Bool.and_eq_true,Zb,GSys.jn,Bool.or_eq_true,Bool.not_eq_true'] at isJ
 refine ⟨fun a ha=>(one a ha).1.1.1.1.1,fun a ha=>(one a ha).1.1.1.1.2,fun a ha=>(one a ha).1.1.1.2,fun a ha=>(one a ha).1.1.2,fun a ha=>(one a ha).1.2,fun a ha=>(one a ha).2,
  fun a b ha hb=>(two a b ha hb).1.1,fun a b c ha hb hc=>(three a b c ha hb hc).1.1.1.1,fun a b c ha hb hc=>(three a b c ha hb hc).1.1.1.2,fun a b c ha hb hc=>(three a b c ha hb hc).1.1.2,fun a b c ha hb hc=>(three a b c ha hb hc).1.2,?_,?_,?_,?_,?_,fun a b ha hb=>(isJ a b ha hb).1.1,fun a b ha hb=>(isJ a b ha hb).1.2,?_⟩
 ·intro a b c ha hb hc h1 h2
  rcases (three a b c ha hb hc).2 with h | h
  ·rw [h1] at h;simp at h
  ·rcases h.1.1.1 with g | g
   ·rw [h2] at g;simp at g
   ·exact g
 ·intro a b c ha hb hc h1
  rcases (three a b c ha hb hc).2 with h | h
  ·rw [h1] at h;simp at h
  ·exact h.1.1.2
 ·intro a b c ha hb hc h1
  rcases (three a b c ha hb hc).2 with h | h
  ·rw [h1] at h;simp at h
  ·exact h.1.2
 ·intro a b c ha hb hc h1
  rcases (three a b c ha hb hc).2 with h | h
  ·rw [h1] at h;simp at h
  ·exact h.2
 ·intro a b ha hb h1 h2
  rcases (two a b ha hb).1.2 with (h | h) | h
  ·exact h
  ·rw [h1] at h;simp at h
  ·rw [h2] at h;simp at h
 ·intro a b c ha hb hc h1 h2
  have h:=(isJ a b ha hb).2 c.toNat (by have:=hc.1;have:=hc.2;omega)
  have e3:((c.toNat:Nat):Int)=c:=by have:=hc.1;omega
  rw [e3,h1,h2] at h
  simpa using h
theorem GSys.Laws.pl2 {s:GSys} (l:s.Laws) (t:s.Tab) {a b c d:Int} (ha:s.G a) (hb:s.G b) (hc:s.G c) (hd:s.G d) (h1:s.le a c=true) (h2:s.le b d=true):s.le (s.pl a b) (s.pl c d)=true:=by
 refine l.trans _ (s.pl c b) _ (GSys.Gpl t _ _) (GSys.Gpl t _ _) (GSys.Gpl t _ _) (l.pl_mo a c b ha hc hb h1) ?_
 rw [l.comm c b hc hb,l.comm c d hc hd]
 exact l.pl_mo b d c hb hd hc h2
theorem GSys.Laws.jn2 {s:GSys} (l:s.Laws) (hs:s.sys=true) {a b c d:Int} (ha:s.G a) (hb:s.G b) (hc:s.G c) (hd:s.G d) (h1:s.le a c=true) (h2:s.le b d=true):s.le (s.join a b) (s.join c d)=true :=
 l.j_m a b _ ha hb (Zjw hs hc hd) (l.trans a c _ ha hc (Zjw hs hc hd) h1 (l.j_l c d hc hd)) (l.trans b d _ hb hd (Zjw hs hc hd) h2 (l.j_r c d hc hd))
def Gd (s:GSys) (c:Nat) (l:List Int):Prop:=l.length=c∧∀ u∈l,s.G u
def leL (s:GSys) (a b:List Int):Prop:=∀ i,i < a.length->s.le (a.getD i 0) (b.getD i 0)=true
structure PCl (s:GSys) (P:List Int->List Int->Prop) (c c':Nat):Prop where
 zero:P (zeros c) (zeros c')
 sum:∀ a a' b b',Gd s c a->Gd s c' a'->Gd s c b->Gd s c' b'->P a a'->P b b'->P (Y6 s a b) (Y6 s a' b')
 join:∀ a a' b b',Gd s c a->Gd s c' a'->Gd s c b->Gd s c' b'->P a a'->P b b'->P (YC s a b) (YC s a' b')
 scale:∀ g a a',s.G g->Gd s c a->Gd s c' a'->P a a'->P (Wg s g a) (Wg s g a')
structure QR (s:GSys) (P:List Int->List Int->Prop) (c c' k:Nat) (a a':List Int):Prop where
 g:Gd s (k+c) a
 g':Gd s (k+c') a'
 le:leL s (a'.take k) (a.take k)
 p:P (a.drop k) (a'.drop k)
theorem Gd.drop {s:GSys} {k c:Nat} {a:List Int} (h:Gd s (k+c) a):Gd s c (a.drop k):=⟨by rw [List.length_drop,h.1];omega,fun u hu=>h.2 u (List.mem_of_mem_drop hu)⟩
theorem Gd.take {s:GSys} {k c:Nat} {a:List Int} (h:Gd s (k+c) a):Gd s k (a.take k):=⟨by rw [List.length_take,h.1];omega,fun u hu=>h.2 u (List.mem_of_mem_take hu)⟩
theorem Gd.at {s:GSys} {c:Nat} {a:List Int} (h:Gd s c a) {i:Nat} (hi:i < c):s.G (a.getD i 0):=by
 rw [List.getD_eq_getElem?_getD,List.getElem?_eq_getElem (by rw [h.1];exact hi)]
 exact h.2 _ (List.getElem_mem _)
theorem Zhi {f:Int->Int->Int} {a b:List Int} {c i:Nat} (ha:a.length=c) (hb:b.length=c) (hi:i < c):(List.zipWith f a b).getD i 0=f (a.getD i 0) (b.getD i 0):=by
 simp [List.getD_eq_getElem?_getD,List.getElem?_zipWith,show i < a.length by omega,show i < b.length by omega]
theorem Zqk {f:Int->Int} {a:List Int} {i:Nat} (hi:i < a.length):(a.map f).getD i 0=f (a.getD i 0):=by
 simp [List.getD_eq_getElem?_getD,hi]
theorem Gd.sum {s:GSys} (t:s.Tab) {c:Nat} {a b:List Int} (ha:Gd s c a) (hb:Gd s c b):Gd s c (Y6 s a b):=ZeQ t ha.1 hb.1
theorem Gd.join {s:GSys} (hs:s.sys=true) {c:Nat} {a b:List Int} (ha:Gd s c a) (hb:Gd s c b):Gd s c (YC s a b):=⟨ZcI ha.1 hb.1,fun u hu=>Zkh hs u hu ha.2 hb.2⟩
theorem Gd.scale {s:GSys} (t:s.Tab) {c:Nat} {a:List Int} (g:Int) (ha:Gd s c a):Gd s c (Wg s g a):=Yp t ha.1
theorem Gd.zeros {s:GSys} (t:s.Tab) (c:Nat):Gd s c (zeros c):=Zbx t c
theorem leL_sum {s:GSys} (hs:s.sys=true) {c:Nat} {a a' b b':List Int} (ha:Gd s c a) (ha':Gd s c a') (hb:Gd s c b) (hb':Gd s c b') (h1:leL s a' a) (h2:leL s b' b):leL s (Y6 s a' b') (Y6 s a b):=by
 have t:=GSys.sys_of hs
 intro i hi
 have hi':i < c:=by rw [(ha'.sum t hb').1] at hi;exact hi
 simp only [Y6]
 rw [Zhi ha'.1 hb'.1 hi',Zhi ha.1 hb.1 hi']
 exact (GSys.laws hs).pl2 t (ha'.at hi') (hb'.at hi') (ha.at hi') (hb.at hi') (h1 i (by rw [ha'.1];exact hi')) (h2 i (by rw [hb'.1];exact hi'))
theorem leL_join {s:GSys} (hs:s.sys=true) {c:Nat} {a a' b b':List Int} (ha:Gd s c a) (ha':Gd s c a') (hb:Gd s c b) (hb':Gd s c b') (h1:leL s a' a) (h2:leL s b' b):leL s (YC s a' b') (YC s a b):=by
 intro i hi
 have hi':i < c:=by rw [(ha'.join hs hb').1] at hi;exact hi
 simp only [YC]
 rw [Zhi ha'.1 hb'.1 hi',Zhi ha.1 hb.1 hi']
 exact (GSys.laws hs).jn2 hs (ha'.at hi') (hb'.at hi') (ha.at hi') (hb.at hi') (h1 i (by rw [ha'.1];exact hi')) (h2 i (by rw [hb'.1];exact hi'))
theorem ZsR {s:GSys} (hs:s.sys=true) {c:Nat} {g:Int} (hg:s.G g) {a a':List Int} (ha:Gd s c a) (ha':Gd s c a') (h1:leL s a' a):leL s (Wg s g a') (Wg s g a):=by
 intro i hi
 have hi':i < c:=by simp [Wg,ha'.1] at hi;exact hi
 simp only [Wg]
 rw [Zqk (by rw [ha'.1];exact hi'),Zqk (by rw [ha.1];exact hi')]
 exact (GSys.laws hs).tm_ml _ _ g (ha'.at hi') (ha.at hi') hg (h1 i (by rw [ha'.1];exact hi'))
section
variable {s:GSys} (hs:s.sys=true) {P:List Int->List Int->Prop} {c c' k:Nat} (cl:PCl s P c c')
include hs cl
theorem QR.zero:QR s P c c' k (zeros (k+c)) (zeros (k+c')):=by
 have t:=GSys.sys_of hs
 refine ⟨Gd.zeros t _,Gd.zeros t _,fun i hi=>?_,?_⟩
 ·have hk:i < k:=by simp [zeros] at hi;exact hi
  simp only [zeros,List.take_replicate]
  rw [show min k (k+c')=k by omega,show min k (k+c)=k by omega]
  have:(List.replicate k (0:Int)).getD i 0=0:=by simp [List.getD_eq_getElem?_getD,hk]
  rw [this]
  exact (GSys.laws hs).refl 0 (GSys.G0 t)
 ·simp only [zeros,List.drop_replicate]
  rw [show k+c - k=c by omega,show k+c' - k=c' by omega]
  exact cl.zero
theorem QR.sum {a a' b b':List Int} (h1:QR s P c c' k a a') (h2:QR s P c c' k b b'):QR s P c c' k (Y6 s a b) (Y6 s a' b'):=by
 have t:=GSys.sys_of hs
 refine ⟨h1.g.sum t h2.g,h1.g'.sum t h2.g',?_,?_⟩
 ·simp only [Y6,List.take_zipWith]
  exact leL_sum hs h1.g.take h1.g'.take h2.g.take h2.g'.take h1.le h2.le
 ·simp only [Y6,List.drop_zipWith]
  exact cl.sum _ _ _ _ h1.g.drop h1.g'.drop h2.g.drop h2.g'.drop h1.p h2.p
theorem QR.join {a a' b b':List Int} (h1:QR s P c c' k a a') (h2:QR s P c c' k b b'):QR s P c c' k (YC s a b) (YC s a' b'):=by
 refine ⟨h1.g.join hs h2.g,h1.g'.join hs h2.g',?_,?_⟩
 ·simp only [YC,List.take_zipWith]
  exact leL_join hs h1.g.take h1.g'.take h2.g.take h2.g'.take h1.le h2.le
 ·simp only [YC,List.drop_zipWith]
  exact cl.join _ _ _ _ h1.g.drop h1.g'.drop h2.g.drop h2.g'.drop h1.p h2.p
theorem QR.scale {g:Int} (hg:s.G g) {a a':List Int} (h1:QR s P c c' k a a'):QR s P c c' k (Wg s g a) (Wg s g a'):=by
 have t:=GSys.sys_of hs
 refine ⟨h1.g.scale t g,h1.g'.scale t g,?_,?_⟩
 ·simp only [Wg,<- List.map_take]
  exact ZsR hs hg h1.g.take h1.g'.take h1.le
 ·simp only [Wg,<- List.map_drop]
  exact cl.scale g _ _ hg h1.g.drop h1.g'.drop h1.p
end
theorem QR.less {s:GSys} {P:List Int->List Int->Prop} {c c' k j:Nat} {a a':List Int} (h:QR s P c c' (j+k) a a'):QR s P c c' k (a.drop j) (a'.drop j):=by
 refine ⟨(show Gd s (j+(k+c)) a by rw [<- Nat.add_assoc];exact h.g).drop,(show Gd s (j+(k+c')) a' by rw [<- Nat.add_assoc];exact h.g').drop,fun i hi=>?_,by rw [List.drop_drop,List.drop_drop];exact h.p⟩
 have e:∀ (l:List Int),i < k->((l.drop j).take k).getD i 0=(l.take (j+k)).getD (j+i) 0:=fun l hik=>by
  simp [List.getD_eq_getElem?_getD,List.getElem?_take,List.getElem?_drop,hik]
 have hik:i < k:=by simp at hi;omega
 rw [e a' hik,e a hik]
 exact h.le (j+i) (by have:=h.g'.1;simp;omega)
theorem QR.used {s:GSys} (hs:s.sys=true) {P:List Int->List Int->Prop} {c c' k j:Nat} {a a':List Int} (h:QR s P c c' (j+k) a a') {g:Int} (hg:s.G g) (hu:Wr s (a.take j) g=true):Wr s (a'.take j) g=true:=by
 unfold Wr at hu ⊢
 rw [List.all_eq_true] at hu ⊢
 intro u hu'
 obtain ⟨i,hi,rfl⟩:=List.getElem_of_mem hu'
 have l1:=h.g.1
 have l2:=h.g'.1
 have hij:i < j:=by simp at hi;omega
 have e1:(a'.take j)[i]=a'.getD i 0:=by simp [List.getD_eq_getElem?_getD,show i < a'.length by omega]
 have hle:=h.le i (by simp;omega)
 have e2:∀ l:List Int,(l.take (j+k)).getD i 0=l.getD i 0:=fun l=>by simp [List.getD_eq_getElem?_getD,List.getElem?_take,show i < j+k by omega]
 rw [e2,e2] at hle
 rw [e1]
 have hg2:=hu (a.getD i 0) (by
  rw [List.getD_eq_getElem?_getD,List.getElem?_eq_getElem (by omega),Option.getD_some]
  rw [List.mem_iff_getElem]
  exact ⟨i,by simp;omega,by simp⟩)
 exact (GSys.laws hs).trans _ _ _ (h.g'.at (by omega)) (h.g.at (by omega)) hg hle hg2
structure KRel (s:GSys) (P:List Int->List Int->Prop) (c c':Nat) (op:Int) (k:Nat) (l l':List TT):Prop where
 len:l'.length=l.length
 each:∀ (i:Nat) (x x':TT),l[i]?=some x->l'[i]?=some x'->x'.ty=x.ty∧QR s P c c' ((Qy op i).toNat+k) x.needs x'.needs
theorem KRel.ty {s:GSys} {P:List Int->List Int->Prop} {c c' k:Nat} {op:Int} {l l':List TT} (h:KRel s P c c' op k l l') (i:Nat):tyP l' i=tyP l i:=by
 unfold tyP
 by_cases hi:i < l.length
 ·have hi':i < l'.length:=by rw [h.len];exact hi
  have:=(h.each i l[i] l'[i] (List.getElem?_eq_getElem hi) (List.getElem?_eq_getElem hi')).1
  simpa [List.getD_eq_getElem?_getD,hi,hi'] using this
 ·simp [List.getD_eq_getElem?_getD,List.getElem?_eq_none (show l.length<=i by omega),List.getElem?_eq_none (show l'.length<=i by rw [h.len];omega)]
theorem KRel.at {s:GSys} {P:List Int->List Int->Prop} {c c' k:Nat} {op:Int} {l l':List TT} (h:KRel s P c c' op k l l') (i:Nat) (hi:i < l.length):QR s P c c' ((Qy op i).toNat+k) (l.getD i (.mk [] [] [])).needs (l'.getD i (.mk [] [] [])).needs:=by
 have hi':i < l'.length:=by rw [h.len];exact hi
 have:=(h.each i l[i] l'[i] (List.getElem?_eq_getElem hi) (List.getElem?_eq_getElem hi')).2
 simpa [List.getD_eq_getElem?_getD,hi,hi'] using this
theorem KRel.nd {s:GSys} {P:List Int->List Int->Prop} {c c' k:Nat} {op:Int} {l l':List TT} (h:KRel s P c c' op k l l') (i:Nat) (hi:i < l.length):QR s P c c' k (ndP op l i) (ndP op l' i):=by
 unfold ndP
 exact (h.at i hi).less
theorem KRel.us {s:GSys} (hs:s.sys=true) {P:List Int->List Int->Prop} {c c' k:Nat} {op:Int} {l l':List TT} (h:KRel s P c c' op k l l') (i:Nat) (hi:i < l.length) {g:Int} (hg:s.G g) (hu:Wr s (usP op l i) g=true):Wr s (usP op l' i) g=true:=by
 unfold usP at hu ⊢
 exact (h.at i hi).used hs hg hu
theorem KRel.snoc {s:GSys} {P:List Int->List Int->Prop} {c c' k:Nat} {op:Int} {l l':List TT} (h:KRel s P c c' op k l l') {x x':TT} (h1:x'.ty=x.ty) (h2:QR s P c c' ((Qy op l.length).toNat+k) x.needs x'.needs):KRel s P c c' op k (l++[x]) (l'++[x']):=by
 refine ⟨by simp [h.len],fun i y y' hy hy'=>?_⟩
 have hl:=h.len
 rcases Nat.lt_trichotomy i l.length with g | g | g
 ·rw [List.getElem?_append_left g] at hy
  rw [List.getElem?_append_left (by omega)] at hy'
  exact h.each i y y' hy hy'
 ·subst g
  rw [List.getElem?_append_right (Nat.le_refl _)] at hy
  rw [List.getElem?_append_right (by omega),hl] at hy'
  simp at hy hy'
  subst hy;subst hy'
  exact ⟨h1,h2⟩
 ·rw [List.getElem?_append_right (by omega),List.getElem?_eq_none (by simp;omega)] at hy;simp at hy
section
variable {s:GSys} (hs:s.sys=true) {P:List Int->List Int->Prop} {ctx ctx':List (List Int)} (cl:PCl s P ctx.length ctx'.length)
include hs cl
variable (σ:Nat->Int->GTerm) (hc:∀ l∈ctx,okL s.size l=true)
 (hσ:∀ (ds:List (List Int)) (n:Int),(∀ l∈ds,okL s.size l=true)->0<=n->n < ds.length+ctx.length ->
  ∃ y,Qr s (ds++ctx') (σ ds.length n)=.ok y∧y.ty=(ds++ctx).getD n.toNat []∧QR s P ctx.length ctx'.length ds.length ((zeros (ds.length+ctx.length)).set n.toNat 1) y.needs)
include hc hσ
end
structure PC where
 b:Int
 k:Int
 t:GTerm
 e:List Nat
inductive LR where
 | stuck
 | fail
 | ok (l:Nat) (σ:List PC) (v:GTerm) (e:List Nat)
def LR.bind:LR->(Nat->List PC->GTerm->List Nat->LR)->LR
 | .ok l σ v e,f=>f l σ v e
 | .stuck,_=>.stuck
 | .fail,_=>.fail
def JL (n:Int):GTerm:=.mk 1 n true [] true []
def GTerm.num:GTerm->Int
 | .mk _ n _ _ _ _=>n
def GTerm.opc:GTerm->Int
 | .mk op _ _ _ _ _=>op
def GTerm.kid (i:Nat):GTerm->GTerm
 | .mk _ _ _ _ _ ks=>ks.getD i (JL 0)
def GTerm.kidn:GTerm->Nat
 | .mk _ _ _ _ _ ks=>ks.length
def GSys.has (s:GSys) (a:Int):Bool:=decide (0<=a∧a < s.size)
def XJ (s:GSys) (f:Nat->List PC->GTerm->List Nat->Int->LR) (l:Nat) (σ:List PC) (t:GTerm) (env:List Nat) (q:Int):LR :=
 if t.opc=0 then
  if 0<=t.num∧t.num.toNat < env.length then match σ[env.getD t.num.toNat 0]? with
   | none=>.stuck
   | some c=>f l (σ.set (env.getD t.num.toNat 0) { c with k:=s.pl c.k q }) c.t c.e q
  else .stuck
 else if t.opc=2 then
  if t.kidn=2 then (f l σ (t.kid 0) env q).bind fun l1 σ1 a _=>if 0<=a.num∧a.num<=2 then (f l1 σ1 (t.kid 1) env q).bind fun l2 σ2 b _=>if 0<=b.num∧b.num<=2 then .ok l2 σ2 (JL ((a.num+b.num) % 3)) [] else .stuck else .stuck else .stuck
 else if t.opc=3 then
  if t.kidn=3 then (f l σ (t.kid 0) env q).bind fun l1 σ1 a _=>if a.num=0 then f l1 σ1 (t.kid 1) env q else f l1 σ1 (t.kid 2) env q else .stuck
 else if t.opc=10 then
  if t.kidn=2 then (f l σ (t.kid 0) env q).bind fun l1 σ1 a e=>if a.kidn=1∧s.has a.num=true then f l1 (σ1++[⟨s.tm q a.num,0,t.kid 1,env⟩]) (a.kid 0) (σ1.length::e) q else .stuck else .stuck
 else if t.opc=5 then
  if t.kidn=2∧s.has t.num=true then (f l σ (t.kid 0) env (s.tm q t.num)).bind fun l1 σ1 a e =>
   if a.kidn=2 then f l1 (σ1++[⟨s.tm q t.num,0,a.kid 0,e⟩,⟨s.tm q t.num,0,a.kid 1,e⟩]) (t.kid 1) ((σ1.length+1)::σ1.length::env) q else .stuck else .stuck
 else if t.opc=8 then
  if t.kidn=3∧s.has t.num=true then (f l σ (t.kid 0) env (s.tm q t.num)).bind fun l1 σ1 a e =>
   if a.kidn=1∧(a.opc=6∨a.opc=7) then f l1 (σ1++[⟨s.tm q t.num,0,a.kid 0,e⟩]) (if a.opc=7 then t.kid 2 else t.kid 1) (σ1.length::env) q else .stuck else .stuck
 else if t.opc=12 then
  if t.kidn=2∧s.has t.num=true then (f l σ (t.kid 0) env (s.tm q t.num)).bind fun l1 σ1 a e =>
   if a.kidn=1∧s.has a.num=true then f l1 (σ1++[⟨s.tm (s.tm q t.num) a.num,0,a.kid 0,e⟩]) (t.kid 1) (σ1.length::env) q else .stuck else .stuck
 else if t.opc=1∨t.opc=4∨t.opc=6∨t.opc=7∨t.opc=9∨t.opc=11 then .ok l σ t env
 else .stuck
def Q5 (s:GSys):Nat->Nat->List PC->GTerm->List Nat->Int->LR
 | 0,_,_,_,_,_=>.fail
 | d+1,l,σ,t,env,q=>if 3000<=l then .fail else XJ s (Q5 s d) (l+1) σ t env q
inductive TTold where
 | stuck
 | fail
 | ok (l:Nat) (σ:List PC) (v:GTerm)
inductive KTold where
 | stuck
 | fail
 | ok (l:Nat) (σ:List PC) (vs:List GTerm)
def X7 (f:Nat->List PC->GTerm->TTold):List GTerm->Nat->List PC->List GTerm->KTold
 | [],l,σ,acc=>.ok l σ acc
 | k::ks,l,σ,acc=>match f l σ k with
  | .stuck=>.stuck
  | .fail=>.fail
  | .ok l1 σ1 v=>X7 f ks l1 σ1 (acc++[v])
def okV (s:GSys) (op n:Int) (nl1:Bool) (ty:List Int) (k:Nat):Bool:=(!decide (op=11) || s.has n) && (decide (k<=3) && (decide (ty.length<=40) && (!nl1 || ty.isEmpty)))
def Xg (s:GSys):Nat->Nat->List PC->GTerm->List Nat->Int->TTold
 | 0,_,_,_,_,_=>.fail
 | d+1,l,σ,t,env,q=>match Q5 s (d+1) l σ t env q with
  | .stuck=>.stuck
  | .fail=>.fail
  | .ok l1 σ1 (.mk op n nl1 ty nl2 ks) e=>if okV s op n nl1 ty ks.length=false then .stuck else
   match X7 (fun l σ k=>Xg s d l σ k e (if op=11 then s.tm q n else q)) ks l1 σ1 [] with
   | .stuck=>.stuck
   | .fail=>.fail
   | .ok l2 σ2 vs=>.ok l2 σ2 (.mk op n nl1 ty true vs)
theorem Zsx:∀ (ks:List GTerm) (i:Nat) (hi:i < ks.length),wfs ks->(ks[i]).wf
 | k::ks,0,_,h=>by simp only [wfs] at h;exact h.1
 | k::ks,i+1,hi,h=>by simp only [wfs] at h;exact Zsx ks i (by simpa using hi) h.2
structure Of (s:GSys) (cx:List (List Int)) (t:GTerm) (τ:List Int):Prop where
 fm:XC cx.length s.size true t=true
 tl:∃ x,Qr s cx t=.ok x∧x.ty=τ
 wf:t.wf
 fl:t.fl
section
variable {s:GSys} {cx:List (List Int)} {n:Int} {nl1 nl2:Bool} {ty τ:List Int} {ks:List GTerm} {op:Int}
theorem ZpE (op:Int) (ty f g:List Int):Qz op ty 0 f=Qz op ty 0 g:=by
 unfold Qz Qy
 split
 ·rfl
 ·simp_all
theorem Zp6:∀ (ks:List GTerm) (ds ds':List TT),Wi s cx op n ty ds ks=.ok ds'->(∃ l,ds'=ds++l∧l.length=ks.length)∧∀ (i:Nat) (hi:i < ks.length),Qr s (Qz op ty (ds.length+i) (first ds')++cx) ks[i]=.ok (ds'.getD (ds.length+i) (.mk [] [] []))
 | [],ds,ds',h=>by
  simp only [Wi,KRes.ok.injEq] at h
  subst h
  exact ⟨⟨[],by simp⟩,fun i hi=>by simp at hi⟩
 | k::ks,ds,ds',h=>by
  rw [Wi] at h
  split at h
  ·simp at h
  ·rename_i x hx
   split at h
   ·simp at h
   ·split at h
    ·simp at h
    ·obtain ⟨⟨l,h1,h2⟩,h3⟩:=Zp6 ks (ds++[x]) ds' h
     refine ⟨⟨x::l,by rw [h1];simp,by simp [h2]⟩,fun i hi=>?_⟩
     cases i with
     | zero =>
      have e1:ds'.getD ds.length (.mk [] [] [])=x:=by rw [h1];simp [List.getD_eq_getElem?_getD]
      simp only [Nat.add_zero,List.getElem_cons_zero,e1]
      rw [<- hx]
      congr 2
      cases ds with
      | nil=>exact ZpE _ _ _ _
      | cons y ds=>rw [h1];simp [first,tyP]
     | succ i =>
      have:=h3 i (by simpa using hi)
      rw [List.length_append,List.length_singleton] at this
      rw [show ds.length+(i+1)=ds.length+1+i by omega]
      simpa using this
theorem Of.inv (hs:s.sys=true) (hc:∀ l∈cx,okL s.size l=true) (h:Of s cx (.mk op n nl1 ty nl2 ks) τ):∃ ds:List TT,ds.length=ks.length∧NodeOk s cx.length op n ty ks.length∧KidsOk s cx.length op n ds ∧
  (∀ (i:Nat) (hi:i < ks.length),Of s (Qz op ty i (first ds)++cx) ks[i] (tyP ds i))∧(Q0 s cx op n ty ds).1=0∧τ=(Q0 s cx op n ty ds).2.1∧∀ (i:Nat) (hi:i < ks.length),∀ l∈Qz op ty i (first ds),okL s.size l=true:=by
 obtain ⟨x,h1,rfl⟩:=h.tl
 have hf:=h.fm
 simp only [XC,Bool.and_eq_true] at hf
 have nd:=ZeV hf.1
 have h2:=h.wf
 have h3:=h.fl
 simp only [GTerm.wf] at h2
 simp only [GTerm.fl] at h3
 rw [Qr] at h1
 split at h1
 ·simp at h1
 ·rename_i ds hd
  split at h1
  ·rename_i h0
   simp only [Res.ok.injEq] at h1
   subst h1
   have h9:op=9->okL s.size ty=true:=fun h9=>nd.typed (by subst h9;simp [Xa,Qc])
   obtain ⟨k,hl⟩:=Zgi (GSys.sys_of hs) ks cx op n ty [] ds hc h9 (by simpa using hf.2) ⟨fun i x h=>by simp at h,fun _ x h=>by simp at h⟩ hd
   have hl':ds.length=ks.length:=by simpa using hl
   obtain ⟨_,ha⟩:=Zp6 ks [] ds hd
   refine ⟨ds,hl',nd,k,fun i hi=>⟨?_,⟨_,by simpa using ha i hi,rfl⟩,Zsx ks i hi h2.2.2.2.2,ZaK.1 h3.2 _ (List.getElem_mem hi)⟩,h0,rfl,fun i hi=>?_⟩
   ·have:=Zg4 hf.2 i hi
    rw [List.length_append,Zcr]
    have r:=V8 op i
    rw [show (((Qy op i).toNat+cx.length:Nat):Int)=cx.length+Qy op i by omega]
    simpa using this
   ·exact Zlr h9 fun _=>by
     have:=k.first (by intro e;rw [e,List.length_nil] at hl';omega)
     exact ⟨this.1,this.2.1⟩
  ·simp at h1
theorem Of.numv (hs:s.sys=true) (hc:∀ l∈cx,okL s.size l=true) (h:Of s cx (.mk 1 n nl1 ty nl2 ks) τ):τ=[0]∧0<=n∧n<=2∧ks=[]:=by
 obtain ⟨ds,h1,nd,h2,h3,h4,h5,_⟩:=h.inv hs hc
 have hk:=nd.many
 obtain rfl:ks=[]:=List.eq_nil_of_length_eq_zero (by simp only [W1] at hk;simpa using hk)
 have:=h.fm
 simp [XC,X8,ZaC,Zdk,eqB,Wb] at this
 exact ⟨by rw [h5];simp [Q0],by omega,by omega,rfl⟩
theorem Of.okL (hs:s.sys=true) (hc:∀ l∈cx,okL s.size l=true) {t:GTerm} (h:Of s cx t τ):okL s.size τ=true:=by
 obtain ⟨x,h1,rfl⟩:=h.tl
 exact (Zbb (GSys.sys_of hs) t cx x hc h.fm h1).1
end
def Zp5 (t:GTerm):Prop:=t.opc=1∨t.opc=4∨t.opc=6∨t.opc=7∨t.opc=9∨t.opc=11
theorem ZeK {s:GSys} (hs:s.sys=true) {cx:List (List Int)} (hc:∀ l∈cx,okL s.size l=true) {t:GTerm} {τ:List Int} (h:Of s cx t τ) (hv:Zp5 t) :
  (hd τ=0->t.opc=1)∧(hd τ=1->t.opc=4)∧(hd τ=2->t.opc=6∨t.opc=7)∧(QW (hd τ)=true->t.opc=9)∧(WJ (hd τ)=true->t.opc=11):=by
 obtain ⟨op,n,nl1,ty,nl2,ks⟩:=t
 obtain ⟨ds,h1,nd,h2,h3,h4,rfl,_⟩:=h.inv hs hc
 have h16:=(GSys.sys_of hs).hi
 simp only [Zp5,GTerm.opc] at hv ⊢
 rcases hv with rfl | rfl | rfl | rfl | rfl | rfl
 ·simp [Q0,QW,WJ]
 ·have:=(Yz (ty:=1::(tyP ds 0++tyP ds 1)) (nd:=Y6 s (ndP 4 ds 0) (ndP 4 ds 1)) (by simpa [Q0] using h4)).2.1
  simp [Q0,this,QW,WJ]
 ·have:=(Yz (ty:=2::(tyP ds 0++ty)) (nd:=ndP 6 ds 0) (by simpa [Q0] using h4)).2.1
  simp [Q0,this,QW,WJ]
 ·have:=(Yz (ty:=2::(ty++tyP ds 0)) (nd:=ndP 7 ds 0) (by simpa [Q0] using h4)).2.1
  simp [Q0,this,QW,WJ]
 ·have g:=nd.grade (by simp [XH,Qc])
  obtain ⟨g0,g1⟩:=g
  by_cases u:Wr s (usP 9 ds 0) n=true
  ·have:=(Yz (ty:=(3+n)::(ty++tyP ds 0)) (nd:=ndP 9 ds 0) (by simpa [Q0,u] using h4)).2.1
   have hb:WJ (3+n)=false:=by rw [<- Bool.not_eq_true,Ke];omega
   simp [Q0,u,this,hb]
   omega
  ·simp [Q0,u] at h4
 ·have g:=nd.grade (by simp [XH,Qc])
  obtain ⟨g0,g1⟩:=g
  have:=(Yz (ty:=(19+n)::tyP ds 0) (nd:=Wg s n (ndP 11 ds 0)) (by simpa [Q0] using h4)).2.1
  have hb:QW (19+n)=false:=by rw [<- Bool.not_eq_true,YQ];omega
  simp [Q0,this,hb]
  omega
section
variable {s:GSys} (hs:s.sys=true) {cx:List (List Int)} (hc:∀ l∈cx,okL s.size l=true) {t:GTerm} {τ:List Int} (h:Of s cx t τ) (hv:Zp5 t)
include hs hc h hv
theorem val_fun (ha:QW (hd τ)=true):∃ n nl1 ty nl2 b,t=.mk 9 n nl1 ty nl2 [b]∧s.G n∧ty=QA τ∧okL s.size ty=true∧Of s (ty::cx) b (QX τ):=by
 have ho:=(ZeK hs hc h hv).2.2.2.1 ha
 obtain ⟨op,n,nl1,ty,nl2,ks⟩:=t
 simp only [GTerm.opc] at ho
 subst ho
 obtain ⟨ds,h1,nd,h2,h3,h4,h5,_⟩:=h.inv hs hc
 have hm:=nd.many
 match ks,ds,(show ks.length=1 by simp [W1] at hm;omega),(show ds.length=1 by simp [W1] at hm;omega) with
 | [b],[x],_,_ =>
 have k0:=h3 0 (by simp)
 simp [Qz,tyP] at k0
 have hty:=nd.typed (by simp [Xa,Qc])
 by_cases u:Wr s (usP 9 [x] 0) n=true
 ·have e:=(Yz (ty:=(3+n)::(ty++tyP [x] 0)) (nd:=ndP 9 [x] 0) (by simpa [Q0,u] using h4)).2.1
  have e':τ=(3+n)::(ty++x.ty):=by rw [h5];simpa [Q0,u,tyP] using e
  refine ⟨n,nl1,ty,nl2,b,rfl,nd.grade (by simp [XH,Qc]),?_,hty,?_⟩
  ·rw [e',Zct (Ye hty)]
  ·rw [e',Ze0 (Ye hty)];exact k0
 ·simp [Q0,u] at h4
theorem ZkX (ha:hd τ=1):∃ n nl1 ty nl2 a b,t=.mk 4 n nl1 ty nl2 [a,b]∧Of s cx a (QA τ)∧Of s cx b (QX τ):=by
 have ho:=(ZeK hs hc h hv).2.1 ha
 obtain ⟨op,n,nl1,ty,nl2,ks⟩:=t
 simp only [GTerm.opc] at ho
 subst ho
 obtain ⟨ds,h1,nd,h2,h3,h4,h5,_⟩:=h.inv hs hc
 have hm:=nd.many
 match ks,ds,(show ks.length=2 by simp [W1] at hm;omega),(show ds.length=2 by simp [W1] at hm;omega) with
 | [a,b],[x,y],_,_ =>
 have k0:=h3 0 (by simp)
 have k1:=h3 1 (by simp)
 simp [Qz,Qy,tyP] at k0 k1
 have e:=(Yz (ty:=1::(tyP [x,y] 0++tyP [x,y] 1)) (nd:=Y6 s (ndP 4 [x,y] 0) (ndP 4 [x,y] 1)) (by simpa [Q0] using h4)).2.1
 have e':τ=1::(x.ty++y.ty):=by rw [h5];simpa [Q0,tyP] using e
 have ox:=k0.okL hs hc
 refine ⟨n,nl1,ty,nl2,a,b,rfl,?_,?_⟩
 ·rw [e',Zct (Ye ox)];exact k0
 ·rw [e',Ze0 (Ye ox)];exact k1
theorem Zpb (ha:hd τ=2):∃ op n nl1 ty nl2 a,t=.mk op n nl1 ty nl2 [a]∧(op=6∧Of s cx a (QA τ)∨op=7∧Of s cx a (QX τ)):=by
 have ho:=(ZeK hs hc h hv).2.2.1 ha
 obtain ⟨op,n,nl1,ty,nl2,ks⟩:=t
 simp only [GTerm.opc] at ho
 rcases ho with rfl | rfl
 ·obtain ⟨ds,h1,nd,h2,h3,h4,h5,_⟩:=h.inv hs hc
  have hm:=nd.many
  match ks,ds,(show ks.length=1 by simp [W1] at hm;omega),(show ds.length=1 by simp [W1] at hm;omega) with
  | [a],[x],_,_ =>
  have k0:=h3 0 (by simp)
  simp [Qz,Qy,tyP] at k0
  have e:=(Yz (ty:=2::(tyP [x] 0++ty)) (nd:=ndP 6 [x] 0) (by simpa [Q0] using h4)).2.1
  have e':τ=2::(x.ty++ty):=by rw [h5];simpa [Q0,tyP] using e
  refine ⟨6,n,nl1,ty,nl2,a,rfl,.inl ⟨rfl,?_⟩⟩
  rw [e',Zct (Ye (k0.okL hs hc))];exact k0
 ·obtain ⟨ds,h1,nd,h2,h3,h4,h5,_⟩:=h.inv hs hc
  have hm:=nd.many
  match ks,ds,(show ks.length=1 by simp [W1] at hm;omega),(show ds.length=1 by simp [W1] at hm;omega) with
  | [a],[x],_,_ =>
  have k0:=h3 0 (by simp)
  simp [Qz,Qy,tyP] at k0
  have hty:=nd.typed (by simp [Xa,Qc])
  have e:=(Yz (ty:=2::(ty++tyP [x] 0)) (nd:=ndP 7 [x] 0) (by simpa [Q0] using h4)).2.1
  have e':τ=2::(ty++x.ty):=by rw [h5];simpa [Q0,tyP] using e
  refine ⟨7,n,nl1,ty,nl2,a,rfl,.inr ⟨rfl,?_⟩⟩
  rw [e',Ze0 (Ye hty)];exact k0
theorem ZoY (ha:WJ (hd τ)=true):∃ n nl1 ty nl2 a,t=.mk 11 n nl1 ty nl2 [a]∧s.G n∧Of s cx a (QA τ):=by
 have ho:=(ZeK hs hc h hv).2.2.2.2 ha
 obtain ⟨op,n,nl1,ty,nl2,ks⟩:=t
 simp only [GTerm.opc] at ho
 subst ho
 obtain ⟨ds,h1,nd,h2,h3,h4,h5,_⟩:=h.inv hs hc
 have hm:=nd.many
 match ks,ds,(show ks.length=1 by simp [W1] at hm;omega),(show ds.length=1 by simp [W1] at hm;omega) with
 | [a],[x],_,_ =>
 have k0:=h3 0 (by simp)
 simp [Qz,Qy,tyP] at k0
 have e:=(Yz (ty:=(19+n)::tyP [x] 0) (nd:=Wg s n (ndP 11 [x] 0)) (by simpa [Q0] using h4)).2.1
 have e':τ=(19+n)::x.ty:=by rw [h5];simpa [Q0,tyP] using e
 refine ⟨n,nl1,ty,nl2,a,rfl,nd.grade (by simp [XH,Qc]),?_⟩
 rw [e',Zs9 (Ye (k0.okL hs hc))];exact k0
end
structure HT (s:GSys) (Γ:List (List Int)) (t:GTerm) (e:List Nat) (τ:List Int):Prop where
 eb:∀ j∈e,j < Γ.length
 of:Of s (e.map fun j=>Γ.getD j []) t τ
structure WT (s:GSys) (Γ:List (List Int)) (σ:List PC):Prop where
 len:σ.length=Γ.length
 ty:∀ l∈Γ,okL s.size l=true
 cell:∀ (j:Nat) (c:PC),σ[j]?=some c->HT s Γ c.t c.e (Γ.getD j [])∧s.G c.k∧s.G c.b
section
variable {s:GSys} {Γ:List (List Int)} {σ:List PC} {t:GTerm} {e:List Nat} {τ:List Int}
theorem Zcj (Δ:List (List Int)) (he:∀ j∈e,j < Γ.length):(e.map fun j=>(Γ++Δ).getD j [])=e.map fun j=>Γ.getD j []:=by
 refine List.map_congr_left fun j hj=>?_
 rw [List.getD_eq_getElem?_getD,List.getElem?_append_left (he j hj),<- List.getD_eq_getElem?_getD]
theorem HT.more (h:HT s Γ t e τ) (Δ:List (List Int)):HT s (Γ++Δ) t e τ:=by
 refine ⟨fun j hj=>by have:=h.eb j hj;simp;omega,?_⟩
 rw [Zcj Δ h.eb];exact h.of
theorem WT.cx (w:WT s Γ σ) (h:∀ j∈e,j < Γ.length):∀ l∈e.map fun j=>Γ.getD j [],okL s.size l=true:=by
 intro l hl
 obtain ⟨j,hj,rfl⟩:=List.mem_map.1 hl
 have:=h j hj
 rw [List.getD_eq_getElem?_getD,List.getElem?_eq_getElem this]
 exact w.ty _ (List.getElem_mem _)
theorem WT.snoc (w:WT s Γ σ) {c:PC} (hl:okL s.size τ=true) (h:HT s Γ c.t c.e τ) (hk:s.G c.k) (hb:s.G c.b):WT s (Γ++[τ]) (σ++[c]):=by
 refine ⟨by simp [w.len],fun l hl'=>?_,fun j c' hj=>?_⟩
 ·simp only [List.mem_append,List.mem_singleton] at hl'
  rcases hl' with h | rfl
  ·exact w.ty l h
  ·exact hl
 ·rcases Nat.lt_trichotomy j σ.length with g | rfl | g
  ·rw [List.getElem?_append_left g] at hj
   obtain ⟨h1,h2⟩:=w.cell j c' hj
   refine ⟨?_,h2⟩
   rw [List.getD_eq_getElem?_getD,List.getElem?_append_left (by rw [<- w.len];exact g),<- List.getD_eq_getElem?_getD]
   exact h1.more _
  ·simp at hj;subst hj
   refine ⟨?_,hk,hb⟩
   rw [w.len]
   simpa [List.getD_eq_getElem?_getD] using h.more [τ]
  ·rw [List.getElem?_eq_none (by simp;omega)] at hj;simp at hj
theorem WT.book (w:WT s Γ σ) {j:Nat} {c:PC} (hj:σ[j]?=some c) {k:Int} (hk:s.G k):WT s Γ (σ.set j { c with k:=k }):=by
 refine ⟨by simp [w.len],w.ty,fun i c' hi=>?_⟩
 by_cases e:i=j
 ·subst e
  rw [List.getElem?_set_self (by rcases Nat.lt_or_ge i σ.length with g | g;exact g;rw [List.getElem?_eq_none g] at hj;simp at hj)] at hi
  simp only [Option.some.injEq] at hi
  subst hi
  obtain ⟨h1,_,h3⟩:=w.cell i c hj
  exact ⟨h1,hk,h3⟩
 ·rw [List.getElem?_set_ne (fun h=>e h.symm)] at hi
  exact w.cell i c' hi
end
def Zbv (s:GSys) (Γ:List (List Int)) (l:Nat) (τ:List Int) (r:LR):Prop :=
 r=.fail∨∃ l' σ' v e' Δ,r=.ok l' σ' v e'∧l<=l'∧l'<=3000∧WT s (Γ++Δ) σ'∧HT s (Γ++Δ) v e' τ∧Zp5 v
theorem Zbv.ok {s:GSys} {Γ:List (List Int)} {l:Nat} {τ:List Int} {r:LR} (h:Zbv s Γ l τ r) {f:Nat->List PC->GTerm->List Nat->LR} {τ':List Int}
  (hf:∀ l' σ' v e' Δ,l<=l'->l'<=3000->WT s (Γ++Δ) σ'->HT s (Γ++Δ) v e' τ->Zp5 v->Zbv s (Γ++Δ) l' τ' (f l' σ' v e')):Zbv s Γ l τ' (r.bind f):=by
 rcases h with rfl | ⟨l',σ',v,e',Δ,rfl,h1,h2,h3,h4,h5⟩
 ·exact .inl rfl
 ·rcases hf l' σ' v e' Δ h1 h2 h3 h4 h5 with g | ⟨l2,σ2,v2,e2,Δ2,g1,g2,g3,g4,g5,g6⟩
  ·exact .inl g
  ·exact .inr ⟨l2,σ2,v2,e2,Δ++Δ2,g1,by omega,g3,by rw [<- List.append_assoc];exact g4,by rw [<- List.append_assoc];exact g5,g6⟩
theorem Zbv.more {s:GSys} {Γ Δ:List (List Int)} {l l0:Nat} {τ:List Int} {r:LR} (h:Zbv s (Γ++Δ) l τ r) (hl:l0<=l):Zbv s Γ l0 τ r:=by
 rcases h with g | ⟨l2,σ2,v2,e2,Δ2,g1,g2,g3,g4,g5,g6⟩
 ·exact .inl g
 ·exact .inr ⟨l2,σ2,v2,e2,Δ++Δ2,g1,by omega,g3,by rw [<- List.append_assoc];exact g4,by rw [<- List.append_assoc];exact g5,g6⟩
theorem of_numT {s:GSys} {cx:List (List Int)} (hs:s.sys=true) {n:Int} (h:0<=n∧n<=2):Of s cx (JL n) [0]:=by
 refine ⟨?_,⟨_,Zk9,rfl⟩,?_,?_⟩
 ·simp only [JL,XC,X8,ZaC,Zdk,tyB]
  simp [W1,Xa,eqB,Wb]
  omega
 ·simp only [JL,GTerm.wf,wfs]
  exact ⟨by unfold I64;omega,by unfold I64;omega,by simp [Lok],by simp,trivial⟩
 ·simp only [JL,GTerm.fl,fls]
  exact ⟨by simp [flOk],trivial⟩
theorem HT.node {s:GSys} {Γ:List (List Int)} {e:List Nat} {t:GTerm} {τ:List Int} {xs:List (List Int)} {js:List Nat} {Δ:List (List Int)} (he:∀ j∈e,j < Γ.length) (h:Of s (xs++e.map fun j=>Γ.getD j []) t τ) (hj:js.map (fun j=>(Γ++Δ).getD j [])=xs) (hb:∀ j∈js,j < (Γ++Δ).length) :
  HT s (Γ++Δ) t (js++e) τ:=by
 refine ⟨fun j hj=>?_,?_⟩
 ·rcases List.mem_append.1 hj with g | g
  ·exact hb j g
  ·have:=he j g;simp;omega
 ·rw [List.map_append,hj,Zcj Δ he];exact h
theorem GSys.has_of {s:GSys} {a:Int} (h:s.G a):s.has a=true:=by
 unfold GSys.has GSys.G at *;simp [h]
theorem Zbv.lift {s:GSys} {Γ Δ:List (List Int)} {l l0:Nat} {τ τ':List Int} {r:LR} (h:Zbv s (Γ++Δ) l τ r) (hl:l0<=l) (e:τ=τ'):Zbv s Γ l0 τ' r:=e ▸ h.more hl
theorem Zbv.same {s:GSys} {Γ:List (List Int)} {l l0:Nat} {τ τ':List Int} {r:LR} (h:Zbv s Γ l τ r) (hl:l0<=l) (e:τ=τ'):Zbv s Γ l0 τ' r:=by
 rw [<- List.append_nil Γ] at h
 exact h.lift hl e
theorem Zdt (Γ Δ:List (List Int)) (i:Nat):(Γ++Δ).getD (Γ.length+i) []=Δ.getD i []:=by
 simp [List.getD_eq_getElem?_getD,List.getElem?_append_right]
theorem Zm8 {s:GSys} (hs:s.sys=true):∀ (d l:Nat) (σ:List PC) (t:GTerm) (env:List Nat) (q:Int) (Γ:List (List Int)) (τ:List Int),WT s Γ σ->HT s Γ t env τ->s.G q->Zbv s Γ (l+1) τ (Q5 s d l σ t env q):=by
 intro d
 induction d with
 | zero=>intro l σ t env q Γ τ w h hq;exact .inl rfl
 | succ d ih =>
  intro l σ t env q Γ τ w h hq
  rw [Q5]
  by_cases h3:3000<=l
  ·rw [if_pos h3];exact .inl rfl
  rw [if_neg h3]
  obtain ⟨op,n,nl1,ty,nl2,ks⟩:=t
  have hc:=w.cx h.eb
  obtain ⟨ds,h1,nd,k,hk,h4,h5,had⟩:=h.of.inv hs hc
  have ts:=GSys.sys_of hs
  have tmG:∀ a b,s.G (s.tm a b):=GSys.Gtm ts
  have o13:=nd.op13
  have G0:s.G 0:=GSys.G0 ts
  have gr:XH op=true->s.has n=true:=fun g=>GSys.has_of (nd.grade g)
  have hm:=nd.many
  have hop:op=0∨op=1∨op=2∨op=3∨op=4∨op=5∨op=6∨op=7∨op=8∨op=9∨op=10∨op=11∨op=12:=by omega
  have val:(op=1∨op=4∨op=6∨op=7∨op=9∨op=11)->Zbv s Γ (l+1) τ (.ok (l+1) σ (.mk op n nl1 ty nl2 ks) env):=fun hv =>
   .inr ⟨_,_,_,_,[],rfl,Nat.le_refl _,by omega,by simpa using w,by simpa using h,hv⟩
  rcases hop with rfl | rfl | rfl | rfl | rfl | rfl | rfl | rfl | rfl | rfl | rfl | rfl | rfl
  ·obtain ⟨n0,n1⟩:=nd.var rfl
   have hn:n.toNat < env.length:=by simp at n1;omega
   have hj:env.getD n.toNat 0 < Γ.length:=h.eb _ (by rw [List.getD_eq_getElem?_getD,List.getElem?_eq_getElem hn];exact List.getElem_mem _)
   have hj':env.getD n.toNat 0 < σ.length:=by rw [w.len];exact hj
   have hcell:=List.getElem?_eq_getElem hj'
   have c0:0<=n∧n.toNat < env.length:=⟨n0,hn⟩
   simp only [XJ,GTerm.opc,GTerm.num,if_true,if_pos c0,hcell]
   obtain ⟨q1,q2,q3⟩:=w.cell _ _ hcell
   refine (ih (l+1) _ _ _ _ _ _ (w.book hcell (GSys.Gpl ts _ q)) q1 hq).same (by omega) ?_
   rw [h5]
   simp [Q0,List.getD_eq_getElem?_getD,hn]
  ·simpa [XJ,GTerm.opc] using val (by simp)
  ·match ks,ds,(show ks.length=2 by simp [W1] at hm;omega),(show ds.length=2 by simp [W1] at hm;omega) with
   | [a,b],[x,y],_,_ =>
   have k0:=hk 0 (by simp)
   have k1:=hk 1 (by simp)
   simp [Qz,Qy,tyP] at k0 k1
   have f0:=(k.first (by simp)).2.1.1 (.inl rfl)
   have g1:=k.each 1 y rfl
   have hy0:hd y.ty=0:=by
    have o:=XX g1.1.1
    have:=g1.2
    simp [QU,Kp] at this
    exact (KL o.2.1 o.2.2.1).1.1 this
   simp only [XJ,GTerm.opc,GTerm.kidn,GTerm.kid]
   simp
   refine Zbv.ok (ih (l+1) _ _ _ _ _ _ w ⟨h.eb,k0⟩ hq) ?_ |>.same (by omega) rfl
   intro l1 σ1 v e1 Δ1 q1 q2 w1 t1 v1
   have o1:=(ZeK hs (w1.cx t1.eb) t1.of v1).1 (by simpa [first,tyP] using f0)
   obtain ⟨op1,n1,w1_,w2_,w3_,w4_⟩:=v
   simp only [GTerm.opc] at o1
   subst o1
   obtain ⟨_,r1,r2,_⟩:=t1.of.numv hs (w1.cx t1.eb)
   have c1:0<=(GTerm.mk 1 n1 w1_ w2_ w3_ w4_).num∧(GTerm.mk 1 n1 w1_ w2_ w3_ w4_).num<=2:=⟨r1,r2⟩
   rw [if_pos c1]
   refine Zbv.same (l:=l1+1) (Zbv.ok (ih l1 _ _ _ _ _ _ w1 (HT.more ⟨h.eb,k1⟩ Δ1) hq) ?_) (by omega) rfl
   intro l2 σ2 v e2 Δ2 q3 q4 w2 t2 v2
   have o2:=(ZeK hs (w2.cx t2.eb) t2.of v2).1 hy0
   obtain ⟨op2,n2,w5_,w6_,w7_,w8_⟩:=v
   simp only [GTerm.opc] at o2
   subst o2
   obtain ⟨_,r3,r4,_⟩:=t2.of.numv hs (w2.cx t2.eb)
   have c2:0<=(GTerm.mk 1 n2 w5_ w6_ w7_ w8_).num∧(GTerm.mk 1 n2 w5_ w6_ w7_ w8_).num<=2:=⟨r3,r4⟩
   rw [if_pos c2]
   refine .inr ⟨_,_,_,_,[],rfl,by omega,by omega,by simpa using w2,⟨by simp,?_⟩,.inl rfl⟩
   rw [h5]
   simp only [Q0]
   exact of_numT (cx:=[]) hs (n:=(n1+n2) % 3) (by omega)
  ·match ks,ds,(show ks.length=3 by simp [W1] at hm;omega),(show ds.length=3 by simp [W1] at hm;omega) with
   | [a,b,c],[x,y,z],_,_ =>
   have k0:=hk 0 (by simp)
   have k1:=hk 1 (by simp)
   have k2:=hk 2 (by simp)
   simp [Qz,Qy,tyP] at k0 k1 k2
   simp only [XJ,GTerm.opc,GTerm.kidn,GTerm.kid]
   simp
   have e12:y.ty=z.ty:=by
    by_cases e:y.ty=z.ty
    ·exact e
    ·simp [Q0,tyP,e] at h4
   simp [Q0,tyP,e12] at h5
   refine Zbv.ok (ih (l+1) _ _ _ _ _ _ w ⟨h.eb,k0⟩ hq) ?_ |>.same (by omega) rfl
   intro l1 σ1 v e1 Δ1 q1 q2 w1 t1 v1
   split
   ·exact (ih l1 _ _ _ _ _ _ w1 (HT.more ⟨h.eb,k1⟩ Δ1) hq).same (by omega) (by rw [h5,e12])
   ·exact (ih l1 _ _ _ _ _ _ w1 (HT.more ⟨h.eb,k2⟩ Δ1) hq).same (by omega) (by rw [h5])
  ·simpa [XJ,GTerm.opc] using val (by simp)
  ·match ks,ds,(show ks.length=2 by simp [W1] at hm;omega),(show ds.length=2 by simp [W1] at hm;omega) with
   | [a,b],[x,y],_,_ =>
   have k0:=hk 0 (by simp)
   have k1:=hk 1 (by simp)
   simp [Qz,Qy,tyP,first] at k0 k1
   have f0:hd x.ty=1:=by simpa [first,tyP] using (k.first (by simp)).2.1.2.1 rfl
   have gn:=nd.grade (by simp [XH,Qc])
   have hn:=GSys.has_of gn
   have e5:τ=y.ty:=by
    rw [h5]
    by_cases u:Wr s (usP 5 [x,y] 1) n=true
    ·simp [Q0,u,tyP]
    ·simp [Q0,u] at h4
   simp only [XJ,GTerm.opc,GTerm.kidn,GTerm.kid,GTerm.num]
   simp [hn]
   refine Zbv.ok (ih (l+1) _ _ _ _ _ _ w ⟨h.eb,k0⟩ (tmG q n)) ?_ |>.same (by omega) rfl
   intro l1 σ1 v e1 Δ1 q1 q2 w1 t1 v1
   obtain ⟨n1,_,ty1,_,u1,u2,rfl,o1,o2⟩:=ZkX hs (w1.cx t1.eb) t1.of v1 f0
   have ok1:=o1.okL hs (w1.cx t1.eb)
   have ok2:=o2.okL hs (w1.cx t1.eb)
   simp only [GTerm.opc,GTerm.kidn,GTerm.kid,GTerm.num]
   simp
   have w2:=(w1.snoc (c:=⟨s.tm q n,0,u1,e1⟩) ok1 ⟨t1.eb,o1⟩ G0 (tmG _ _)).snoc (c:=⟨s.tm q n,0,u2,e1⟩) ok2 (HT.more ⟨t1.eb,o2⟩ _) G0 (tmG _ _)
   have w2:WT s (Γ++Δ1++[QA x.ty,QX x.ty]) (σ1++[⟨s.tm q n,0,u1,e1⟩,⟨s.tm q n,0,u2,e1⟩]):=by simpa [List.append_assoc] using w2
   refine (ih l1 _ _ _ _ _ _ w2 (HT.node (xs:=[QX x.ty,QA x.ty]) (js:=[σ1.length+1,σ1.length]) (fun j hj=>by have:=h.eb j hj;simp;omega) (by rw [Zcj Δ1 h.eb];simpa using k1) ?_ ?_) hq).lift (by omega) e5.symm
   ·rw [w1.len,show (Γ++Δ1).length+1=(Γ++Δ1).length+1 from rfl]
    simp only [List.map_cons,List.map_nil,Zdt]
    rw [show ((Γ++Δ1++[QA x.ty,QX x.ty]).getD (Γ++Δ1).length [])=[QA x.ty,QX x.ty].getD 0 [] from Zdt (Γ++Δ1) _ 0]
    rfl
   ·rw [w1.len]
    intro j hj
    simp only [List.mem_cons,List.not_mem_nil,or_false] at hj
    rw [List.length_append]
    simp only [List.length_cons,List.length_nil]
    omega
  ·simpa [XJ,GTerm.opc] using val (by simp)
  ·simpa [XJ,GTerm.opc] using val (by simp)
  ·match ks,ds,(show ks.length=3 by simp [W1] at hm;omega),(show ds.length=3 by simp [W1] at hm;omega) with
   | [a,b,c],[x,y,z],_,_ =>
   have k0:=hk 0 (by simp)
   have k1:=hk 1 (by simp)
   have k2:=hk 2 (by simp)
   simp [Qz,Qy,tyP,first] at k0 k1 k2
   have f0:hd x.ty=2:=by simpa [first,tyP] using (k.first (by simp)).2.1.2.2.1 rfl
   have gn:=nd.grade (by simp [XH,Qc])
   have hn:=GSys.has_of gn
   have e12:y.ty=z.ty:=by
    by_cases e:y.ty=z.ty
    ·exact e
    ·simp [Q0,tyP,e] at h4
   have e5:τ=y.ty:=by
    rw [h5]
    by_cases u:Wr s (usP 8 [x,y,z] 1) n=true∧Wr s (usP 8 [x,y,z] 2) n=true
    ·simp [Q0,u,tyP,e12]
    ·simp [Q0,u,tyP,e12] at h4
   have p1:=had 1 (by simp) (QA x.ty) (by simp [Qz,Qy,first,tyP])
   have p2:=had 2 (by simp) (QX x.ty) (by simp [Qz,Qy,first,tyP])
   simp only [XJ,GTerm.opc,GTerm.kidn,GTerm.kid,GTerm.num]
   simp [hn]
   refine Zbv.ok (ih (l+1) _ _ _ _ _ _ w ⟨h.eb,k0⟩ (tmG q n)) ?_ |>.same (by omega) rfl
   intro l1 σ1 v e1 Δ1 q1 q2 w1 t1 v1
   obtain ⟨op1,n1,_,ty1,_,u1,rfl,⟨rfl,o1⟩ | ⟨rfl,o1⟩⟩:=Zpb hs (w1.cx t1.eb) t1.of v1 f0
   ·simp only [GTerm.opc,GTerm.kidn,GTerm.kid,GTerm.num]
    simp
    have w2:=w1.snoc (c:=⟨s.tm q n,0,u1,e1⟩) p1 ⟨t1.eb,o1⟩ G0 (tmG _ _)
    refine (ih l1 _ _ _ _ _ _ w2 (HT.node (xs:=[QA x.ty]) (js:=[σ1.length]) (fun j hj=>by have:=h.eb j hj;simp;omega) (by rw [Zcj Δ1 h.eb];simpa using k1) ?_ ?_) hq).lift (by omega) e5.symm
    ·rw [w1.len]
     simp [List.getD_eq_getElem?_getD,List.getElem?_append_right]
    ·rw [w1.len];simp
   ·simp only [GTerm.opc,GTerm.kidn,GTerm.kid,GTerm.num]
    simp
    have w2:=w1.snoc (c:=⟨s.tm q n,0,u1,e1⟩) p2 ⟨t1.eb,o1⟩ G0 (tmG _ _)
    refine (ih l1 _ _ _ _ _ _ w2 (HT.node (xs:=[QX x.ty]) (js:=[σ1.length]) (fun j hj=>by have:=h.eb j hj;simp;omega) (by rw [Zcj Δ1 h.eb];simpa using k2) ?_ ?_) hq).lift (by omega) (by rw [e5,e12])
    ·rw [w1.len]
     simp [List.getD_eq_getElem?_getD,List.getElem?_append_right]
    ·rw [w1.len];simp
  ·simpa [XJ,GTerm.opc] using val (by simp)
  ·match ks,ds,(show ks.length=2 by simp [W1] at hm;omega),(show ds.length=2 by simp [W1] at hm;omega) with
   | [a,b],[x,y],_,_ =>
   have k0:=hk 0 (by simp)
   have k1:=hk 1 (by simp)
   simp [Qz,Qy,tyP,first] at k0 k1
   have f0:QW (hd x.ty)=true:=by simpa [first,tyP] using (k.first (by simp)).2.1.2.2.2.1 rfl
   have ya:y.ty=QA x.ty:=by simpa [first,tyP] using k.app rfl y rfl
   have e5:τ=QX x.ty:=by rw [h5];simp [Q0,tyP]
   simp only [XJ,GTerm.opc,GTerm.kidn,GTerm.kid,GTerm.num]
   simp
   refine Zbv.ok (ih (l+1) _ _ _ _ _ _ w ⟨h.eb,k0⟩ hq) ?_ |>.same (by omega) rfl
   intro l1 σ1 v e1 Δ1 q1 q2 w1 t1 v1
   obtain ⟨n1,_,ty1,_,u1,rfl,g1,rfl,okt,o1⟩:=val_fun hs (w1.cx t1.eb) t1.of v1 f0
   simp only [GTerm.opc,GTerm.kidn,GTerm.kid,GTerm.num]
   simp [GSys.has_of g1]
   have w2:=w1.snoc (c:=⟨s.tm q n1,0,b,env⟩) okt (HT.more ⟨h.eb,by rw [<- ya];exact k1⟩ Δ1) G0 (tmG _ _)
   refine (ih l1 _ _ _ _ _ _ w2 (HT.node (xs:=[QA x.ty]) (js:=[σ1.length]) t1.eb (by simpa using o1) ?_ ?_) hq).lift (by omega) e5.symm
   ·rw [w1.len]
    simp [List.getD_eq_getElem?_getD,List.getElem?_append_right]
   ·rw [w1.len];simp
  ·simpa [XJ,GTerm.opc] using val (by simp)
  ·match ks,ds,(show ks.length=2 by simp [W1] at hm;omega),(show ds.length=2 by simp [W1] at hm;omega) with
   | [a,b],[x,y],_,_ =>
   have k0:=hk 0 (by simp)
   have k1:=hk 1 (by simp)
   simp [Qz,Qy,tyP,first] at k0 k1
   have f0:WJ (hd x.ty)=true:=by simpa [first,tyP] using (k.first (by simp)).2.1.2.2.2.2 rfl
   have gn:=nd.grade (by simp [XH,Qc])
   have hn:=GSys.has_of gn
   have e5:τ=y.ty:=by
    rw [h5]
    by_cases u:Wr s (usP 12 [x,y] 1) (s.tm n (QH (hd x.ty)).2)=true
    ·simp [Q0,tyP,u]
    ·simp [Q0,tyP,u] at h4
   simp only [XJ,GTerm.opc,GTerm.kidn,GTerm.kid,GTerm.num]
   simp [hn]
   refine Zbv.ok (ih (l+1) _ _ _ _ _ _ w ⟨h.eb,k0⟩ (tmG q n)) ?_ |>.same (by omega) rfl
   intro l1 σ1 v e1 Δ1 q1 q2 w1 t1 v1
   obtain ⟨n1,_,ty1,_,u1,rfl,g1,o1⟩:=ZoY hs (w1.cx t1.eb) t1.of v1 f0
   have ok1:=o1.okL hs (w1.cx t1.eb)
   simp only [GTerm.opc,GTerm.kidn,GTerm.kid,GTerm.num]
   simp [GSys.has_of g1]
   have w2:=w1.snoc (c:=⟨s.tm (s.tm q n) n1,0,u1,e1⟩) ok1 ⟨t1.eb,o1⟩ G0 (tmG _ _)
   refine (ih l1 _ _ _ _ _ _ w2 (HT.node (xs:=[QA x.ty]) (js:=[σ1.length]) (fun j hj=>by have:=h.eb j hj;simp;omega) (by rw [Zcj Δ1 h.eb];simpa using k1) ?_ ?_) hq).lift (by omega) e5.symm
   ·rw [w1.len]
    simp [List.getD_eq_getElem?_getD,List.getElem?_append_right]
   ·rw [w1.len];simp
theorem LR.bind_ok {r:LR} {f:Nat->List PC->GTerm->List Nat->LR} {l:Nat} {σ:List PC} {v:GTerm} {e:List Nat} (h:r.bind f=.ok l σ v e):∃ l1 σ1 v1 e1,r=.ok l1 σ1 v1 e1∧f l1 σ1 v1 e1=.ok l σ v e:=by
 cases r with
 | stuck=>simp [LR.bind] at h
 | fail=>simp [LR.bind] at h
 | ok l1 σ1 v1 e1=>exact ⟨_,_,_,_,rfl,h⟩
structure BD (s:GSys) (l:Nat) (σ:List PC):Prop where
 env:∀ c∈σ,c.e.length<=2 * l+8∧∀ j∈c.e,j < σ.length
 gk:∀ c∈σ,s.G c.k
def BE (l:Nat) (σ:List PC) (e:List Nat):Prop:=e.length<=2 * l+8∧∀ j∈e,j < σ.length
theorem BD.up {s:GSys} {l l':Nat} {σ:List PC} (b:BD s l σ) (h:l<=l'):BD s l' σ:=⟨fun c hc=>⟨by have:=(b.env c hc).1;omega,(b.env c hc).2⟩,b.gk⟩
theorem BE.up {l l':Nat} {σ σ':List PC} {e:List Nat} (b:BE l σ e) (h:l<=l') (h2:σ.length<=σ'.length):BE l' σ' e:=⟨by have:=b.1;omega,fun j hj=>by have:=b.2 j hj;omega⟩
theorem BD.snoc {s:GSys} {l:Nat} {σ:List PC} (b:BD s l σ) {c:PC} (hc:BE l σ c.e) (hk:s.G c.k):BD s l (σ++[c]):=⟨fun x hx=>by
 rcases List.mem_append.1 hx with hx | hx
 ·obtain ⟨h1,h2⟩:=b.env x hx
  exact ⟨h1,fun j hj=>by have:=h2 j hj;simp;omega⟩
 ·simp at hx;subst hx
  exact ⟨hc.1,fun j hj=>by have:=hc.2 j hj;simp;omega⟩,fun x hx=>by
 rcases List.mem_append.1 hx with hx | hx
 ·exact b.gk x hx
 ·simp at hx;subst hx;exact hk⟩
theorem BD.book {s:GSys} {l:Nat} {σ:List PC} (b:BD s l σ) (j:Nat) {c:PC} (hj:σ[j]?=some c) {k:Int} (hk:s.G k):BD s l (σ.set j { c with k:=k }):=⟨fun x hx=>by
 rw [List.length_set]
 rcases List.mem_or_eq_of_mem_set hx with hx | rfl
 ·exact b.env x hx
 ·exact b.env c (List.mem_of_getElem? hj),fun x hx=>by
 rcases List.mem_or_eq_of_mem_set hx with hx | rfl
 ·exact b.gk x hx
 ·exact hk⟩
theorem Kw {s:GSys} (ts:s.Tab):∀ (d l:Nat) (σ:List PC) (t:GTerm) (env:List Nat) (q:Int) (l':Nat) (σ':List PC) (v:GTerm) (e:List Nat),Q5 s d l σ t env q=.ok l' σ' v e->BD s l σ->BE l σ env ->
  l+1<=l'∧l'<=3000∧σ.length<=σ'.length∧σ'.length+2 * l<=σ.length+2 * l'∧BD s l' σ'∧e.length<=2 * l'+6∧∀ j∈e,j < σ'.length:=by
 intro d
 induction d with
 | zero=>intro l σ t env q l' σ' v e h;simp [Q5] at h
 | succ d ih =>
  intro l σ t env q l' σ' v e h bd be
  rw [Q5] at h
  split at h
  ·simp at h
  rename_i h3
  have G0:s.G 0:=GSys.G0 ts
  have bd1:BD s (l+1) σ:=bd.up (by omega)
  have be1:BE (l+1) σ env:=be.up (by omega) (Nat.le_refl _)
  have beOf:∀ {l1:Nat} {σ1:List PC} {e1:List Nat},e1.length<=2 * l1+6->(∀ j∈e1,j < σ1.length)->BE l1 σ1 e1:=fun h1 h2=>⟨by omega,h2⟩
  have front:∀ {l1:Nat} {σ1 σ2:List PC} {e1:List Nat} (js:List Nat),e1.length<=2 * l1+6->(∀ j∈e1,j < σ1.length)->js.length<=2->(∀ j∈js,j < σ2.length)->σ1.length<=σ2.length->BE l1 σ2 (js++e1):=fun js h1 h2 h4 h5 h6 =>
   ⟨by rw [List.length_append];omega,fun j hj=>by
    rcases List.mem_append.1 hj with hj | hj
    ·exact h5 j hj
    ·have:=h2 j hj;omega⟩
  unfold XJ at h
  split at h
  ·split at h
   ·split at h
    ·simp at h
    ·rename_i c hc
     have:=ih _ _ _ _ _ _ _ _ _ h (bd1.book _ hc (GSys.Gpl ts _ _)) (by
      obtain ⟨g1,g2⟩:=bd1.env c (List.mem_of_getElem? hc)
      exact ⟨g1,fun j hj=>by rw [List.length_set];exact g2 j hj⟩)
     simp only [List.length_set] at this
     obtain ⟨q1,q2,q3,q4,q5⟩:=this
     exact ⟨by omega,q2,q3,by omega,q5⟩
   ·simp at h
  split at h
  ·split at h
   ·obtain ⟨l1,σ1,v1,e1,h1,h⟩:=LR.bind_ok h
    obtain ⟨a1,a2,a3,a4,a5,a6,a7⟩:=ih _ _ _ _ _ _ _ _ _ h1 bd1 be1
    split at h
    ·obtain ⟨l2,σ2,v2,e2,h2,h⟩:=LR.bind_ok h
     obtain ⟨b1,b2,b3,b4,b5,b6,b7⟩:=ih _ _ _ _ _ _ _ _ _ h2 a5 (be1.up (by omega) a3)
     split at h
     ·simp only [LR.ok.injEq] at h
      obtain ⟨rfl,rfl,rfl,rfl⟩:=h
      exact ⟨by omega,b2,by omega,by omega,b5,by simp,by simp⟩
     ·simp at h
    ·simp at h
   ·simp at h
  split at h
  ·split at h
   ·obtain ⟨l1,σ1,v1,e1,h1,h⟩:=LR.bind_ok h
    obtain ⟨a1,a2,a3,a4,a5,a6,a7⟩:=ih _ _ _ _ _ _ _ _ _ h1 bd1 be1
    split at h
    all_goals
     obtain ⟨b1,b2,b3,b4,b5⟩:=ih _ _ _ _ _ _ _ _ _ h a5 (be1.up (by omega) a3)
     exact ⟨by omega,b2,by omega,by omega,b5⟩
   ·simp at h
  split at h
  ·split at h
   ·obtain ⟨l1,σ1,v1,e1,h1,h⟩:=LR.bind_ok h
    obtain ⟨a1,a2,a3,a4,a5,a6,a7⟩:=ih _ _ _ _ _ _ _ _ _ h1 bd1 be1
    split at h
    ·obtain ⟨b1,b2,b3,b4,b5⟩:=ih _ _ _ _ _ _ _ _ _ h (a5.snoc (be1.up (by omega) a3) G0) (front [_] a6 a7 (by simp) (by simp) (by simp))
     simp only [List.length_append,List.length_singleton] at b3 b4
     exact ⟨by omega,b2,by omega,by omega,b5⟩
    ·simp at h
   ·simp at h
  have e6:env.length<=2 * (l+1)+6:=by have:=be.1;omega
  split at h
  ·split at h
   ·obtain ⟨l1,σ1,v1,e1,h1,h⟩:=LR.bind_ok h
    obtain ⟨a1,a2,a3,a4,a5,a6,a7⟩:=ih _ _ _ _ _ _ _ _ _ h1 bd1 be1
    split at h
    ·have c1:=a5.snoc (c:=⟨s.tm q t.num,0,v1.kid 0,e1⟩) (beOf a6 a7) G0
     have c2:=c1.snoc (c:=⟨s.tm q t.num,0,v1.kid 1,e1⟩) ((beOf a6 a7).up (Nat.le_refl _) (by simp)) G0
     rw [List.append_assoc] at c2
     obtain ⟨b1,b2,b3,b4,b5⟩:=ih _ _ _ _ _ _ _ _ _ h c2 (front (σ1:=σ1) [_,_] (by omega) (fun j hj=>by have:=be.2 j hj;omega) (by simp) (by simp) (by simp))
     simp only [List.length_append,List.length_cons,List.length_nil] at b3 b4
     exact ⟨by omega,b2,by omega,by omega,b5⟩
    ·simp at h
   ·simp at h
  split at h
  ·split at h
   ·obtain ⟨l1,σ1,v1,e1,h1,h⟩:=LR.bind_ok h
    obtain ⟨a1,a2,a3,a4,a5,a6,a7⟩:=ih _ _ _ _ _ _ _ _ _ h1 bd1 be1
    split at h
    ·obtain ⟨b1,b2,b3,b4,b5⟩:=ih _ _ _ _ _ _ _ _ _ h (a5.snoc (beOf a6 a7) G0) (front (σ1:=σ1) [_] (by omega) (fun j hj=>by have:=be.2 j hj;omega) (by simp) (by simp) (by simp))
     simp only [List.length_append,List.length_singleton] at b3 b4
     exact ⟨by omega,b2,by omega,by omega,b5⟩
    ·simp at h
   ·simp at h
  split at h
  ·split at h
   ·obtain ⟨l1,σ1,v1,e1,h1,h⟩:=LR.bind_ok h
    obtain ⟨a1,a2,a3,a4,a5,a6,a7⟩:=ih _ _ _ _ _ _ _ _ _ h1 bd1 be1
    split at h
    ·obtain ⟨b1,b2,b3,b4,b5⟩:=ih _ _ _ _ _ _ _ _ _ h (a5.snoc (beOf a6 a7) G0) (front (σ1:=σ1) [_] (by omega) (fun j hj=>by have:=be.2 j hj;omega) (by simp) (by simp) (by simp))
     simp only [List.length_append,List.length_singleton] at b3 b4
     exact ⟨by omega,b2,by omega,by omega,b5⟩
    ·simp at h
   ·simp at h
  split at h
  ·simp only [LR.ok.injEq] at h
   obtain ⟨rfl,rfl,rfl,rfl⟩:=h
   exact ⟨by omega,by omega,by omega,by omega,bd1,e6,be.2⟩
  ·simp at h
def VY (τ:List Int):Prop:=∀ c∈τ,QW c=false
def SafeT (s:GSys) (Γ:List (List Int)) (r:TTold):Prop:=r=.fail∨∃ l σ v Δ,r=.ok l σ v∧WT s (Γ++Δ) σ
def SafeK (s:GSys) (Γ:List (List Int)) (r:KTold):Prop:=r=.fail∨∃ l σ vs Δ,r=.ok l σ vs∧WT s (Γ++Δ) σ
theorem Ziq {s:GSys} {f:Nat->List PC->GTerm->TTold} {e:List Nat} (hf:∀ (l:Nat) (σ:List PC) (k:GTerm) (Γ:List (List Int)) (τ:List Int),WT s Γ σ->HT s Γ k e τ->VY τ->SafeT s Γ (f l σ k)) :
  ∀ (ks:List GTerm) (l:Nat) (σ:List PC) (acc:List GTerm) (Γ:List (List Int)),WT s Γ σ->(∀ k∈ks,∃ τ,HT s Γ k e τ∧VY τ)->SafeK s Γ (X7 f ks l σ acc)
 | [],l,σ,acc,Γ,w,h=>.inr ⟨l,σ,acc,[],rfl,by simpa using w⟩
 | k::ks,l,σ,acc,Γ,w,h=>by
  obtain ⟨τ,h1,h2⟩:=h k (by simp)
  rcases hf l σ k Γ τ w h1 h2 with g | ⟨l1,σ1,v,Δ,g,w1⟩
  ·left;simp [X7,g]
  ·rcases Ziq hf ks l1 σ1 (acc++[v]) (Γ++Δ) w1 (fun k hk=>by
    obtain ⟨τ,h3,h4⟩:=h k (by simp [hk])
    exact ⟨τ,h3.more Δ,h4⟩) with g2 | ⟨l2,σ2,vs,Δ2,g2,w2⟩
   ·left;simp [X7,g,g2]
   ·exact .inr ⟨l2,σ2,vs,Δ++Δ2,by simp [X7,g,g2],by rw [<- List.append_assoc];exact w2⟩
theorem ZeU {τ:List Int} (h:VY τ):VY (QA τ)∧VY (QX τ):=by
 have h1:∀ c∈QX τ,c∈τ:=by
  intro c hc
  unfold QX at hc
  cases e:Ty.skip 1 τ.tail with
  | none=>rw [e] at hc;simp at hc
  | some r =>
   rw [e] at hc
   obtain ⟨m,rfl,_⟩:=Ty.skip_drop _ _ _ e
   exact List.mem_of_mem_tail (List.mem_of_mem_drop (by simpa using hc))
 exact ⟨fun c hc=>h c (List.mem_of_mem_tail (List.mem_of_mem_take hc)),fun c hc=>h c (h1 c hc)⟩
theorem Znj {s:GSys} (hs:s.sys=true):∀ (d l:Nat) (σ:List PC) (t:GTerm) (env:List Nat) (q:Int) (Γ:List (List Int)) (τ:List Int),WT s Γ σ->HT s Γ t env τ->s.G q->VY τ->SafeT s Γ (Xg s d l σ t env q):=by
 intro d
 induction d with
 | zero=>intro l σ t env q Γ τ w h hq hd;exact .inl rfl
 | succ d ih =>
  intro l σ t env q Γ τ w h hq hdat
  rw [Xg]
  rcases Zm8 hs (d+1) l σ t env q Γ τ w h hq with g | ⟨l1,σ1,v,e1,Δ,g,_,_,w1,t1,v1⟩
  ·left;rw [g]
  ·rw [g]
   have hc:=w1.cx t1.eb
   have ok:=t1.of.okL hs hc
   have oh:=XX ok
   have tmG:∀ a b,s.G (s.tm a b):=GSys.Gtm (GSys.sys_of hs)
   have hmem:hd τ∈τ:=oh.2.2.2.2
   have na:=hdat _ hmem
   obtain ⟨d0,d1⟩:=ZeU hdat
   have fin:∀ (op n:Int) (nl1:Bool) (ty:List Int) (nl2:Bool) (ks:List GTerm),(op=11->s.has n=true)->ks.length<=3->Of s (e1.map fun j=>(Γ++Δ).getD j []) (.mk op n nl1 ty nl2 ks) τ->(∀ k∈ks,∃ τ,HT s (Γ++Δ) k e1 τ∧VY τ) ->
     SafeT s Γ (if okV s op n nl1 ty ks.length=false then .stuck else match X7 (fun l σ k=>Xg s d l σ k e1 (if op=11 then s.tm q n else q)) ks l1 σ1 [] with
      | .stuck=>.stuck
      | .fail=>.fail
      | .ok l2 σ2 vs=>.ok l2 σ2 (.mk op n nl1 ty true vs)):=by
    intro op n nl1 ty nl2 ks h11 h3k hof hks
    have hty:ty.length<=40:=by
     have:=hof.fm
     simp only [XC,Bool.and_eq_true] at this
     have:=this.1
     unfold ZaC at this
     simp only [Bool.and_eq_true] at this
     have:=this.2.2
     unfold tyB at this
     split at this
     ·rw [Bool.and_eq_true] at this
      exact (ZnY this.1).2
     ·rw [Qc] at this;omega
    have hfl:nl1=true->ty=[]:=by
     have:=hof.fl
     simp only [GTerm.fl] at this
     exact this.1
    have hok:okV s op n nl1 ty ks.length=true:=by
     unfold okV
     have a1:(!decide (op=11) || s.has n)=true:=by
      by_cases h:op=11
      ·simp [h11 h]
      ·simp [h]
     have a2:(!nl1 || ty.isEmpty)=true:=by
      cases nl1 with
      | false=>rfl
      | true=>rw [hfl rfl];rfl
     rw [a1,a2]
     simp [h3k,hty]
    rw [if_neg (by rw [hok];simp)]
    have hq':s.G (if op=11 then s.tm q n else q):=by split;exact tmG _ _;exact hq
    rcases Ziq (fun l σ k Γ τ a b c=>ih l σ k e1 _ Γ τ a b hq' c) ks l1 σ1 [] (Γ++Δ) w1 hks with g2 | ⟨l2,σ2,vs,Δ2,g2,w2⟩
    ·left;rw [g2]
    ·right;rw [g2];exact ⟨l2,σ2,_,Δ++Δ2,rfl,by rw [<- List.append_assoc];exact w2⟩
   have vh:=ZeK hs hc t1.of v1
   have hcases:hd τ=0∨hd τ=1∨hd τ=2∨WJ (hd τ)=true:=by
    rw [<- Bool.not_eq_true,YQ] at na
    rw [Ke]
    omega
   rcases hcases with e | e | e | e
   ·obtain ⟨op,n,nl1,ty,nl2,ks⟩:=v
    have:=vh.1 e
    simp only [GTerm.opc] at this
    subst this
    obtain ⟨_,_,_,rfl⟩:=t1.of.numv hs hc
    exact fin 1 n nl1 ty nl2 [] (by simp) (by simp) t1.of (by simp)
   ·obtain ⟨n1,nl1,ty1,nl2,u1,u2,rfl,o1,o2⟩:=ZkX hs hc t1.of v1 e
    refine fin 4 n1 nl1 ty1 nl2 [u1,u2] (by simp) (by simp) t1.of fun k hk=>?_
    simp at hk
    rcases hk with rfl | rfl
    ·exact ⟨_,⟨t1.eb,o1⟩,d0⟩
    ·exact ⟨_,⟨t1.eb,o2⟩,d1⟩
   ·obtain ⟨op1,n1,nl1,ty1,nl2,u1,rfl,⟨rfl,o1⟩ | ⟨rfl,o1⟩⟩:=Zpb hs hc t1.of v1 e
    ·refine fin 6 n1 nl1 ty1 nl2 [u1] (by simp) (by simp) t1.of fun k hk=>?_
     simp at hk;subst hk
     exact ⟨_,⟨t1.eb,o1⟩,d0⟩
    ·refine fin 7 n1 nl1 ty1 nl2 [u1] (by simp) (by simp) t1.of fun k hk=>?_
     simp at hk;subst hk
     exact ⟨_,⟨t1.eb,o1⟩,d1⟩
   ·obtain ⟨n1,nl1,ty1,nl2,u1,rfl,g1,o1⟩:=ZoY hs hc t1.of v1 e
    refine fin 11 n1 nl1 ty1 nl2 [u1] (fun _=>GSys.has_of g1) (by simp) t1.of fun k hk=>?_
    simp at hk;subst hk
    exact ⟨_,⟨t1.eb,o1⟩,d0⟩
abbrev PL (u nl:Bool) (ps:List Nat):LV:=.sl u nl 1 (ps.map fun p=>[.ptr p 0])
theorem growP_ok (n:Int) (h0:0<=n) (h1:n<=1099511627776):Qe Tryz.prog W9 [.sl false true 1 [],N n] (·=.sl (ltB 0 n) (!ltB 0 n) 1 []):=by
 refine Qe.of_codeOf Z6 Qx (by simp) ⟨_,rfl,by simp⟩ ?_
 have hm:n<=(WX:Nat):=by unfold WX;omega
 have hneg:ltB n 0=false:=by rw [Qd];omega
 simp (disch:=omega) [XY,Qg,hneg,ZZ]
 (with_reducible first | refine Qk (fun h1=>?_) (fun h1=>?_) | refine Ql (fun h1=>?_) (fun h1=>?_))
 ·have hmm:(WX:Int)=1099511627776:=rfl
  have hp:0 < n:=by rw [Qf] at h1;exact h1
  have hc:ZZ 1 (.sl false true 1 []) none (some 0) none=some (.sl false true 1 []):=by simp [ZZ]
  simp (disch:=omega) [h1,hc,hp,hm]
 ·simp (disch:=omega) [h1]
abbrev catP (l:List Nat):LV:=PL (ltB 0 l.length) (!ltB 0 l.length) l
theorem ZqX (n1 n2:Bool) (a b:List Nat) (hab:a.length+b.length<=1000000) (h:List Box) :
  QE Tryz.prog W2 [.sl false false 1 [[PL false n1 a],[PL false n2 b]]] h (fun r h'=>h'=h∧r=catP (a++b)):=by
 refine QE.of_codeOf ZY Qx (by simp) ⟨_,_,rfl,rfl⟩ ?_
 simp (disch:=omega) [XI]
 have i0:QP 1 (.sl false false 1 [[PL false n1 a],[PL false n2 b]]) 0=some (.rp [PL false n1 a]):=by simp [QP]
 have i1:QP 1 (.sl false false 1 [[PL false n1 a],[PL false n2 b]]) 1=some (.rp [PL false n2 b]):=by simp [QP]
 refine WS 2 0 (fun i t h'=>h'=h∧t 11=N i∧t 3=N (if i=0 then (0:Nat) else if i=1 then a.length else a.length+b.length:Nat)) (fun t h'=>h'=h∧t 3=N (a.length+b.length:Nat)) (by simp) (by omega) ?_ ?_
 ·rintro i t1 hh hf hi ⟨rfl,e11,e3⟩
  (have e9:=hf 9 (by kernel_rfl);have e10:=hf 10 (by kernel_rfl);clear hf;simp [] at e9 e10)
  have hi3:i=0∨i=1∨i=2:=by omega
  rcases hi3 with rfl | rfl | rfl
  ·have hb:ltB 0 2=true:=rfl
   have hnb:ltB ((a.length:Int)) 0=false:=by rw [Qd];omega
   simp (disch:=omega) [e3,e9,e10,e11,hb,i0,Qg,hnb]
  ·have hb:ltB 1 2=true:=rfl
   have hnb:ltB ((a.length:Int)+b.length) 0=false:=by rw [Qd];omega
   simp (disch:=omega) [e3,e9,e10,e11,hb,i1,Qg,hnb]
  ·have hb:ltB 2 2=false:=rfl
   simp (disch:=omega) [e3,e9,e10,e11,hb]
 ·rintro t1 hh hf ⟨rfl,e3⟩
  (have e0:=hf 0 (by kernel_rfl);clear hf;simp [] at e0)
  simp (disch:=omega) [e3,e0]
  refine Qa (growP_ok _ (by omega) (by omega)) (by simp) ?_
  simp (disch:=omega) [e3,e0]
  have lab:((a++b).length:Int)=(a.length:Int)+b.length:=by simp
  have ap:∀ (m c:List Nat) (n:Bool),m.length+c.length<=a.length+b.length->Wy 1 (PL (ltB 0 ((a.length:Int)+b.length)) (!ltB 0 ((a.length:Int)+b.length)) m) (PL false n c)=some (PL (ltB 0 ((a.length:Int)+b.length)) (!ltB 0 ((a.length:Int)+b.length)) (m++c)):=fun m c n hmc=>by
   have hmm:WX=1099511627776:=rfl
   cases hq:ltB 0 ((a.length:Int)+b.length)
   ·rw [Qd] at hq
    have c0:c=[]:=List.eq_nil_of_length_eq_zero (by omega)
    have m0:m=[]:=List.eq_nil_of_length_eq_zero (by omega)
    subst c0;subst m0
    simp [Wy,hmm]
   ·simp only [Wy]
    rw [if_pos ⟨by simp,.inl trivial,.inl trivial,by simp [hmm];omega⟩]
    simp
  refine WS 2 0 (fun i t h'=>h'=hh∧t 27=N i∧t 6=PL (ltB 0 ((a.length:Int)+b.length)) (!ltB 0 ((a.length:Int)+b.length)) (if i=0 then [] else if i=1 then a else a++b)) (fun t h'=>h'=hh∧t 6=catP (a++b)) (by simp) (by omega) ?_ ?_
  ·rintro i t2 h2 hf2 hi ⟨rfl,e27,e6⟩
   have e25:=hf2 25 (by kernel_rfl);have e26:=hf2 26 (by kernel_rfl);clear hf2;simp at e25 e26
   have hi3:i=0∨i=1∨i=2:=by omega
   rcases hi3 with rfl | rfl | rfl
   ·have hb:ltB 0 2=true:=rfl
    have ap0:=ap [] a n1 (by simp)
    simp (disch:=omega) [e6,e25,e26,e27,hb,i0,Qg,ap0]
   ·have hb:ltB 1 2=true:=rfl
    have ap1:=ap a b n2 (by simp)
    simp (disch:=omega) [e6,e25,e26,e27,hb,i1,Qg,ap1]
   ·have hb:ltB 2 2=false:=rfl
    simp (disch:=omega) [e6,e25,e26,e27,hb]
  ·rintro t2 h2 hf2 ⟨rfl,e6⟩
   simp (disch:=omega) [e6]
   exact QM (by simp) (Nat.le_refl _) ⟨rfl,by simp⟩
def Y9 (ids:List Nat) (e:List Nat):List Nat:=e.map fun j=>ids.getD j 0
@[simp] theorem envP_length (ids e:List Nat):(Y9 ids e).length=e.length:=by simp [Y9]
theorem ZaW {ids e:List Nat} (new:List Nat) (h:∀ j∈e,j < ids.length):Y9 (ids++new) e=Y9 ids e:=by
 refine List.map_congr_left fun j hj=>?_
 rw [List.getD_eq_getElem?_getD,List.getElem?_append_left (h j hj),<- List.getD_eq_getElem?_getD]
theorem VL {ids:List Nat} {j:Nat} (h:j < ids.length):ids.getD j 0∈ids:=by
 rw [List.getD_eq_getElem?_getD,List.getElem?_eq_getElem h];exact List.getElem_mem _
def V6 (ids:List Nat) (c:PC) (nl:Bool):List LV:=N c.b::N c.k::(c.t.cells++[PL false nl (Y9 ids c.e)])
structure MS (s:GSys) (M k0:Nat) (h:List Box) (l:Nat) (σ:List PC) (ids:List Nat):Prop where
 box:∃ nl,(nl=true->ids.drop k0=[])∧h[M]?=some (some (s.cells++[PL true nl (ids.drop k0),N l,B false]))
 len:ids.length=σ.length
 k0:k0<=ids.length
 cell:∀ (j:Nat) (c:PC),σ[j]?=some c->∃ nl,h[ids.getD j 0]?=some (some (V6 ids c nl))
 nd:ids.Nodup
 nM:M ∉ ids
 lM:M < h.length
 lt:∀ i∈ids,i < h.length
structure Fr (M:Nat) (ids:List Nat) (h h':List Box):Prop where
 len:h.length<=h'.length
 same:∀ i,i < h.length->i≠M->i ∉ ids->h'[i]?=h[i]?
theorem Fr.refl (M:Nat) (ids:List Nat) (h:List Box):Fr M ids h h:=⟨Nat.le_refl _,fun _ _ _ _=>rfl⟩
theorem Fr.trans {M:Nat} {ids new:List Nat} {h h1 h2:List Box} (a:Fr M ids h h1) (b:Fr M (ids++new) h1 h2) (hn:∀ i∈new,h.length<=i):Fr M ids h h2 :=
 ⟨Nat.le_trans a.len b.len,fun i hi h3 h4=>by
  rw [b.same i (Nat.lt_of_lt_of_le hi a.len) h3 (fun h5=>?_),a.same i hi h3 h4]
  rcases List.mem_append.1 h5 with h5 | h5
  ·exact h4 h5
  ·have:=hn i h5;omega⟩
theorem Fr.trans0 {M:Nat} {ids:List Nat} {h h1 h2:List Box} (a:Fr M ids h h1) (b:Fr M ids h1 h2):Fr M ids h h2 :=
 Fr.trans (new:=[]) a (by simpa using b) (by simp)
theorem Fr.weak {M:Nat} {ids:List Nat} {h h':List Box} (a:Fr M [] h h'):Fr M ids h h':=⟨a.len,fun i h1 h2 _=>a.same i h1 h2 (by simp)⟩
theorem Fr.app (M:Nat) (ids:List Nat) (h k:List Box):Fr M ids h (h++k):=⟨by simp,fun i hi _ _=>List.getElem?_append_left hi⟩
theorem Fr.set {M:Nat} {ids:List Nat} {h h':List Box} (a:Fr M ids h h') {O:Nat} (ho:h.length<=O) (x:Box):Fr M ids h (h'.set O x) :=
 ⟨by rw [List.length_set];exact a.len,fun i h1 h2 h3=>by rw [List.getElem?_set_ne (by omega)];exact a.same i h1 h2 h3⟩
theorem Fr.setM {M:Nat} {ids:List Nat} {h h':List Box} (a:Fr M ids h h') (x:Box):Fr M ids h (h'.set M x) :=
 ⟨by rw [List.length_set];exact a.len,fun i h1 h2 h3=>by rw [List.getElem?_set_ne (fun e=>h2 e.symm)];exact a.same i h1 h2 h3⟩
theorem Fr.setI {M:Nat} {ids:List Nat} {h h':List Box} (a:Fr M ids h h') {O:Nat} (ho:O∈ids) (x:Box):Fr M ids h (h'.set O x) :=
 ⟨by rw [List.length_set];exact a.len,fun i h1 h2 h3=>by rw [List.getElem?_set_ne (fun e=>h3 (by rw [<- e];exact ho))];exact a.same i h1 h2 h3⟩
section
variable {s:GSys} {M k0:Nat} {h h':List Box} {l:Nat} {σ:List PC} {ids:List Nat}
theorem MS.other (m:MS s M k0 h l σ ids) (hl:h.length<=h'.length) (hs:∀ i,i=M∨i∈ids->h'[i]?=h[i]?):MS s M k0 h' l σ ids:=by
 obtain ⟨nl,h1,h2⟩:=m.box
 refine ⟨⟨nl,h1,by rw [hs M (.inl rfl)];exact h2⟩,m.len,m.k0,fun j c hj=>?_,m.nd,m.nM,by have:=m.lM;omega,fun i hi=>by have:=m.lt i hi;omega⟩
 obtain ⟨nl,h3⟩:=m.cell j c hj
 refine ⟨nl,?_⟩
 rw [hs _ (.inr (VL ?_))]
 ·exact h3
 ·rw [m.len]
  rcases Nat.lt_or_ge j σ.length with g | g
  ·exact g
  ·rw [List.getElem?_eq_none g] at hj;simp at hj
theorem MS.app (m:MS s M k0 h l σ ids) (k:List Box):MS s M k0 (h++k) l σ ids :=
 m.other (by simp) fun i hi=>List.getElem?_append_left (by rcases hi with rfl | hi;exact m.lM;exact m.lt i hi)
theorem MS.set (m:MS s M k0 h l σ ids) {O:Nat} (h1:O≠M) (h2:O ∉ ids) (x:Box):MS s M k0 (h.set O x) l σ ids :=
 m.other (by simp) fun i hi=>List.getElem?_set_ne (by rcases hi with rfl | hi;exact h1;rintro rfl;exact h2 hi)
theorem MS.fr {ids':List Nat} (m:MS s M k0 h l σ ids) {O:Nat} (h1:O ∉ ids) (x:Box):O≠M->MS s M k0 (h.set O x) l σ ids:=fun h2=>m.set h2 h1 x
theorem MS.tick (m:MS s M k0 h l σ ids) {l':Nat} {x:Box} (hx:∃ nl,(nl=true->ids.drop k0=[])∧x=some (s.cells++[PL true nl (ids.drop k0),N l',B false])):MS s M k0 (h.set M x) l' σ ids:=by
 obtain ⟨nl,h1,rfl⟩:=hx
 refine ⟨⟨nl,h1,by rw [List.getElem?_set_self m.lM]⟩,m.len,m.k0,fun j c hj=>?_,m.nd,m.nM,by rw [List.length_set];exact m.lM,fun i hi=>by rw [List.length_set];exact m.lt i hi⟩
 obtain ⟨nl,h3⟩:=m.cell j c hj
 have hj':j < ids.length:=by
  rw [m.len]
  rcases Nat.lt_or_ge j σ.length with g | g
  ·exact g
  ·rw [List.getElem?_eq_none g] at hj;simp at hj
 refine ⟨nl,?_⟩
 rw [List.getElem?_set_ne (fun e=>m.nM (by rw [e];exact VL hj'))];exact h3
theorem MS.book (m:MS s M k0 h l σ ids) {j:Nat} {c:PC} (hj:σ[j]?=some c) {k:Int} {x:Box} (hx:∃ nl,x=some (V6 ids { c with k:=k } nl)):MS s M k0 (h.set (ids.getD j 0) x) l (σ.set j { c with k:=k }) ids:=by
 have hj':j < ids.length:=by
  rw [m.len]
  rcases Nat.lt_or_ge j σ.length with g | g
  ·exact g
  ·rw [List.getElem?_eq_none g] at hj;simp at hj
 obtain ⟨nl,h1,h2⟩:=m.box
 have hne:ids.getD j 0≠M:=fun e=>m.nM (e ▸ VL hj')
 refine ⟨⟨nl,h1,by rw [List.getElem?_set_ne hne];exact h2⟩,by rw [List.length_set];exact m.len,m.k0,fun i c' hi=>?_,m.nd,m.nM,by rw [List.length_set];exact m.lM,fun i hi=>by rw [List.length_set];exact m.lt i hi⟩
 by_cases e:i=j
 ·subst e
  rw [List.getElem?_set_self (by rw [<- m.len];exact hj')] at hi
  simp only [Option.some.injEq] at hi
  subst hi
  obtain ⟨nl,rfl⟩:=hx
  exact ⟨nl,by rw [List.getElem?_set_self (m.lt _ (VL hj'))]⟩
 ·rw [List.getElem?_set_ne (fun h=>e h.symm)] at hi
  obtain ⟨nl,h3⟩:=m.cell i c' hi
  have hi':i < ids.length:=by
   rw [m.len]
   rcases Nat.lt_or_ge i σ.length with g | g
   ·exact g
   ·rw [List.getElem?_eq_none g] at hi;simp at hi
  refine ⟨nl,?_⟩
  rw [List.getElem?_set_ne ?_];exact h3
  intro e2
  rw [List.getD_eq_getElem?_getD,List.getD_eq_getElem?_getD,List.getElem?_eq_getElem hj',List.getElem?_eq_getElem hi'] at e2
  exact e ((List.getElem_inj m.nd).1 (by simpa using e2.symm))
theorem MS.snoc (m:MS s M k0 h l σ ids) {c:PC} {p:Nat} (hp:∃ nl,h[p]?=some (some (V6 ids c nl))) (h1:p ∉ ids) (h2:p≠M) (hp2:p < h.length) (hb:BD s l σ) (hc:∀ j∈c.e,j < σ.length)
  {x:Box} (hx:x=some (s.cells++[PL true false (ids.drop k0++[p]),N l,B false])):MS s M k0 (h.set M x) l (σ++[c]) (ids++[p]):=by
 subst hx
 have hd:(ids++[p]).drop k0=ids.drop k0++[p]:=by rw [List.drop_append_of_le_length m.k0]
 refine ⟨⟨false,by simp,by rw [List.getElem?_set_self m.lM,hd]⟩,by simp [m.len],by have:=m.k0;simp;omega,fun j c' hj=>?_,?_,by simp only [List.mem_append,List.mem_singleton,not_or];exact ⟨m.nM,fun e=>h2 e.symm⟩,by rw [List.length_set];exact m.lM,fun i hi=>by
  rw [List.length_set]
  rcases List.mem_append.1 hi with hi | hi
  ·exact m.lt i hi
  ·simp at hi;subst hi;exact hp2⟩
 ·have hce:∀ (c':PC) (nl:Bool),(∀ j∈c'.e,j < ids.length)->V6 (ids++[p]) c' nl=V6 ids c' nl:=fun c' nl h=>by unfold V6;rw [ZaW [p] h]
  rcases Nat.lt_trichotomy j σ.length with g | rfl | g
  ·rw [List.getElem?_append_left g] at hj
   obtain ⟨nl,h3⟩:=m.cell j c' hj
   have g':j < ids.length:=by rw [m.len];exact g
   refine ⟨nl,?_⟩
   rw [hce c' nl (by rw [m.len];exact (hb.env c' (List.mem_of_getElem? hj)).2),List.getD_eq_getElem?_getD,List.getElem?_append_left g',<- List.getD_eq_getElem?_getD,List.getElem?_set_ne (fun e=>m.nM (by rw [e];exact VL g'))]
   exact h3
  ·simp at hj;subst hj
   have e1:(ids++[p]).getD σ.length 0=p:=by rw [<- m.len];simp [List.getD_eq_getElem?_getD]
   obtain ⟨nl,h4⟩:=hp
   refine ⟨nl,?_⟩
   rw [e1,hce c nl (by rw [m.len];exact hc),List.getElem?_set_ne (fun e=>h2 e.symm)];exact h4
  ·rw [List.getElem?_eq_none (by simp;omega)] at hj;simp at hj
 ·rw [List.nodup_append]
  exact ⟨m.nd,by simp,fun a ha b hb=>by simp at hb;subst hb;rintro rfl;exact h1 ha⟩
end
theorem MS.ex {s:GSys} {M k0:Nat} {h:List Box} {l:Nat} {σ:List PC} {ids:List Nat} (m:MS s M k0 h l σ ids) (l':Nat) (σ':List PC) (hl:σ.length<=σ'.length):∃ h' new,MS s M k0 h' l' σ' (ids++new)∧(∀ i∈new,h.length<=i)∧Fr M ids h h':=by
 have e0:∃ n,σ'.length=σ.length+n:=⟨σ'.length - σ.length,by omega⟩
 obtain ⟨n,hn⟩:=e0
 have hmem:∀ i,i∈List.range' h.length n ↔ h.length<=i∧i < h.length+n:=fun i=>by rw [List.mem_range'_1]
 have nd:(ids++List.range' h.length n).Nodup:=by
  rw [List.nodup_append]
  exact ⟨m.nd,List.nodup_range',fun a ha b hb e=>by have:=m.lt a ha;have:=(hmem b).1 hb;omega⟩
 have lids:(ids++List.range' h.length n).length=σ'.length:=by simp [m.len,hn]
 have hM:M ∉ ids++List.range' h.length n:=fun hi=>by
  rcases List.mem_append.1 hi with hi | hi
  ·exact m.nM hi
  ·have:=(hmem M).1 hi;have:=m.lM;omega
 generalize hids:ids++List.range' h.length n=ids' at nd lids hM
 have hget:∀ (f:Nat->Box) (i:Nat),i < h.length+n->((List.range (h.length+n)).map f)[i]?=some (f i):=fun f i hi=>by simp [hi]
 have l1:∀ i∈ids',i < h.length+n:=fun i hi=>by
  rw [<- hids] at hi
  rcases List.mem_append.1 hi with hi | hi
  ·have:=m.lt i hi;omega
  ·exact ((hmem i).1 hi).2
 refine ⟨(List.range (h.length+n)).map (fun i=>if i=M then some (s.cells++[PL true false (ids'.drop k0),N l',B false]) else if i∈ids' then some (V6 ids' (σ'.getD (ids'.idxOf i) ⟨0,0,JL 0,[]⟩) false) else h.getD i none),List.range' h.length n,?_,fun i hi=>((hmem i).1 hi).1,⟨by simp,fun i h1 h2 h3=>?_⟩⟩
 ·rw [hids]
  have:=m.lM
  refine ⟨⟨false,by simp,by rw [hget _ M (by omega),if_pos rfl]⟩,lids,by rw [<- hids];have:=m.k0;simp;omega,fun j c hj=>⟨false,?_⟩,nd,hM,by simp;omega,fun i hi=>by simpa using l1 i hi⟩
  have hj':j < ids'.length:=by
   rw [lids]
   rcases Nat.lt_or_ge j σ'.length with g | g
   ·exact g
   ·rw [List.getElem?_eq_none g] at hj;simp at hj
  have hm:=VL hj'
  have hne:ids'.getD j 0≠M:=fun e=>hM (e ▸ hm)
  rw [hget _ _ (l1 _ hm),if_neg hne,if_pos hm]
  have:ids'.idxOf (ids'.getD j 0)=j:=by
   rw [List.getD_eq_getElem?_getD,List.getElem?_eq_getElem hj',Option.getD_some]
   exact nd.idxOf_getElem j hj'
  rw [this,List.getD_eq_getElem?_getD,hj];rfl
 ·have h4:i ∉ ids':=fun hi=>by
   rw [<- hids] at hi
   rcases List.mem_append.1 hi with hi | hi
   ·exact h3 hi
   ·have:=(hmem i).1 hi;omega
  rw [hget _ i (by omega),if_neg h2,if_neg h4,List.getD_eq_getElem?_getD,List.getElem?_eq_getElem h1];rfl
def Vj (M:Nat) (h:List Box):Prop:=∃ a b c d cs l,h[M]?=some (some [a,b,c,d,cs,N l,B true])
def failV (r:LV):Prop:=∃ a b x y e,r=.tup [.agg [N a,N b,x,y],e]
theorem ZaQ {O m:Nat} {vs:List LV} {R:LV->List Box->Prop} {e:Exit} {s:St} (he:e=.normal∨e=.ret) (h8:s.t 8=.ptr O 0) (hb:s.h[O]?=some (some vs)) (h4:vs.length=4) (hm:m<=s.h.length) (hR:R (.tup [.agg vs,s.t 9]) (s.h.set O (some (shareAll vs)))) :
  KZ [.cell 8 true 4,.tmp 9] m R e s:=by
 refine ⟨he,[.agg vs,s.t 9],⟨upd s.t 9 (share (s.t 9)),s.h.set O (some (shareAll vs))⟩,(s.h.set O (some (shareAll vs))).length,?_,by rw [List.length_set];exact hm,Nat.le_refl _,.inl rfl,?_⟩
 ·simp [Ys,Zg9,h8,hb,h4,Wp]
 ·rw [List.take_of_length_le (Nat.le_refl _)];exact hR
theorem with_ok (n1 n2:Bool) (env fr:List Nat) (hab:fr.length+env.length<=1000000) (h:List Box) :
  QE Tryz.prog JJ [PL false n1 env,PL false n2 fr] h (fun r h'=>h'=h∧r=catP (fr++env)):=by
 refine QE.of_codeOf Zqz Qx (by simp) ⟨_,_,rfl,rfl⟩ ?_
 simp (disch:=omega) [ZiI,Qn]
 refine Qm (ZqX n2 n1 fr env hab h) ?_
 rintro r h' ⟨rfl,rfl⟩
 simp (disch:=omega)
 exact QM (by simp) (Nat.le_refl _) ⟨rfl,by simp⟩
section
variable {s:GSys} {M k0:Nat} {h:List Box} {l:Nat} {σ:List PC} {ids:List Nat}
theorem Q7 {h k:List Box} {i:Nat} (hi:i < h.length):(h++k)[i]?=h[i]?:=List.getElem?_append_left hi
theorem QN {h k:List Box}:(h++k)[h.length]?=k[0]?:=by rw [List.getElem?_append_right (Nat.le_refl _)];simp
theorem XG {h k:List Box}:(h++k)[h.length+1]?=k[1]?:=by rw [List.getElem?_append_right (by omega)];simp
theorem Zia (m:MS s M k0 h l σ ids) (bd:BD s l σ) (b:Int) (t:GTerm) (e:List Nat) (nl:Bool) (he:BE l σ e) (hm:σ.length<=100000) (G0:s.G 0) :
  QE Tryz.prog W5 [.ptr M 0,N b,t.lv,PL false nl (Y9 ids e)] h (fun r h'=>∃ p,r=.ptr p 0∧h.length<=p∧MS s M k0 h' l (σ++[⟨b,0,t,e⟩]) (ids++[p])∧Fr M ids h h'):=by
 obtain ⟨nm,hnm,hb⟩:=m.box
 have lM:=m.lM
 have lids:(ids.drop k0).length<=100000:=by have:=m.len;simp;omega
 have hne:h.length+1≠M:=by omega
 have hni:h.length+1 ∉ ids:=fun hi=>by have:=m.lt _ hi;omega
 have m1:=m.app [none,some (V6 ids ⟨b,0,t,e⟩ nl)]
 have f1:MS s M k0 ((h++[none,some (V6 ids ⟨b,0,t,e⟩ nl)]).set M (some (s.cells++[PL true false (ids.drop k0++[h.length+1]),N l,B false]))) l (σ++[⟨b,0,t,e⟩]) (ids++[h.length+1]) :=
  m1.snoc ⟨nl,by rw [List.getElem?_append_right (by omega)];simp⟩ hni hne (by simp) bd he.2 rfl
 have f2:Fr M ids h ((h++[none,some (V6 ids ⟨b,0,t,e⟩ nl)]).set M (some (s.cells++[PL true false (ids.drop k0++[h.length+1]),N l,B false]))):=(Fr.app M ids h _).setM _
 have hF:∃ (r:LV) (h':List Box),∃ p,r=LV.ptr p 0∧h.length<=p∧MS s M k0 h' l (σ++[⟨b,0,t,e⟩]) (ids++[p])∧Fr M ids h h':=⟨_,_,h.length+1,rfl,by omega,f1,f2⟩
 refine QE.of_codeOf ZdK Qx (by simp) hF ?_
 simp only [GSys.cells,List.cons_append,List.nil_append] at hb f1 f2
 have ga:∀ k:List Box,(h++k)[M]?=h[M]?:=fun k=>Q7 lM
 have gs:∀ (k:List Box) (x:Box),(h++k).set M x=h.set M x++k:=fun k x=>List.set_append_left _ _ lM
 have gt:∀ (k:List Box) (x:Box),(h.set M x++k)[M]?=some x:=fun k x=>by rw [List.getElem?_append_left (by rw [List.length_set];exact lM),List.getElem?_set_self lM]
 have gu:∀ (k:List Box) (x y:Box),(h.set M x++k).set M y=h.set M y++k:=fun k x y=>by rw [List.set_append_left _ _ (by rw [List.length_set];exact lM),List.set_set]
 obtain ⟨op,n,nl1,ty,nl2,ks⟩:=t
 simp only [V6,GTerm.cells,List.cons_append,List.nil_append] at f1 f2
 rw [gs] at f1 f2
 have hmm:WX=1099511627776:=rfl
 have hlen:(ids.drop k0).length+1<=WX:=by omega
 generalize ids.drop k0=dr at *
 clear lM m1 hne
 simp (disch:=omega) [Vi,ga,gs,gt,gu,QN,XG,hb,Qt,Qo,Zu,Qn,Wy,GTerm.cells]
 refine ⟨by omega,QM (by simp) (by simp) ⟨h.length+1,by simp,by omega,?_,?_⟩⟩
 ·simpa [PL] using f1
 ·simpa [PL] using f2
end
theorem ZhJ {M:Nat} {h:List Box} (hf:Vj M h) (x0 x1 x2 x3 ev qv:LV):QE Tryz.prog QJ [.ptr M 0,.agg [x0,x1,x2,x3],ev,qv] h (fun r h'=>Vj M h'∧Fr M [] h h'∧failV r):=by
 obtain ⟨a,b,c,d,cs,l,hb⟩:=hf
 have lM:M < h.length:=by
  rcases Nat.lt_or_ge M h.length with g | g
  ·exact g
  ·rw [List.getElem?_eq_none g] at hb;simp at hb
 refine QE.of_codeOf KV Qx (by simp) ⟨.tup [.agg [N 0,N 0,N 0,N 0],N 0],h,⟨a,b,c,d,cs,l,hb⟩,Fr.refl _ _ _,⟨0,0,N 0,N 0,N 0,rfl⟩⟩ ?_
 have ga:∀ k:List Box,(h++k)[M]?=h[M]?:=fun k=>Q7 lM
 have gs:∀ (k:List Box) (x:Box),(h++k).set M x=h.set M x++k:=fun k x=>List.set_append_left _ _ lM
 have gt:∀ (k:List Box) (x:Box),(h.set M x++k)[M]?=some x:=fun k x=>by rw [List.getElem?_append_left (by rw [List.length_set];exact lM),List.getElem?_set_self lM]
 have gu:∀ (k:List Box) (x y:Box),(h.set M x++k).set M y=h.set M y++k:=fun k x y=>by rw [List.set_append_left _ _ (by rw [List.length_set];exact lM),List.set_set]
 have gl:∀ (k:List Box) (x:Box),(h.set M x++k)[h.length]?=k[0]?:=fun k x=>by rw [List.getElem?_append_right (by simp)];simp
 have gl1:∀ (k:List Box) (x:Box),(h.set M x++k)[h.length+1]?=k[1]?:=fun k x=>by rw [List.getElem?_append_right (by simp)];simp
 have gw1:∀ (k:List Box) (x y:Box),(h.set M x++k).set (h.length+1) y=h.set M x++k.set 1 y:=fun k x y=>by rw [List.set_append_right _ _ (by simp)];simp
 have f0:∀ (k:List Box) (n:Int),Vj M (h.set M (some [a,b,c,d,cs,N n,B true])++k):=fun k n=>⟨a,b,c,d,cs,n,gt _ _⟩
 have f1:∀ (k:List Box) (x:Box),Fr M [] h (h.set M x++k):=fun k x=>by rw [<- gs];exact (Fr.app M [] h k).setM x
 clear lM
 simp (disch:=omega) [ZD,ga,gs,gt,gu,QN,XG,hb,Qt,Qo]
 (with_reducible first | refine Qk (fun c0=>?_) (fun c0=>?_) | refine Ql (fun c0=>?_) (fun c0=>?_))
 all_goals
  simp (disch:=omega) [ga,gs,gt,gu,gl,gl1,gw1,hb,Qt,Qo]
  refine ZaQ (O:=h.length+1) (by simp) (by simp) (by simp [gl1];rfl) (by simp) (by simp) ?_
  simp [gw1]
  exact ⟨f0 _ _,f1 _ _,⟨0,0,_,_,_,rfl⟩⟩
def KE (v:GTerm) (vs:List LV):Prop:=vs=v.cells∨∃ n u,v=JL n∧vs=[N 1,N n,.sl u true 1 [],.sl u true 1 []]
theorem KE.len {v:GTerm} {vs:List LV} (h:KE v vs):vs.length=4:=by
 rcases h with rfl | ⟨n,u,rfl,rfl⟩
 ·simp
 ·rfl
theorem KE.num {v:GTerm} {vs:List LV} (h:KE v vs):∃ x y,vs=[N v.opc,N v.num,x,y]:=by
 rcases h with rfl | ⟨n,u,rfl,rfl⟩
 ·cases v;exact ⟨_,_,rfl⟩
 ·exact ⟨_,_,rfl⟩
theorem KE.kids {v:GTerm} {vs:List LV} (h:KE v vs) (hk:0 < v.kidn):vs=v.cells:=by
 rcases h with rfl | ⟨n,u,rfl,rfl⟩
 ·rfl
 ·simp [JL,GTerm.kidn] at hk
theorem KE.share {v:GTerm} {vs:List LV} (h:KE v vs):KE v (shareAll vs):=by
 rcases h with rfl | ⟨n,u,rfl,rfl⟩
 ·left;simp
 ·right;exact ⟨n,false,rfl,by simp⟩
def Ko (s:GSys) (M k0:Nat) (h:List Box) (ids:List Nat) (res:LR) (r:LV) (h':List Box):Prop:=match res with
 | .stuck=>True
 | .fail=>Vj M h'∧Fr M ids h h'∧failV r
 | .ok l σ v e=>∃ new u nl vs,(∀ i∈new,h.length<=i)∧MS s M k0 h' l σ (ids++new)∧Fr M ids h h'∧KE v vs∧r=.tup [.agg vs,PL u nl (Y9 (ids++new) e)]
section
variable {s:GSys} {M k0:Nat} {h H H1:List Box} {ids new:List Nat} {res:LR} {r:LV}
theorem Ko.el (hr:Ko s M k0 H ids res r H1) (hs:res≠.stuck):(∃ vs e,r=.tup [.agg vs,e]∧vs.length=4)∧Fr M ids H H1:=by
 cases res with
 | stuck=>exact absurd rfl hs
 | fail =>
  obtain ⟨_,h2,a,b,x,y,e,rfl⟩:=hr
  exact ⟨⟨_,_,rfl,rfl⟩,h2⟩
 | ok l σ v e =>
  obtain ⟨new,u,nl,vs,h1,h2,h3,h4,rfl⟩:=hr
  exact ⟨⟨_,_,rfl,h4.len⟩,h3⟩
theorem Ko.up {vs:List LV} {e:LV} (hr:Ko s M k0 H (ids++new) res (.tup [.agg vs,e]) H1) (hn:∀ i∈new,h.length<=i) (f:Fr M ids h H) {O:Nat} (o1:h.length<=O) (o2:O < H.length) (o3:O≠M) (o4:O ∉ ids++new) (x:Box) :
  Ko s M k0 h ids res (.tup [.agg vs,e]) (H1.set O x):=by
 cases res with
 | stuck=>trivial
 | fail =>
  obtain ⟨⟨a,b,c,d,cs,l,h1⟩,h2,h3⟩:=hr
  exact ⟨⟨a,b,c,d,cs,l,by rw [List.getElem?_set_ne o3];exact h1⟩,(f.trans h2 hn).set o1 x,h3⟩
 | ok l σ v e' =>
  obtain ⟨new2,u,nl,vs',h1,h2,h3,h4,h5⟩:=hr
  refine ⟨new++new2,u,nl,vs',fun i hi=>?_,?_,(f.trans h3 hn).set o1 x,h4,by rw [h5,List.append_assoc]⟩
  ·rcases List.mem_append.1 hi with hi | hi
   ·exact hn i hi
   ·have:=h1 i hi;have:=f.len;omega
  ·rw [<- List.append_assoc]
   refine h2.set o3 (fun hi=>?_) x
   rcases List.mem_append.1 hi with hi | hi
   ·exact o4 hi
   ·have:=h1 O hi;omega
end
theorem Ko.ex {s:GSys} {M k0:Nat} {h:List Box} {l:Nat} {σ:List PC} {ids:List Nat} (m:MS s M k0 h l σ ids) {res:LR} (hs:res≠.stuck) (hl:∀ l' σ' v e,res=.ok l' σ' v e->σ.length<=σ'.length):∃ r h',Ko s M k0 h ids res r h':=by
 cases res with
 | stuck=>exact absurd rfl hs
 | fail =>
  refine ⟨.tup [.agg [N 0,N 0,N 0,N 0],N 0],h.set M (some [N 0,N 0,N 0,N 0,N 0,N 0,B true]),⟨_,_,_,_,_,0,by rw [List.getElem?_set_self m.lM]⟩,(Fr.refl _ _ _).setM _,⟨0,0,N 0,N 0,N 0,rfl⟩⟩
 | ok l' σ' v e =>
  obtain ⟨h',new,h1,h2,h3⟩:=m.ex l' σ' (hl _ _ _ _ rfl)
  exact ⟨_,h',new,true,false,v.cells,h2,h1,h3,.inl rfl,rfl⟩
theorem ZnJ {s:GSys} {M k0:Nat} {h H H1:List Box} {ids new:List Nat} {res:LR} {vs:List LV} {e:LV} {O:Nat} {st:St} (hr:Ko s M k0 H (ids++new) res (.tup [.agg vs,e]) H1) (f1:Fr M (ids++new) H H1) (v4:vs.length=4) (hn:∀ i∈new,h.length<=i) (f:Fr M ids h H)
  (o1:h.length<=O) (o2:O < H.length) (o3:O≠M) (o4:O ∉ ids++new) (h8:st.t 8=.ptr O 0) (h9:st.t 9=e) (hh:st.h=H1.set O (some vs)):KZ [.cell 8 true 4,.tmp 9] h.length (Ko s M k0 h ids res) .ret st:=by
 have l1:=f1.len
 have l0:=f.len
 refine ZaQ (.inr rfl) h8 (by rw [hh,List.getElem?_set_self (by omega)]) v4 (by rw [hh,List.length_set];omega) ?_
 rw [hh,List.set_set,h9]
 exact hr.up hn f o1 o2 o3 o4 _
theorem Zr6 {s:GSys} {M k0:Nat} {h H H1:List Box} {ids:List Nat} {res:LR} {vs:List LV} {e:LV} {O:Nat} {st:St} (hr:Ko s M k0 H ids res (.tup [.agg vs,e]) H1) (f1:Fr M ids H H1) (v4:vs.length=4) (f:Fr M ids h H)
  (o1:h.length<=O) (o2:O < H.length) (o3:O≠M) (o4:O ∉ ids) (h8:st.t 8=.ptr O 0) (h9:st.t 9=e) (hh:st.h=H1.set O (some vs)):KZ [.cell 8 true 4,.tmp 9] h.length (Ko s M k0 h ids res) .ret st :=
 ZnJ (new:=[]) (by rw [List.append_nil];exact hr) (by rw [List.append_nil];exact f1) v4 (by simp) f o1 o2 o3 (by rw [List.append_nil];exact o4) h8 h9 hh
theorem val_post {s:GSys} {M k0:Nat} {h H:List Box} {ids:List Nat} {l:Nat} {σ:List PC} {v:GTerm} {e:List Nat} {vs:List LV} {u nl:Bool} {O:Nat} {st:St} (m:MS s M k0 H l σ ids) (f:Fr M ids h H) (hv:KE v vs)
  (o1:h.length<=O) (o2:O < H.length) (o3:O≠M) (o4:O ∉ ids) (h8:st.t 8=.ptr O 0) (h9:st.t 9=PL u nl (Y9 ids e)) (hh:st.h=H.set O (some vs)):KZ [.cell 8 true 4,.tmp 9] h.length (Ko s M k0 h ids (.ok l σ v e)) .ret st:=by
 have l0:=f.len
 refine ZaQ (.inr rfl) h8 (by rw [hh,List.getElem?_set_self o2]) hv.len (by rw [hh,List.length_set];omega) ?_
 rw [hh,List.set_set,h9]
 refine ⟨[],u,nl,vs,by simp,?_,f.set o1 _,hv,by rw [List.append_nil]⟩
 rw [List.append_nil]
 exact m.set o3 o4 _
theorem Vx {s:GSys} {M k0:Nat} {h H:List Box} {ids:List Nat} {O:Nat} {st:St} {ex:Exit} (he:ex=.normal∨ex=.ret) (hf:Vj M H) (f:Fr M ids h H)
  (o1:h.length<=O) (o2:O < H.length) (o3:O≠M) (h8:st.t 8=.ptr O 0) (hh:∃ a b x y,st.h=H.set O (some [N a,N b,x,y])):KZ [.cell 8 true 4,.tmp 9] h.length (Ko s M k0 h ids .fail) ex st:=by
 obtain ⟨a,b,x,y,hh⟩:=hh
 have l0:=f.len
 refine ZaQ he h8 (by rw [hh,List.getElem?_set_self o2]) rfl (by rw [hh,List.length_set];omega) ?_
 rw [hh,List.set_set]
 obtain ⟨a',b',c,d,cs,l,h1⟩:=hf
 exact ⟨⟨a',b',c,d,cs,l,by rw [List.getElem?_set_ne o3];exact h1⟩,f.set o1 _,⟨a,b,x,y,_,rfl⟩⟩
theorem Vj.app {M:Nat} {h:List Box} (hf:Vj M h) (k:List Box):Vj M (h++k):=by
 obtain ⟨a,b,c,d,cs,l,h1⟩:=hf
 refine ⟨a,b,c,d,cs,l,?_⟩
 rw [List.getElem?_append_left ?_];exact h1
 rcases Nat.lt_or_ge M h.length with g | g
 ·exact g
 ·rw [List.getElem?_eq_none g] at h1;simp at h1
theorem Fr.mono {M:Nat} {ids new:List Nat} {h h':List Box} (f:Fr M ids h h'):Fr M (ids++new) h h':=⟨f.len,fun i h1 h2 h3=>f.same i h1 h2 fun h4=>h3 (List.mem_append_left _ h4)⟩
theorem Fr.appR {M:Nat} {ids:List Nat} {h h':List Box} (f:Fr M ids h h') (k:List Box):Fr M ids h (h'++k):=f.trans0 (Fr.app M ids h' k)
theorem ZiQ {l:List GTerm} (h:l.length=2):∃ a b,l=[a,b]:=by
 match l,h with
 | [a,b],_=>exact ⟨a,b,rfl⟩
theorem Zpf {l:List GTerm} (h:l.length=3):∃ a b c,l=[a,b,c]:=by
 match l,h with
 | [a,b,c],_=>exact ⟨a,b,c,rfl⟩
theorem Zjh {l:List GTerm} (h:l.length=1):∃ a,l=[a]:=by
 match l,h with
 | [a],_=>exact ⟨a,rfl⟩
section
variable {s:GSys} {f:Nat->List PC->GTerm->List Nat->Int->LR} {l:Nat} {σ:List PC} {n:Int} {nl1 nl2:Bool} {ty:List Int} {ks:List GTerm} {env:List Nat} {q:Int}
theorem ZnD:XJ s f l σ (.mk 2 n nl1 ty nl2 ks) env q=if ks.length=2 then (f l σ (ks.getD 0 (JL 0)) env q).bind fun l1 σ1 v _=>if 0<=v.num∧v.num<=2 then (f l1 σ1 (ks.getD 1 (JL 0)) env q).bind fun l2 σ2 w _=>if 0<=w.num∧w.num<=2 then .ok l2 σ2 (JL ((v.num+w.num) % 3)) [] else .stuck else .stuck else .stuck:=rfl
theorem ZpF:XJ s f l σ (.mk 3 n nl1 ty nl2 ks) env q=if ks.length=3 then (f l σ (ks.getD 0 (JL 0)) env q).bind fun l1 σ1 v _=>if v.num=0 then f l1 σ1 (ks.getD 1 (JL 0)) env q else f l1 σ1 (ks.getD 2 (JL 0)) env q else .stuck:=rfl
theorem Znq:XJ s f l σ (.mk 10 n nl1 ty nl2 ks) env q=if ks.length=2 then (f l σ (ks.getD 0 (JL 0)) env q).bind fun l1 σ1 v e=>if v.kidn=1∧s.has v.num=true then f l1 (σ1++[⟨s.tm q v.num,0,ks.getD 1 (JL 0),env⟩]) (v.kid 0) (σ1.length::e) q else .stuck else .stuck:=rfl
theorem Zil:XJ s f l σ (.mk 5 n nl1 ty nl2 ks) env q=if ks.length=2∧s.has n=true then (f l σ (ks.getD 0 (JL 0)) env (s.tm q n)).bind fun l1 σ1 v e=>if v.kidn=2 then f l1 (σ1++[⟨s.tm q n,0,v.kid 0,e⟩,⟨s.tm q n,0,v.kid 1,e⟩]) (ks.getD 1 (JL 0)) ((σ1.length+1)::σ1.length::env) q else .stuck else .stuck:=rfl
theorem Zld:XJ s f l σ (.mk 8 n nl1 ty nl2 ks) env q=if ks.length=3∧s.has n=true then (f l σ (ks.getD 0 (JL 0)) env (s.tm q n)).bind fun l1 σ1 v e=>if v.kidn=1∧(v.opc=6∨v.opc=7) then f l1 (σ1++[⟨s.tm q n,0,v.kid 0,e⟩]) (if v.opc=7 then ks.getD 2 (JL 0) else ks.getD 1 (JL 0)) (σ1.length::env) q else .stuck else .stuck:=rfl
theorem ZjG:XJ s f l σ (.mk 12 n nl1 ty nl2 ks) env q=if ks.length=2∧s.has n=true then (f l σ (ks.getD 0 (JL 0)) env (s.tm q n)).bind fun l1 σ1 v e=>if v.kidn=1∧s.has v.num=true then f l1 (σ1++[⟨s.tm (s.tm q n) v.num,0,v.kid 0,e⟩]) (ks.getD 1 (JL 0)) (σ1.length::env) q else .stuck else .stuck:=rfl
end
theorem KO:eqB 2 0=false∧eqB 2 2=true∧eqB 3 0=false∧eqB 3 2=false∧eqB 3 3=true∧eqB 10 0=false∧eqB 10 2=false∧eqB 10 3=false∧eqB 10 10=true∧eqB 5 0=false∧eqB 5 2=false∧eqB 5 3=false∧eqB 5 10=false∧eqB 5 5=true∧eqB 8 0=false∧eqB 8 2=false∧eqB 8 3=false∧eqB 8 10=false∧eqB 8 5=false∧eqB 8 8=true∧eqB 12 0=false∧eqB 12 2=false∧eqB 12 3=false∧eqB 12 10=false∧eqB 12 5=false∧eqB 12 8=false∧eqB 12 12=true:=by decide
structure LkN (s:GSys) (M k0:Nat) (h H:List Box) (l:Nat) (σ:List PC) (ids new:List Nat) (O:Nat):Prop where
 ms:MS s M k0 H l σ (ids++new)
 fr:Fr M ids h H
 hn:∀ i∈new,h.length<=i
 o1:h.length<=O
 o2:O < H.length
 o3:O≠M
 o4:O ∉ ids++new
 box:H[O]?=some (some [N 0,N 0,.sl true true 1 [],.sl true true 1 []])
section
variable {s:GSys} {M k0:Nat} {h H H1:List Box} {l l1:Nat} {σ σ1:List PC} {ids new:List Nat} {O:Nat} {r:LV} {v:GTerm} {e:List Nat}
theorem LkN.next (A:LkN s M k0 h H l σ ids new O) (hr:Ko s M k0 H (ids++new) (.ok l1 σ1 v e) r H1):∃ new' u nl vs,KE v vs∧r=.tup [.agg vs,PL u nl (Y9 (ids++new') e)]∧LkN s M k0 h H1 l1 σ1 ids new' O:=by
 obtain ⟨n2,u,nl,vs,h1,h2,h3,h4,rfl⟩:=hr
 have l0:=A.fr.len
 have o2:=A.o2
 refine ⟨new++n2,u,nl,vs,h4,by rw [List.append_assoc],by rw [<- List.append_assoc];exact h2,A.fr.trans h3 A.hn,fun i hi=>?_,A.o1,by have:=h3.len;omega,A.o3,?_,by rw [h3.same O A.o2 A.o3 A.o4];exact A.box⟩
 ·rcases List.mem_append.1 hi with hi | hi
  ·exact A.hn i hi
  ·have:=h1 i hi;omega
 ·rw [<- List.append_assoc]
  intro hi
  rcases List.mem_append.1 hi with hi | hi
  ·exact A.o4 hi
  ·have:=h1 O hi;omega
theorem LkN.app (A:LkN s M k0 h H l σ ids new O) (k:List Box):LkN s M k0 h (H++k) l σ ids new O :=
 ⟨A.ms.app k,A.fr.appR k,A.hn,A.o1,by have:=A.o2;simp;omega,A.o3,A.o4,by rw [Q7 A.o2];exact A.box⟩
theorem LkN.fails (A:LkN s M k0 h H l σ ids new O) (hr:Ko s M k0 H (ids++new) .fail r H1):Vj M H1∧Fr M ids h H1∧O < H1.length∧H1[O]?=some (some [N 0,N 0,.sl true true 1 [],.sl true true 1 []])∧failV r:=by
 obtain ⟨h1,h2,h3⟩:=hr
 exact ⟨h1,A.fr.trans h2 A.hn,by have:=h2.len;have:=A.o2;omega,by rw [h2.same O A.o2 A.o3 A.o4];exact A.box,h3⟩
theorem LkN.tail (A:LkN s M k0 h H l σ ids new O) {res:LR} (hs:res≠.stuck) (hr:Ko s M k0 H (ids++new) res r H1):∃ vs e,r=.tup [.agg vs,e]∧vs.length=4∧H1[O]?=some (some [N 0,N 0,.sl true true 1 [],.sl true true 1 []]) ∧
  ∀ st:St,st.t 8=.ptr O 0->st.t 9=e->st.h=H1.set O (some vs)->KZ [.cell 8 true 4,.tmp 9] h.length (Ko s M k0 h ids res) .ret st:=by
 obtain ⟨⟨vs,e',rfl,v4⟩,f3⟩:=hr.el hs
 exact ⟨vs,e',rfl,v4,by rw [f3.same O A.o2 A.o3 A.o4];exact A.box,fun st a b c=>ZnJ hr f3 v4 A.hn A.fr A.o1 A.o2 A.o3 A.o4 a b c⟩
theorem LkN.val (A:LkN s M k0 h H l σ ids new O) {vs:List LV} (hv:KE v vs) {u nl:Bool} {st:St} (h8:st.t 8=.ptr O 0) (h9:st.t 9=PL u nl (Y9 (ids++new) e)) (hh:st.h=H.set O (some vs)):KZ [.cell 8 true 4,.tmp 9] h.length (Ko s M k0 h ids (.ok l σ v e)) .ret st:=by
 have l0:=A.fr.len
 refine ZaQ (.inr rfl) h8 (by rw [hh,List.getElem?_set_self A.o2]) hv.len (by rw [hh,List.length_set];omega) ?_
 rw [hh,List.set_set,h9]
 exact ⟨new,u,nl,vs,A.hn,A.ms.set A.o3 A.o4 _,A.fr.set A.o1 _,hv,rfl⟩
theorem LkN.env (A:LkN s M k0 h H l σ ids new O) (hb:∀ j∈e,j < ids.length):Y9 ids e=Y9 (ids++new) e:=(ZaW new hb).symm
theorem LkN.cell (A:LkN s M k0 h H l σ ids new O) {c:PC} {p:Nat} (hp:H.length<=p) (hms:MS s M k0 H1 l (σ++[c]) (ids++new++[p])) (hf:Fr M (ids++new) H H1):LkN s M k0 h H1 l (σ++[c]) ids (new++[p]) O∧H1[O]?=some (some [N 0,N 0,.sl true true 1 [],.sl true true 1 []]):=by
 have l0:=A.fr.len
 have o2:=A.o2
 have hb:H1[O]?=some (some [N 0,N 0,.sl true true 1 [],.sl true true 1 []]):=by rw [hf.same O A.o2 A.o3 A.o4];exact A.box
 refine ⟨⟨by rw [<- List.append_assoc];exact hms,A.fr.trans hf A.hn,fun i hi=>?_,A.o1,by have:=hf.len;omega,A.o3,?_,hb⟩,hb⟩
 ·rcases List.mem_append.1 hi with hi | hi
  ·exact A.hn i hi
  ·simp at hi;omega
 ·rw [<- List.append_assoc]
  intro hi
  rcases List.mem_append.1 hi with hi | hi
  ·exact A.o4 hi
  ·simp at hi;omega
end
theorem Zew (n1 n2:Bool) (env fr:List Nat) (hab:fr.length+env.length<=1000000) (h:List Box):QE Tryz.prog JJ [PL false n1 env,PL false n2 fr] h (fun r h'=>h'=h∧∃ u nl,r=PL u nl (fr++env)) :=
 (with_ok n1 n2 env fr hab h).mono fun r h' ⟨h1,h2⟩=>⟨h1,_,_,h2⟩
theorem Zh5 {ids new e:List Nat} {p n:Nat} (hl:(ids++new).length=n) (he:∀ j∈e,j < n):[p]++Y9 (ids++new) e=Y9 (ids++(new++[p])) (n::e):=by
 have h1:Y9 (ids++(new++[p])) e=Y9 (ids++new) e:=by rw [<- List.append_assoc];exact ZaW [p] (by rw [hl];exact he)
 have h2:(ids++(new++[p])).getD n 0=p:=by rw [<- List.append_assoc,<- hl];simp [List.getD_eq_getElem?_getD]
 show _=(ids++(new++[p])).getD n 0::Y9 (ids++(new++[p])) e
 rw [h1,h2];rfl
theorem front2 {ids new e:List Nat} {p p2 n:Nat} (hl:(ids++new).length=n) (he:∀ j∈e,j < n):[p2,p]++Y9 (ids++new) e=Y9 (ids++(new++[p,p2])) ((n+1)::n::e):=by
 have e13:new++[p,p2]=new++[p]++[p2]:=by simp
 rw [e13]
 have h1:=Zh5 (p:=p) hl he
 have h3:=Zh5 (ids:=ids) (new:=new++[p]) (p:=p2) (n:=n+1) (e:=n::e) (by rw [<- List.append_assoc,List.length_append,hl];rfl) (fun j hj=>by
  rcases List.mem_cons.1 hj with rfl | hj
  ·omega
  ·have:=he j hj;omega)
 rw [<- h3,<- h1];rfl
theorem one_of {s:GSys} (hs:s.sys=true) {a:Int} (ha:s.G a):s.pl 0 a=a∧s.tm 1 a=a:=by
 unfold GSys.sys at hs
 rw [Bool.and_eq_true,Zb] at hs
 have h:=hs.2 a.toNat (by have:=ha.1;have:=ha.2;omega)
 unfold GSys.sysB at h
 rw [Bool.and_eq_true] at h
 have h:=h.1
 unfold GSys.one at h
 simp only [Bool.and_eq_true,Qc] at h
 have e1:((a.toNat:Nat):Int)=a:=by have:=ha.1;omega
 rw [e1] at h
 exact ⟨h.1.1.1.1.1,h.1.1.1.1.2⟩
theorem ZbF {s:GSys} (hs:s.sys=true):∀ (a b:List Int),(∀ u∈b,s.G u)->Zf2 s a 1 b=Y6 s a b
 | [],b,_=>by simp [Zf2,Y6]
 | x::a,[],_=>by simp [Zf2,Y6]
 | x::a,y::b,h=>by
  have:=ZbF hs a b fun u hu=>h u (by simp [hu])
  simp only [Zf2,Y6,List.zipWith_cons_cons] at this ⊢
  rw [this,(one_of hs (h y (by simp))).2]
theorem ZdW {s:GSys} (hs:s.sys=true) (g:Int):∀ (a:List Int),Zf2 s (zeros a.length) g a=Wg s g a
 | []=>by simp [Zf2,Wg]
 | x::a=>by
  have:=ZdW hs g a
  simp only [Zf2,Wg,zeros,List.length_cons,List.replicate_succ,List.zipWith_cons_cons,List.map_cons] at this ⊢
  rw [this,(one_of hs (GSys.Gtm (GSys.sys_of hs) g x)).1]
theorem WH {s:GSys} {cx:List (List Int)} {g:GTerm} (h:g.size<=1000000):(Qr s cx g).fine:=by
 cases e:Qr s cx g with
 | ok x=>exact trivial
 | bad f p=>exact ⟨ZR g cx f p e,by have:=Zbs g cx f p e;omega⟩
abbrev aLV (x:TT) (n4:Bool):LV:=.agg [L false x.ty,L false x.needs,N 0,.sl false n4 1 []]
section
variable {s:GSys} (hsy:s.sys=true) (nlc:Bool) (ctx:Wk) (hcl:ctx.length<=100000)
include hsy hcl
theorem Zms (n:Int) (nl1:Bool) (gty:List Int) (nl2:Bool) (a b:GTerm) (x:TT) (n4:Bool) (hxg:x.good s ctx.length) (hA:Qr s (ctx.map Prod.snd) a=.ok x) (h0:hd x.ty=0) (hbs:b.size<=1000000)
  (hb:Qe Tryz.prog WZ [s.lv,LC nlc ctx,b.lv] (Qr s (ctx.map Prod.snd) b).told) (hbg:∀ y,Qr s (ctx.map Prod.snd) b=.ok y->y.good s ctx.length) :
  Qe Tryz.prog JZ [s.lv,LC nlc ctx,(GTerm.mk 2 n nl1 gty nl2 [a,b]).lv,aLV x n4] (Qr s (ctx.map Prod.snd) (GTerm.mk 2 n nl1 gty nl2 [a,b])).told:=by
 have t:=GSys.sys_of hsy
 have T:=tell_add (n:=n) (nl1:=nl1) (nl2:=nl2) (gty:=gty) hA hxg.1 h0 (fun y h=>(hbg y h).1)
 refine Qe.of_codeOf Zcw Qx (by simp) (ZbJ _ fun f p h=>ZR _ _ f p h) ?_
 have of:=X3 s 2 n nl1 gty nl2 [a,b] 1 (by simp) nlc ctx _ (WH hbs) hb
 simp only [GTerm.lv,GTerm.cells] at of
 simp (disch:=omega) [Vp,Qt,Qo,GTerm.cells]
 refine Qp (Qe.low of) (by simp) ?_
 rintro r ⟨hr,lo⟩
 rw [T]
 cases hB:Qr s (ctx.map Prod.snd) b with
 | bad f p =>
  rw [hB] at hr
  simp only [ofR] at hr
  obtain ⟨hf,u1,u2,u4,n4',rfl⟩:=hr
  have hf0:eqB f 0=false:=by rw [Qb];exact hf
  simp (disch:=omega) [Qt,Qo,hf0]
  exact ⟨hf,false,false,false,n4',by simp⟩
 | ok y =>
  have hyg:=hbg y hB
  rw [hB] at hr
  simp only [ofR] at hr
  obtain ⟨u1,u2,u4,n4',rfl⟩:=hr
  have hz:eqB 0 0=true:=by rw [Qc]
  have hy:=XX hyg.1
  have hyi:QP 1 (L false y.ty) 0=some (.rp [N (hd y.ty)]):=ZV hy.2.2.2.1
  by_cases q:hd y.ty=0
  ·have hn:=okL_none hyg.1 (by rw [q];decide)
   rw [q] at hn
   have hq0:eqB (hd y.ty) 0=true:=by rw [Qc];exact q
   simp (disch:=omega) [Qt,Qo,hz,hyi,hq0]
   refine Qa (ZL t false false x.needs 1 (GSys.G1 t) y.needs (by rw [hxg.2.1];omega) (by rw [hxg.2.1,hyg.2.1]) hxg.2.2 hyg.2.2) (by simp) ?_
   rw [ZbF hsy _ _ hyg.2.2]
   simp (disch:=omega) [q,hn]
   exact ⟨false,true,true,true,by simp⟩
  ·have hq0:eqB (hd y.ty) 0=false:=by rw [Qb];exact q
   simp (disch:=omega) [Qt,Qo,hz,hyi,hq0]
   refine Qp (Qe.low (Xq 2 (by omega))) (by simp) ?_
   rintro r ⟨⟨h3,v1,v2,v4,m4,rfl⟩,lo⟩
   simp (disch:=omega) [q]
   exact ⟨by omega,v1,v2,v4,m4,by simp⟩
theorem Zoe (n:Int) (nl1:Bool) (gty:List Int) (nl2:Bool) (a b c:GTerm) (x:TT) (n4:Bool) (hxg:x.good s ctx.length) (hA:Qr s (ctx.map Prod.snd) a=.ok x) (h0:hd x.ty=0) (hbs:b.size<=1000000) (hcs:c.size<=1000000)
  (hb:Qe Tryz.prog WZ [s.lv,LC nlc ctx,b.lv] (Qr s (ctx.map Prod.snd) b).told) (hbg:∀ y,Qr s (ctx.map Prod.snd) b=.ok y->y.good s ctx.length)
  (hc:Qe Tryz.prog WZ [s.lv,LC nlc ctx,c.lv] (Qr s (ctx.map Prod.snd) c).told) (hcg:∀ y,Qr s (ctx.map Prod.snd) c=.ok y->y.good s ctx.length) :
  Qe Tryz.prog JZ [s.lv,LC nlc ctx,(GTerm.mk 3 n nl1 gty nl2 [a,b,c]).lv,aLV x n4] (Qr s (ctx.map Prod.snd) (GTerm.mk 3 n nl1 gty nl2 [a,b,c])).told:=by
 have t:=GSys.sys_of hsy
 have T:=tell_if (n:=n) (nl1:=nl1) (nl2:=nl2) (gty:=gty) (b:=b) (c:=c) hA hxg.1 h0
 refine Qe.of_codeOf Zcw Qx (by simp) (ZbJ _ fun f p h=>ZR _ _ f p h) ?_
 have of:=X3 s 3 n nl1 gty nl2 [a,b,c] 1 (by simp) nlc ctx _ (WH hbs) hb
 have of2:=X3 s 3 n nl1 gty nl2 [a,b,c] 2 (by simp) nlc ctx _ (WH hcs) hc
 simp only [GTerm.lv,GTerm.cells] at of of2
 have hz:eqB 0 0=true:=by rw [Qc]
 have e32:eqB 3 2=false:=by rw [Qb];omega
 simp (disch:=omega) [Vp,Qt,Qo,GTerm.cells]
 refine Qp (Qe.low of) (by simp) ?_
 rintro r ⟨hr,lo⟩
 rw [T]
 cases hB:Qr s (ctx.map Prod.snd) b with
 | bad f p =>
  rw [hB] at hr
  simp only [ofR] at hr
  obtain ⟨hf,u1,u2,u4,n4',rfl⟩:=hr
  have hf0:eqB f 0=false:=by rw [Qb];exact hf
  simp (disch:=omega) [Qt,Qo,hf0]
  exact ⟨hf,false,false,false,n4',by simp⟩
 | ok y =>
  have hyg:=hbg y hB
  rw [hB] at hr
  simp only [ofR] at hr
  obtain ⟨u1,u2,u4,n4',rfl⟩:=hr
  simp (disch:=omega) [Qt,Qo,hz,e32]
  refine Qp (Qe.low of2) (by simp) ?_
  rintro r ⟨hr,lo⟩
  cases hC:Qr s (ctx.map Prod.snd) c with
  | bad f p =>
   rw [hC] at hr
   simp only [ofR] at hr
   obtain ⟨hf,v1,v2,v4,m4',rfl⟩:=hr
   have hf0:eqB f 0=false:=by rw [Qb];exact hf
   simp (disch:=omega) [Qt,Qo,hf0]
   exact ⟨hf,false,false,false,m4',by simp⟩
  | ok z =>
   have hzg:=hcg z hC
   rw [hC] at hr
   simp only [ofR] at hr
   obtain ⟨v1,v2,v4,m4',rfl⟩:=hr
   simp (disch:=omega) [Qt,Qo,hz]
   have ly:=QK hyg.1
   have sm:=Zcc false false y.ty z.ty (by omega)
   refine Qa sm (by simp) ?_
   cases he:(y.ty == z.ty)
   ·have he':y.ty≠z.ty:=by simpa using he
    simp (disch:=omega)
    refine Qp (Qe.low (Xq 3 (by omega))) (by simp) ?_
    rintro r ⟨⟨h3,w1,w2,w4,k4,rfl⟩,lo⟩
    simp (disch:=omega) [he']
    exact ⟨by omega,w1,w2,w4,k4,by simp⟩
   ·have he':y.ty=z.ty:=by simpa using he
    simp (disch:=omega)
    have jn:=ZnQ t false false y.needs z.needs (by rw [hyg.2.1];omega) (by rw [hyg.2.1,hzg.2.1]) hyg.2.2 hzg.2.2
    refine Qa jn (by simp) ?_
    have jl:=ZcI (s:=s) hyg.2.1 hzg.2.1
    have jg:∀ u∈YC s y.needs z.needs,s.G u:=fun u hu=>Zkh hsy u hu hyg.2.2 hzg.2.2
    simp (disch:=omega)
    have sm:=ZL t false false x.needs 1 (GSys.G1 t) (YC s y.needs z.needs) (by rw [hxg.2.1];omega) (by rw [hxg.2.1,jl]) hxg.2.2 jg
    refine Qa sm (by simp) ?_
    rw [ZbF hsy _ _ jg]
    simp (disch:=omega) [he']
    exact ⟨false,true,true,true,by simp [he']⟩
end
theorem used1 {s:GSys} {l:List Int} {g:Int} (h:1<=l.length):Wr s (l.take 1) g=s.le (l.getD 0 0) g:=by
 cases l with
 | nil=>simp at h
 | cons a l=>simp [Wr]
theorem used2 {s:GSys} {l:List Int} {g:Int} (h:2<=l.length):Wr s (l.take 2) g=(s.le (l.getD 0 0) g && s.le (l.getD 1 0) g):=by
 match l,h with
 | [],h=>simp at h
 | [_],h=>simp at h
 | a::b::l,_=>simp [Wr]
theorem ZhH {s:GSys} {l:List Int} {i:Nat} (h:∀ u∈l,s.G u) (hi:i < l.length):s.G (l.getD i 0):=by
 rw [List.getD_eq_getElem?_getD,List.getElem?_eq_getElem hi];exact h _ (List.getElem_mem _)
theorem Znd {l:List Int} {i:Nat} (hi:i < l.length):QP 1 (L false l) (i:Int)=some (.rp [N (l.getD i 0)]):=by
 have:=Xv l false false i (by omega) (by omega)
 simpa using this
section
variable {s:GSys} (hsy:s.sys=true) (nlc:Bool) (ctx:Wk) (hcl:ctx.length<=100000)
include hsy hcl
theorem Zmb (n:Int) (nl1:Bool) (gty:List Int) (nl2:Bool) (a b:GTerm) (x:TT) (n4:Bool) (hn:s.G n) (hxg:x.good s ctx.length) (hA:Qr s (ctx.map Prod.snd) a=.ok x) (hbs:b.size<=1000000)
  (hb:hd x.ty=1->Qe Tryz.prog WZ [s.lv,LC false ((false,QX x.ty)::(false,QA x.ty)::ctx),b.lv] (Qr s (QX x.ty::QA x.ty::ctx.map Prod.snd) b).told)
  (hbg:hd x.ty=1->∀ y,Qr s (QX x.ty::QA x.ty::ctx.map Prod.snd) b=.ok y->y.good s (ctx.length+2)) :
  Qe Tryz.prog JK [s.lv,LC nlc ctx,(GTerm.mk 5 n nl1 gty nl2 [a,b]).lv,aLV x n4] (Qr s (ctx.map Prod.snd) (GTerm.mk 5 n nl1 gty nl2 [a,b])).told:=by
 have t:=GSys.sys_of hsy
 have T:=Zrf (n:=n) (nl1:=nl1) (nl2:=nl2) (gty:=gty) (b:=b) hA hxg.1
 refine Qe.of_codeOf Za4 Qx (by simp) (ZbJ _ fun f p h=>ZR _ _ f p h) ?_
 rw [T]
 have hx:=XX hxg.1
 have hxi:QP 1 (L false x.ty) 0=some (.rp [N (hd x.ty)]):=ZV hx.2.2.2.1
 have e55:eqB 5 5=true:=by rw [Qc]
 have e58:eqB 5 8=false:=by rw [Qb];omega
 have e512:eqB 5 12=false:=by rw [Qb];omega
 have hz:eqB 0 0=true:=by rw [Qc]
 by_cases q:hd x.ty=1
 ·have hq:eqB (hd x.ty) 1=true:=by rw [Qc];exact q
  have hk:W7 (hd x.ty)=some 2:=by rw [q];exact YG.1
  simp (disch:=omega) [Yw,Qt,Qo,GTerm.cells,hxi,hq,e55,e58,e512]
  refine Qa (Zx t (GSys.G1 t) hn) (by simp) ?_
  rw [if_pos q]
  cases hl:s.le 1 n
  ·simp (disch:=omega)
   refine Qp (Qe.low (Xq 8 (by omega))) (by simp) ?_
   rintro r ⟨⟨h3,w1,w2,w4,k4,rfl⟩,lo⟩
   simp (disch:=omega)
   exact ⟨by omega,w1,w2,w4,k4,by simp⟩
  ·have p0:=YF hxg.1 0 (.inr hk)
   have p1:=YF hxg.1 1 (.inr hk)
   simp (disch:=omega)
   refine Qa p0 (by simp) ?_
   simp (disch:=omega) [Qn]
   refine Qa p1 (by simp) ?_
   simp (disch:=omega) [Qn]
   refine Qa p0 (by simp) ?_
   simp (disch:=omega) [Qn]
   have w:=Zck nlc false ctx [(false,QX x.ty),(false,QA x.ty)] (by omega) (by simp)
   simp only [List.map_cons,List.map_nil,List.cons_append,List.nil_append] at w
   refine Qa w (by simp) ?_
   have of:=X3 s 5 n nl1 gty nl2 [a,b] 1 (by simp) false ((false,QX x.ty)::(false,QA x.ty)::ctx) _ (WH hbs) (hb q)
   simp only [GTerm.lv,GTerm.cells,List.map_cons] at of
   simp (disch:=omega) [Qn]
   refine Qp (Qe.low of) (by simp) ?_
   rintro r ⟨hr,lo⟩
   cases hB:Qr s (QX x.ty::QA x.ty::ctx.map Prod.snd) b with
   | bad f p =>
    rw [hB] at hr
    simp only [ofR] at hr
    obtain ⟨hf,u1,u2,u4,n4',rfl⟩:=hr
    have hf0:eqB f 0=false:=by rw [Qb];exact hf
    simp (disch:=omega) [Qt,Qo,hf0]
    exact ⟨hf,false,false,false,n4',by simp⟩
   | ok y =>
    have hyg:=hbg q y hB
    rw [hB] at hr
    simp only [ofR] at hr
    obtain ⟨u1,u2,u4,n4',rfl⟩:=hr
    have hyl:=hyg.2.1
    have c2:ZZ 1 (L false y.needs) (some 2) none none=some (L false (y.needs.drop 2)):=ZM (k:=2) (by omega)
    have i0:QP 1 (L false y.needs) 0=some (.rp [N (y.needs.getD 0 0)]):=Znd (i:=0) (by omega)
    have i1:QP 1 (L false y.needs) 1=some (.rp [N (y.needs.getD 1 0)]):=Znd (i:=1) (by omega)
    have g0:=ZhH hyg.2.2 (show 0 < y.needs.length by omega)
    have g1:=ZhH hyg.2.2 (show 1 < y.needs.length by omega)
    have cp:=KF false (y.needs.drop 2) (by simp;omega)
    have dl:(y.needs.drop 2).length=ctx.length:=by simp;omega
    have dg:∀ u∈y.needs.drop 2,s.G u:=fun u hu=>hyg.2.2 u (List.mem_of_mem_drop hu)
    have us:=used2 (s:=s) (l:=y.needs) (g:=n) (by omega)
    generalize y.needs.getD 0 0=y0 at *
    generalize y.needs.getD 1 0=y1 at *
    obtain ⟨yr,hyr⟩:∃ yr,yr=y.needs.drop 2:=⟨_,rfl⟩
    rw [<- hyr] at c2 cp dl dg
    simp (disch:=omega) [Qt,Qo,hz,c2]
    refine Qa cp (by simp) ?_
    simp (disch:=omega) [e512,e55,i1]
    refine Qa (Zx t g1 hn) (by simp) ?_
    cases hu1:s.le y1 n
    ·simp (disch:=omega) [i0]
     refine Qp (Qe.low (Xq 9 (by omega))) (by simp) ?_
     rintro r ⟨⟨h3,w1,w2,w4,k4,rfl⟩,lo⟩
     simp (disch:=omega) [us,hu1]
     exact ⟨by omega,w1,w2,w4,k4,by simp⟩
    ·simp (disch:=omega) [i0]
     refine Qa (Zx t g0 hn) (by simp) ?_
     cases hu0:s.le y0 n
     ·simp (disch:=omega)
      refine Qp (Qe.low (Xq 9 (by omega))) (by simp) ?_
      rintro r ⟨⟨h3,w1,w2,w4,k4,rfl⟩,lo⟩
      simp (disch:=omega) [us,hu1,hu0]
      exact ⟨by omega,w1,w2,w4,k4,by simp⟩
     ·have zr:=ZaV ctx.length (by omega)
      have sc:=ZL t false false (zeros ctx.length) n hn x.needs (by simp [zeros];omega) (by rw [hxg.2.1];simp [zeros]) (Zbx t _).2 hxg.2.2
      have e1:=ZdW hsy n x.needs
      rw [hxg.2.1] at e1
      rw [e1] at sc
      have so:=Yp t (g:=n) hxg.2.1
      have s2:=ZL t false false (Wg s n x.needs) 1 (GSys.G1 t) yr (by rw [so.1];omega) (by rw [so.1,dl]) so.2 dg
      rw [ZbF hsy _ _ dg] at s2
      simp (disch:=omega)
      refine Qa zr (by simp) ?_
      simp (disch:=omega)
      refine Qa sc (by simp) ?_
      simp (disch:=omega)
      refine Qa s2 (by simp) ?_
      simp (disch:=omega) [us,hu1,hu0]
      exact ⟨false,true,true,true,by simp [hyr]⟩
 ·have hq:eqB (hd x.ty) 1=false:=by rw [Qb];exact q
  rw [if_neg q]
  simp (disch:=omega) [Yw,Qt,Qo,GTerm.cells,hxi,hq,e55,e58,e512]
  refine Qp (Qe.low (Xq 4 (by omega))) (by simp) ?_
  rintro r ⟨⟨h3,w1,w2,w4,k4,rfl⟩,lo⟩
  simp (disch:=omega)
  exact ⟨by omega,w1,w2,w4,k4,by simp⟩
theorem Zo1 (n:Int) (nl1:Bool) (gty:List Int) (nl2:Bool) (a b:GTerm) (x:TT) (n4:Bool) (hn:s.G n) (hxg:x.good s ctx.length) (hA:Qr s (ctx.map Prod.snd) a=.ok x) (hbs:b.size<=1000000)
  (hb:WJ (hd x.ty)=true->Qe Tryz.prog WZ [s.lv,LC false ((false,QA x.ty)::ctx),b.lv] (Qr s (QA x.ty::ctx.map Prod.snd) b).told)
  (hbg:WJ (hd x.ty)=true->∀ y,Qr s (QA x.ty::ctx.map Prod.snd) b=.ok y->y.good s (ctx.length+1)) :
  Qe Tryz.prog JK [s.lv,LC nlc ctx,(GTerm.mk 12 n nl1 gty nl2 [a,b]).lv,aLV x n4] (Qr s (ctx.map Prod.snd) (GTerm.mk 12 n nl1 gty nl2 [a,b])).told:=by
 have t:=GSys.sys_of hsy
 have T:=ZsM (n:=n) (nl1:=nl1) (nl2:=nl2) (gty:=gty) (b:=b) hA hxg.1
 refine Qe.of_codeOf Za4 Qx (by simp) (ZbJ _ fun f p h=>ZR _ _ f p h) ?_
 rw [T]
 have hx:=XX hxg.1
 have hxi:QP 1 (L false x.ty) 0=some (.rp [N (hd x.ty)]):=ZV hx.2.2.2.1
 have e55:eqB 12 5=false:=by rw [Qb];omega
 have e58:eqB 12 8=false:=by rw [Qb];omega
 have e512:eqB 12 12=true:=by rw [Qc]
 have hz:eqB 0 0=true:=by rw [Qc]
 by_cases q:WJ (hd x.ty)=true
 ·have hk:W7 (hd x.ty)=some 1:=ZgY q
  have hsg:(QH (hd x.ty)).2=Xx (hd x.ty):=(KL hx.2.1 hx.2.2.1).2.2.2.2.2 (.inr q)
  have hgc:=Zfb hx.1 (.inr q)
  have hgG:s.G (Xx (hd x.ty)):=hgc
  rw [hsg]
  simp (disch:=omega) [Yw,Qt,Qo,GTerm.cells,hxi,e55,e58,e512]
  refine Qa (Zq6 (hd x.ty)) (by simp) ?_
  simp (disch:=omega) [q]
  refine Qa (Zx t (GSys.G1 t) hn) (by simp) ?_
  cases hl:s.le 1 n
  ·simp (disch:=omega)
   refine Qp (Qe.low (Xq 8 (by omega))) (by simp) ?_
   rintro r ⟨⟨h3,w1,w2,w4,k4,rfl⟩,lo⟩
   simp (disch:=omega)
   exact ⟨by omega,w1,w2,w4,k4,by simp⟩
  ·have p0:=YF hxg.1 0 (.inl hk)
   simp (disch:=omega)
   refine Qa p0 (by simp) ?_
   simp (disch:=omega) [Qn,e55]
   have w:=Zck nlc false ctx [(false,QA x.ty)] (by omega) (by simp)
   simp only [List.map_cons,List.map_nil,List.cons_append,List.nil_append] at w
   refine Qa w (by simp) ?_
   have of:=X3 s 12 n nl1 gty nl2 [a,b] 1 (by simp) false ((false,QA x.ty)::ctx) _ (WH hbs) (hb q)
   simp only [GTerm.lv,GTerm.cells,List.map_cons] at of
   simp (disch:=omega) [Qn]
   refine Qp (Qe.low of) (by simp) ?_
   rintro r ⟨hr,lo⟩
   cases hB:Qr s (QA x.ty::ctx.map Prod.snd) b with
   | bad f p =>
    rw [hB] at hr
    simp only [ofR] at hr
    obtain ⟨hf,u1,u2,u4,n4',rfl⟩:=hr
    have hf0:eqB f 0=false:=by rw [Qb];exact hf
    simp (disch:=omega) [Qt,Qo,hf0]
    exact ⟨hf,false,false,false,n4',by simp⟩
   | ok y =>
    have hyg:=hbg q y hB
    rw [hB] at hr
    simp only [ofR] at hr
    obtain ⟨u1,u2,u4,n4',rfl⟩:=hr
    have hyl:=hyg.2.1
    have c2:ZZ 1 (L false y.needs) (some 1) none none=some (L false (y.needs.drop 1)):=ZM (k:=1) (by omega)
    have i0:QP 1 (L false y.needs) 0=some (.rp [N (y.needs.getD 0 0)]):=Znd (i:=0) (by omega)
    have g0:=ZhH hyg.2.2 (show 0 < y.needs.length by omega)
    have cp:=KF false (y.needs.drop 1) (by simp;omega)
    have dl:(y.needs.drop 1).length=ctx.length:=by simp;omega
    have dg:∀ u∈y.needs.drop 1,s.G u:=fun u hu=>hyg.2.2 u (List.mem_of_mem_drop hu)
    have us:=used1 (s:=s) (l:=y.needs) (g:=s.tm n (Xx (hd x.ty))) (by omega)
    generalize y.needs.getD 0 0=y0 at *
    obtain ⟨yr,hyr⟩:∃ yr,yr=y.needs.drop 1:=⟨_,rfl⟩
    rw [<- hyr] at c2 cp dl dg
    simp (disch:=omega) [Qt,Qo,hz,c2]
    refine Qa cp (by simp) ?_
    simp (disch:=omega) [e512]
    refine Qa (ZhB (hd x.ty) (by unfold I64;omega) hx.2.1) (by simp) ?_
    simp (disch:=omega)
    refine Qa (KW t hn hgG) (by simp) ?_
    simp (disch:=omega) [i0]
    refine Qa (Zx t g0 (GSys.Gtm t _ _)) (by simp) ?_
    cases hu0:s.le y0 (s.tm n (Xx (hd x.ty)))
    ·simp (disch:=omega)
     refine Qp (Qe.low (Xq 9 (by omega))) (by simp) ?_
     rintro r ⟨⟨h3,w1,w2,w4,k4,rfl⟩,lo⟩
     simp (disch:=omega) [us,hu0]
     exact ⟨by omega,w1,w2,w4,k4,by simp⟩
    ·have zr:=ZaV ctx.length (by omega)
     have sc:=ZL t false false (zeros ctx.length) n hn x.needs (by simp [zeros];omega) (by rw [hxg.2.1];simp [zeros]) (Zbx t _).2 hxg.2.2
     have e1:=ZdW hsy n x.needs
     rw [hxg.2.1] at e1
     rw [e1] at sc
     have so:=Yp t (g:=n) hxg.2.1
     have s2:=ZL t false false (Wg s n x.needs) 1 (GSys.G1 t) yr (by rw [so.1];omega) (by rw [so.1,dl]) so.2 dg
     rw [ZbF hsy _ _ dg] at s2
     simp (disch:=omega)
     refine Qa zr (by simp) ?_
     simp (disch:=omega)
     refine Qa sc (by simp) ?_
     simp (disch:=omega)
     refine Qa s2 (by simp) ?_
     simp (disch:=omega) [us,hu0]
     exact ⟨false,true,true,true,by simp [hyr]⟩
 ·have q':WJ (hd x.ty)=false:=by simpa using q
  rw [if_neg q]
  simp (disch:=omega) [Yw,Qt,Qo,GTerm.cells,hxi,e55,e58,e512]
  refine Qa (Zq6 (hd x.ty)) (by simp) ?_
  simp (disch:=omega) [q']
  refine Qp (Qe.low (Xq 7 (by omega))) (by simp) ?_
  rintro r ⟨⟨h3,w1,w2,w4,k4,rfl⟩,lo⟩
  simp (disch:=omega)
  exact ⟨by omega,w1,w2,w4,k4,by simp⟩
theorem Zpe (n:Int) (nl1:Bool) (gty:List Int) (nl2:Bool) (a b c:GTerm) (x:TT) (n4:Bool) (hn:s.G n) (hxg:x.good s ctx.length) (hA:Qr s (ctx.map Prod.snd) a=.ok x) (hbs:b.size<=1000000) (hcs:c.size<=1000000)
  (hb:hd x.ty=2->Qe Tryz.prog WZ [s.lv,LC false ((false,QA x.ty)::ctx),b.lv] (Qr s (QA x.ty::ctx.map Prod.snd) b).told)
  (hbg:hd x.ty=2->∀ y,Qr s (QA x.ty::ctx.map Prod.snd) b=.ok y->y.good s (ctx.length+1))
  (hc:hd x.ty=2->Qe Tryz.prog WZ [s.lv,LC false ((false,QX x.ty)::ctx),c.lv] (Qr s (QX x.ty::ctx.map Prod.snd) c).told)
  (hcg:hd x.ty=2->∀ y,Qr s (QX x.ty::ctx.map Prod.snd) c=.ok y->y.good s (ctx.length+1)) :
  Qe Tryz.prog JK [s.lv,LC nlc ctx,(GTerm.mk 8 n nl1 gty nl2 [a,b,c]).lv,aLV x n4] (Qr s (ctx.map Prod.snd) (GTerm.mk 8 n nl1 gty nl2 [a,b,c])).told:=by
 have t:=GSys.sys_of hsy
 have T:=ZsW (n:=n) (nl1:=nl1) (nl2:=nl2) (gty:=gty) (b:=b) (c:=c) hA hxg.1
 refine Qe.of_codeOf Za4 Qx (by simp) (ZbJ _ fun f p h=>ZR _ _ f p h) ?_
 rw [T]
 have hx:=XX hxg.1
 have hxi:QP 1 (L false x.ty) 0=some (.rp [N (hd x.ty)]):=ZV hx.2.2.2.1
 have e55:eqB 8 5=false:=by rw [Qb];omega
 have e58:eqB 8 8=true:=by rw [Qc]
 have e512:eqB 8 12=false:=by rw [Qb];omega
 have hz:eqB 0 0=true:=by rw [Qc]
 by_cases q:hd x.ty=2
 ·have hq:eqB (hd x.ty) 2=true:=by rw [Qc];exact q
  have hk:W7 (hd x.ty)=some 2:=by rw [q];exact YG.2
  simp (disch:=omega) [Yw,Qt,Qo,GTerm.cells,hxi,hq,e55,e58,e512]
  refine Qa (Zx t (GSys.G1 t) hn) (by simp) ?_
  rw [if_pos q]
  cases hl:s.le 1 n
  ·simp (disch:=omega)
   refine Qp (Qe.low (Xq 8 (by omega))) (by simp) ?_
   rintro r ⟨⟨h3,w1,w2,w4,k4,rfl⟩,lo⟩
   simp (disch:=omega)
   exact ⟨by omega,w1,w2,w4,k4,by simp⟩
  ·have p0:=YF hxg.1 0 (.inr hk)
   have p1:=YF hxg.1 1 (.inr hk)
   simp (disch:=omega)
   refine Qa p0 (by simp) ?_
   simp (disch:=omega) [Qn,e55]
   have w:=Zck nlc false ctx [(false,QA x.ty)] (by omega) (by simp)
   have w2:=Zck nlc false ctx [(false,QX x.ty)] (by omega) (by simp)
   simp only [List.map_cons,List.map_nil,List.cons_append,List.nil_append] at w w2
   refine Qa w (by simp) ?_
   have of:=X3 s 8 n nl1 gty nl2 [a,b,c] 1 (by simp) false ((false,QA x.ty)::ctx) _ (WH hbs) (hb q)
   have of2:=X3 s 8 n nl1 gty nl2 [a,b,c] 2 (by simp) false ((false,QX x.ty)::ctx) _ (WH hcs) (hc q)
   simp only [GTerm.lv,GTerm.cells,List.map_cons] at of of2
   simp (disch:=omega) [Qn]
   refine Qp (Qe.low of) (by simp) ?_
   rintro r ⟨hr,lo⟩
   cases hB:Qr s (QA x.ty::ctx.map Prod.snd) b with
   | bad f p =>
    rw [hB] at hr
    simp only [ofR] at hr
    obtain ⟨hf,u1,u2,u4,n4',rfl⟩:=hr
    have hf0:eqB f 0=false:=by rw [Qb];exact hf
    simp (disch:=omega) [Qt,Qo,hf0]
    exact ⟨hf,false,false,false,n4',by simp⟩
   | ok y =>
    have hyg:=hbg q y hB
    rw [hB] at hr
    simp only [ofR] at hr
    obtain ⟨u1,u2,u4,n4',rfl⟩:=hr
    have hyl:=hyg.2.1
    have c2:ZZ 1 (L false y.needs) (some 1) none none=some (L false (y.needs.drop 1)):=ZM (k:=1) (by omega)
    have i0:QP 1 (L false y.needs) 0=some (.rp [N (y.needs.getD 0 0)]):=Znd (i:=0) (by omega)
    have g0:=ZhH hyg.2.2 (show 0 < y.needs.length by omega)
    have cp:=KF false (y.needs.drop 1) (by simp;omega)
    have dl:(y.needs.drop 1).length=ctx.length:=by simp;omega
    have dg:∀ u∈y.needs.drop 1,s.G u:=fun u hu=>hyg.2.2 u (List.mem_of_mem_drop hu)
    have us:=used1 (s:=s) (l:=y.needs) (g:=n) (by omega)
    generalize y.needs.getD 0 0=y0 at *
    obtain ⟨yr,hyr⟩:∃ yr,yr=y.needs.drop 1:=⟨_,rfl⟩
    rw [<- hyr] at c2 cp dl dg
    simp (disch:=omega) [Qt,Qo,hz,c2]
    refine Qa cp (by simp) ?_
    simp (disch:=omega) [e512,e55,e58]
    refine Qa p1 (by simp) ?_
    simp (disch:=omega) [Qn]
    refine Qa w2 (by simp) ?_
    simp (disch:=omega) [Qn]
    refine Qp (Qe.low of2) (by simp) ?_
    rintro r ⟨hr,lo⟩
    cases hC:Qr s (QX x.ty::ctx.map Prod.snd) c with
    | bad f p =>
     rw [hC] at hr
     simp only [ofR] at hr
     obtain ⟨hf,v1,v2,v4,m4',rfl⟩:=hr
     have hf0:eqB f 0=false:=by rw [Qb];exact hf
     simp (disch:=omega) [Qt,Qo,hf0]
     exact ⟨hf,false,false,false,m4',by simp⟩
    | ok z =>
     have hzg:=hcg q z hC
     rw [hC] at hr
     simp only [ofR] at hr
     obtain ⟨v1,v2,v4,m4',rfl⟩:=hr
     have hzl:=hzg.2.1
     have d2:ZZ 1 (L false z.needs) (some 1) none none=some (L false (z.needs.drop 1)):=ZM (k:=1) (by omega)
     have j0:QP 1 (L false z.needs) 0=some (.rp [N (z.needs.getD 0 0)]):=Znd (i:=0) (by omega)
     have k0:=ZhH hzg.2.2 (show 0 < z.needs.length by omega)
     have el:(z.needs.drop 1).length=ctx.length:=by simp;omega
     have eg:∀ u∈z.needs.drop 1,s.G u:=fun u hu=>hzg.2.2 u (List.mem_of_mem_drop hu)
     have vs:=used1 (s:=s) (l:=z.needs) (g:=n) (by omega)
     generalize z.needs.getD 0 0=z0 at *
     obtain ⟨zr,hzr⟩:∃ zr,zr=z.needs.drop 1:=⟨_,rfl⟩
     rw [<- hzr] at d2 el eg
     have ly:=QK hyg.1
     simp (disch:=omega) [Qt,Qo,hz]
     have sm:=Zcc false false y.ty z.ty (by omega)
     refine Qa sm (by simp) ?_
     cases he:(y.ty == z.ty)
     ·have he':y.ty≠z.ty:=by simpa using he
      simp (disch:=omega)
      refine Qp (Qe.low (Xq 3 (by omega))) (by simp) ?_
      rintro r ⟨⟨h3,w1,w2,w4,k4,rfl⟩,lo⟩
      simp (disch:=omega) [he']
      exact ⟨by omega,w1,w2,w4,k4,by simp⟩
     ·have he':y.ty=z.ty:=by simpa using he
      simp (disch:=omega) [j0]
      refine Qa (Zx t k0 hn) (by simp) ?_
      simp (disch:=omega) [d2]
      have jn:=ZnQ t false false yr zr (by omega) (by omega) dg eg
      refine Qa jn (by simp) ?_
      have jl:=ZcI (s:=s) dl el
      have jg:∀ u∈YC s yr zr,s.G u:=fun u hu=>Zkh hsy u hu dg eg
      cases hv0:s.le z0 n
      ·simp (disch:=omega)
       refine Qp (Qe.low (Xq 9 (by omega))) (by simp) ?_
       rintro r ⟨⟨h3,w1,w2,w4,k4,rfl⟩,lo⟩
       simp (disch:=omega) [us,vs,hv0,he']
       exact ⟨by omega,w1,w2,w4,k4,by simp⟩
      ·simp (disch:=omega) [i0]
       refine Qa (Zx t g0 hn) (by simp) ?_
       cases hu0:s.le y0 n
       ·simp (disch:=omega)
        refine Qp (Qe.low (Xq 9 (by omega))) (by simp) ?_
        rintro r ⟨⟨h3,w1,w2,w4,k4,rfl⟩,lo⟩
        simp (disch:=omega) [us,vs,hu0,hv0,he']
        exact ⟨by omega,w1,w2,w4,k4,by simp⟩
       ·have zz:=ZaV ctx.length (by omega)
        have sc:=ZL t false false (zeros ctx.length) n hn x.needs (by simp [zeros];omega) (by rw [hxg.2.1];simp [zeros]) (Zbx t _).2 hxg.2.2
        have e1:=ZdW hsy n x.needs
        rw [hxg.2.1] at e1
        rw [e1] at sc
        have so:=Yp t (g:=n) hxg.2.1
        have s2:=ZL t false false (Wg s n x.needs) 1 (GSys.G1 t) (YC s yr zr) (by rw [so.1];omega) (by rw [so.1,jl]) so.2 jg
        rw [ZbF hsy _ _ jg] at s2
        simp (disch:=omega)
        refine Qa zz (by simp) ?_
        simp (disch:=omega)
        refine Qa sc (by simp) ?_
        simp (disch:=omega)
        refine Qa s2 (by simp) ?_
        simp (disch:=omega) [us,vs,hu0,hv0,he']
        exact ⟨false,true,true,true,by simp [hyr,hzr,he']⟩
 ·have hq:eqB (hd x.ty) 2=false:=by rw [Qb];exact q
  rw [if_neg q]
  simp (disch:=omega) [Yw,Qt,Qo,GTerm.cells,hxi,hq,e55,e58,e512]
  refine Qp (Qe.low (Xq 5 (by omega))) (by simp) ?_
  rintro r ⟨⟨h3,w1,w2,w4,k4,rfl⟩,lo⟩
  simp (disch:=omega)
  exact ⟨by omega,w1,w2,w4,k4,by simp⟩
end
def Wt {α:Type} (f:Int->α) (k:Int):Nat->List α
 | 0=>[]
 | n+1=>f k::Wt f (k+1) n
@[simp] theorem Kj {α:Type} (f:Int->α) (k:Int) (n:Nat):(Wt f k n).length=n:=by
 induction n generalizing k with
 | zero=>rfl
 | succ n ih=>simp [Wt,ih]
theorem ZpM {α:Type} (f:Int->α) (k:Int) (n:Nat):Wt f k (n+1)=Wt f k n++[f (k+n)]:=by
 induction n generalizing k with
 | zero=>simp [Wt]
 | succ n ih =>
  rw [Wt,ih]
  simp only [Wt,List.cons_append,Int.natCast_add,Int.natCast_one]
  rw [show k+1+(n:Int)=k+(n+1) by omega]
theorem Zrc {α:Type} (f:Int->α) (k:Int) (n i:Nat) (h:i < n):(Wt f k n)[i]'(by simpa using h)=f (k+i):=by
 induction n generalizing k i with
 | zero=>omega
 | succ n ih =>
  cases i with
  | zero=>simp [Wt]
  | succ i =>
   simp only [Wt,List.getElem_cons_succ]
   rw [ih (k+1) i (by omega)]
   congr 1
   simp only [Int.natCast_add,Int.natCast_one]
   omega
def mI (k:Int):Int:=k
def mB (k:Int):Bool:=eqB (k.tmod 3) 0
abbrev Zpx {α:Type} (e:α->LV) (l:List α):List (List LV):=l.map fun x=>[e x]
theorem ZjN {α:Type} (v:α->Value):∀ (l:List α) (n:Nat) (cells:List LV) (bs:List Box),Xn (Zpx (fun x=>.sc (v x)) l) 1 n cells bs ↔ cells=l.map (fun x=>.sc (v x))∧bs=[]
 | [],n,cells,bs=>by simp [Xn]
 | x::l,n,cells,bs=>by
  simp only [Zpx,List.map_cons,Xn,WQ,Th]
  constructor
  ·rintro ⟨c1,b1,c2,b2,_,⟨y,b3,ys',b4,⟨rfl,rfl⟩,⟨rfl,rfl⟩,rfl,rfl⟩,h2,rfl,rfl⟩
   obtain ⟨rfl,rfl⟩:=(ZjN v l _ _ _).1 h2
   simp
  ·rintro ⟨rfl,rfl⟩
   exact ⟨[.sc (v x)],[],l.map (fun x=>.sc (v x)),[],rfl,⟨.sc (v x),[],[],[],⟨rfl,rfl⟩,⟨rfl,rfl⟩,rfl,rfl⟩,(ZjN v l _ _ _).2 ⟨rfl,rfl⟩,rfl,rfl⟩
theorem Zay {α:Type} (v:α->Value) {u nl:Bool} {l:List α} {n:Nat} {y:LV} {bs:List Box}:Th (.sl u nl 1 (Zpx (fun x=>.sc (v x)) l)) n y bs ↔ (l=[]∧y=.sl false nl 1 []∧bs=[]) ∨
  (nl=false∧l≠[]∧∃ slack cap,(l.length<=cap∧l.length * 1+slack=cap * 1)∧y=.ha n 1 0 l.length cap∧bs=[some (l.map (fun x=>.sc (v x))++List.replicate slack .dead)]):=by
 simp only [Th,ZjN,List.length_map,List.map_eq_nil_iff]
 constructor
 ·rintro (⟨h1,h2,h3⟩ | ⟨h1,h2,cells,bs',slack,cap,⟨rfl,rfl⟩,h3,h4,h5⟩)
  ·exact .inl ⟨h1,h2,h3⟩
  ·exact .inr ⟨h1,by simpa using h2,slack,cap,h3,by simpa using h4,by simpa using h5⟩
 ·rintro (⟨h1,h2,h3⟩ | ⟨h1,h2,slack,cap,h3,h4,h5⟩)
  ·exact .inl ⟨h1,h2,h3⟩
  ·exact .inr ⟨h1,by simpa using h2,_,[],slack,cap,⟨rfl,rfl⟩,h3,by simpa using h4,by simpa using h5⟩
theorem Zc {α:Type} (v:α->Value) (u nl:Bool) (l:List α) (h:l=[]∨(u=true∧nl=false)):QB (.sl u nl 1 (Zpx (fun x=>.sc (v x)) l)):=by
 simp only [QB]
 refine ⟨?_,?_⟩
 ·rcases h with rfl | ⟨rfl,rfl⟩
  ·left;rfl
  ·right;simp
 ·clear h
  induction l with
  | nil=>simp [QL]
  | cons x l ih=>simp only [Zpx,List.map_cons,QL,QS,QB];exact ⟨⟨trivial,trivial⟩,ih⟩
theorem ZiC {α:Type} (v:α->Value) (f:Int->α) (k:Int) (l:List α) (rest:List LV) (i:Nat) (h:i < l.length) :
  splice ((Wt f k i++l.drop i).map (fun x=>LV.sc (v x))++rest) i [.sc (v (f (k+i)))]=(Wt f k (i+1)++l.drop (i+1)).map (fun x=>LV.sc (v x))++rest:=by
 unfold splice
 rw [List.drop_eq_getElem_cons h,ZpM]
 simp only [List.map_append,List.map_cons,List.append_assoc,List.cons_append]
 rw [ZsO _ _ _ (by simp),ZsJ _ _ _ _ (by simp)]
 simp
@[simp] theorem bin_rem3 {a:Int}:XB .num .rem (.sc (.int .i64 a)) (.sc (.int .i64 3))=some (.sc (.int .i64 (a.tmod 3))):=by simp [XB,KS]
theorem JI (u nl:Bool) (l:List Int) (k:Int) (hk:0<=k∧k+l.length<=4611686018427387904) (h1 h2:List Box) (y:LV) (bs:List Box) (ht:Th (OU u nl l) h1.length y bs) :
  QE Tryz.prog XE [y,N k] (h1++bs++h2) (fun r h'=>r=N (k+l.length)∧∃ bs',bs'.length=bs.length∧Th (OU u nl (Wt mI k l.length)) h1.length y bs'∧h'=h1++bs'++h2):=by
 rcases (Zay (fun n:Int=>Value.int .i64 n)).1 ht with ⟨rfl,rfl,rfl⟩ | ⟨rfl,hne,slack,cap,hcap,rfl,rfl⟩
 ·refine QE.of_codeOf ZdB Qx (by simp) ⟨_,_,rfl,[],rfl,(Zay (fun n:Int=>Value.int .i64 n)).2 (.inl ⟨rfl,rfl,rfl⟩),rfl⟩ ?_
  simp (disch:=omega) [Zaq]
  refine Wf 0 0 (fun i t h=>t 5=N 0∧t 1=N k∧h=h1++h2) (by simp) (by omega) ?_
  rintro i t1 hh hf hi ⟨e5,e1,rfl⟩
  (have e0:=hf 0 (by kernel_rfl);clear hf;simp [] at e0)
  simp (disch:=omega) [e0,e1,e5]
  refine QM (.inr rfl) (by simp) ?_
  simp [Th,Wt]
 ·have hm:(Wt mI k l.length).length=l.length:=Kj _ k l.length
  have hne2:Wt mI k l.length≠[]:=by
   intro h;rw [h] at hm;exact hne (List.eq_nil_of_length_eq_zero (by simpa using hm.symm))
  refine QE.of_codeOf ZdB Qx (by simp) ⟨_,_,rfl,[some ((Wt mI k l.length).map (fun x=>.sc ((fun n:Int=>Value.int .i64 n) x))++List.replicate slack .dead)],rfl,(Zay (fun n:Int=>Value.int .i64 n)).2 (.inr ⟨rfl,hne2,slack,cap,by rw [hm];exact hcap,by rw [hm],rfl⟩),rfl⟩ ?_
  simp (disch:=omega) [Zaq]
  refine Wf l.length 0 (fun i t h=>t 5=N i∧t 1=N (k+i)∧h=h1++some ((Wt mI k i++l.drop i).map (fun x=>.sc ((fun n:Int=>Value.int .i64 n) x))++List.replicate slack .dead)::h2) (by simp [Wt]) (by omega) ?_
  rintro i t1 hh hf hi ⟨e5,e1,rfl⟩
  (have e0:=hf 0 (by kernel_rfl);clear hf;simp [] at e0)
  simp (disch:=omega) [e0,e1,e5]
  (with_reducible first | refine Qk (fun h5=>?_) (fun h5=>?_) | refine Ql (fun h5=>?_) (fun h5=>?_))
  ·simp only [Qf,Qd,Qi,Qh,Qc,Qb,Bool.not_true,Bool.not_false] at h5
   have hsp:=ZiC (fun n:Int=>Value.int .i64 n) mI k l (List.replicate slack .dead) i (by omega)
   simp (disch:=omega) [e0,e1,e5,Zy,Qg]
   exact ⟨by omega,by omega,by omega,by simpa [splice,mI,mB] using hsp⟩
  ·simp only [Qf,Qd,Qi,Qh,Qc,Qb,Bool.not_true,Bool.not_false] at h5
   simp (disch:=omega) [e1]
   refine QM (.inr rfl) (by simp) ⟨by simp;omega,[some ((Wt mI k l.length).map (fun x=>.sc ((fun n:Int=>Value.int .i64 n) x))++List.replicate slack .dead)],rfl,(Zay (fun n:Int=>Value.int .i64 n)).2 (.inr ⟨rfl,hne2,slack,cap,by rw [hm];exact hcap,by rw [hm],rfl⟩),?_⟩
   rw [show i=l.length by omega];simp
theorem ZgR (u nl:Bool) (l:List Bool) (k:Int) (hk:0<=k∧k+l.length<=4611686018427387904) (h1 h2:List Box) (y:LV) (bs:List Box) (ht:Th (OB u nl l) h1.length y bs) :
  QE Tryz.prog VI [y,N k] (h1++bs++h2) (fun r h'=>r=N (k+l.length)∧∃ bs',bs'.length=bs.length∧Th (OB u nl (Wt mB k l.length)) h1.length y bs'∧h'=h1++bs'++h2):=by
 rcases (Zay (fun b:Bool=>Value.bool b)).1 ht with ⟨rfl,rfl,rfl⟩ | ⟨rfl,hne,slack,cap,hcap,rfl,rfl⟩
 ·refine QE.of_codeOf ZcF Qx (by simp) ⟨_,_,rfl,[],rfl,(Zay (fun b:Bool=>Value.bool b)).2 (.inl ⟨rfl,rfl,rfl⟩),rfl⟩ ?_
  simp (disch:=omega) [Vt]
  refine Wf 0 0 (fun i t h=>t 5=N 0∧t 1=N k∧h=h1++h2) (by simp) (by omega) ?_
  rintro i t1 hh hf hi ⟨e5,e1,rfl⟩
  (have e0:=hf 0 (by kernel_rfl);clear hf;simp [] at e0)
  simp (disch:=omega) [e0,e1,e5]
  refine QM (.inr rfl) (by simp) ?_
  simp [Th,Wt]
 ·have hm:(Wt mB k l.length).length=l.length:=Kj _ k l.length
  have hne2:Wt mB k l.length≠[]:=by
   intro h;rw [h] at hm;exact hne (List.eq_nil_of_length_eq_zero (by simpa using hm.symm))
  refine QE.of_codeOf ZcF Qx (by simp) ⟨_,_,rfl,[some ((Wt mB k l.length).map (fun x=>.sc ((fun b:Bool=>Value.bool b) x))++List.replicate slack .dead)],rfl,(Zay (fun b:Bool=>Value.bool b)).2 (.inr ⟨rfl,hne2,slack,cap,by rw [hm];exact hcap,by rw [hm],rfl⟩),rfl⟩ ?_
  simp (disch:=omega) [Vt]
  refine Wf l.length 0 (fun i t h=>t 5=N i∧t 1=N (k+i)∧h=h1++some ((Wt mB k i++l.drop i).map (fun x=>.sc ((fun b:Bool=>Value.bool b) x))++List.replicate slack .dead)::h2) (by simp [Wt]) (by omega) ?_
  rintro i t1 hh hf hi ⟨e5,e1,rfl⟩
  (have e0:=hf 0 (by kernel_rfl);clear hf;simp [] at e0)
  simp (disch:=omega) [e0,e1,e5]
  (with_reducible first | refine Qk (fun h5=>?_) (fun h5=>?_) | refine Ql (fun h5=>?_) (fun h5=>?_))
  ·simp only [Qf,Qd,Qi,Qh,Qc,Qb,Bool.not_true,Bool.not_false] at h5
   have hsp:=ZiC (fun b:Bool=>Value.bool b) mB k l (List.replicate slack .dead) i (by omega)
   simp (disch:=omega) [e0,e1,e5,Zy,Qg]
   exact ⟨by omega,by omega,by omega,by simpa [splice,mI,mB] using hsp⟩
  ·simp only [Qf,Qd,Qi,Qh,Qc,Qb,Bool.not_true,Bool.not_false] at h5
   simp (disch:=omega) [e1]
   refine QM (.inr rfl) (by simp) ⟨by simp;omega,[some ((Wt mB k l.length).map (fun x=>.sc ((fun b:Bool=>Value.bool b) x))++List.replicate slack .dead)],rfl,(Zay (fun b:Bool=>Value.bool b)).2 (.inr ⟨rfl,hne2,slack,cap,by rw [hm];exact hcap,by rw [hm],rfl⟩),?_⟩
   rw [show i=l.length by omega];simp
theorem Zd0 (nl:Bool) (k:Int) (n:Nat) (hk:0<=k∧k+n<=4611686018427387904):Qe Tryz.prog YH [L nl (Wt mI k n),N k] (·=N (k+n)):=by
 refine Qe.of_codeOf Zi2 Qx (by simp) ⟨_,rfl,by simp⟩ ?_
 have hlen:(Wt mI k n).length=n:=Kj _ k n
 simp (disch:=omega) [Zds]
 refine Wf n 0 (fun i t _=>t 5=N i∧t 1=N (k+i)) (by simp) (by omega) ?_
 rintro i t1 hh hf hi ⟨e5,e1⟩
 (have e0:=hf 0 (by kernel_rfl);clear hf;simp [] at e0)
 simp (disch:=omega) [e0,e1,e5,hlen]
 (with_reducible first | refine Qk (fun h5=>?_) (fun h5=>?_) | refine Ql (fun h5=>?_) (fun h5=>?_))
 ·simp only [Qf,Qd,Qi,Qh,Qc,Qb,Bool.not_true,Bool.not_false] at h5
  have hg:(Wt mI k n)[i]'(by omega)=mI (k+i):=Zrc mI k n i (by omega)
  simp (disch:=omega) [e0,e1,e5,Xv,hlen,hg]
  repeat' (first
  | (with_reducible (first | refine Qk (fun hb_=>?_) (fun hb_=>?_) | refine Ql (fun hb_=>?_) (fun hb_=>?_))<;>simp (disch:=omega) [hb_,e0,e1,e5,Xv,hlen,hg,mI,mB,Qg])
  | simp (disch:=omega) [e0,e1,e5,Xv,hlen,hg,mI,mB,Qg])
  all_goals first | omega | (simp [mI,mB] at hb_)
 ·simp only [Qf,Qd,Qi,Qh,Qc,Qb,Bool.not_true,Bool.not_false] at h5
  simp (disch:=omega) [e1]
  rw [show i=n by omega]
theorem ZmF (u1 n1 u2 n2 u3 n3:Bool) (size:Int) (p t:List Int) (b:List Bool) (k:Int) (hk:0<=k∧k+(p.length+t.length+b.length)<=4611686018427387904) (h1 h2:List Box) (y1 y2 y3:LV) (b1 b2 b3:List Box)
  (t1:Th (OU u1 n1 p) h1.length y1 b1) (t2:Th (OU u2 n2 t) (h1++b1).length y2 b2) (t3:Th (OB u3 n3 b) (h1++b1++b2).length y3 b3) :
  QE Tryz.prog Z0 [.agg [N size,y1,y2,y3],N k] (h1++b1++b2++b3++h2) (fun r h'=>r=N (k+p.length+t.length+b.length)∧∃ c1 c2 c3,c1.length=b1.length∧c2.length=b2.length∧c3.length=b3.length ∧
   Th (OU u1 n1 (Wt mI k p.length)) h1.length y1 c1∧Th (OU u2 n2 (Wt mI (k+p.length) t.length)) (h1++c1).length y2 c2∧Th (OB u3 n3 (Wt mB (k+p.length+t.length) b.length)) (h1++c1++c2).length y3 c3∧∃ ex,h'=h1++c1++c2++c3++h2++ex):=by
 have s1:=Th.share _ _ _ _ t1
 have s2:=Th.share _ _ _ _ t2
 have s3:=Th.share _ _ _ _ t3
 have big:∀ (l:List Int),(Wt mI k l.length).length=l.length:=fun l=>Kj _ _ _
 obtain ⟨H,hH⟩:∃ H,h1++b1++b2++b3++h2=H:=⟨_,rfl⟩
 rw [hH]
 have m1:=JI u1 n1 p k (by omega) h1 (b2++b3++h2++[none]) y1 b1 t1
 rw [show h1++b1++(b2++b3++h2++[none])=H++[none] by rw [<- hH];simp] at m1
 refine QE.of_codeOf Zg7 Qx (by simp) ?_ ?_
 ·obtain ⟨r1,_,rfl,c1,l1,g1,rfl⟩:=m1.2.1
  obtain ⟨r2,_,rfl,c2,l2,g2,rfl⟩:=(JI u2 n2 t (k+p.length) (by omega) (h1++c1) (b3++h2++[none]) y2 b2 (by rw [List.length_append,l1,<- List.length_append];exact t2)).2.1
  obtain ⟨r3,_,rfl,c3,l3,g3,rfl⟩:=(ZgR u3 n3 b (k+p.length+t.length) (by omega) (h1++c1++c2) (h2++[none]) y3 b3 (by simp only [List.length_append,l1,l2] at t3 ⊢;exact t3)).2.1
  exact ⟨_,_,rfl,c1,c2,c3,l1,l2,l3,g1,g2,g3,[],rfl⟩
 ·simp (disch:=omega) [ZbD,Qt,Qo,s1,s2,s3]
  refine Qm m1 ?_
  rintro r h' ⟨rfl,c1,l1,g1,rfl⟩
  have m2:=JI u2 n2 t (k+p.length) (by omega) (h1++c1) (b3++h2++[none]) y2 b2 (by rw [List.length_append,l1,<- List.length_append];exact t2)
  rw [show h1++c1++b2++(b3++h2++[none])=h1++c1++(b2++b3++h2++[none]) by simp] at m2
  generalize hH2:h1++c1++(b2++b3++h2++[none])=H2 at *
  simp (disch:=omega) [s1,s2,s3]
  refine Qm m2 ?_
  rintro r h' ⟨rfl,c2,l2,g2,rfl⟩
  have m3:=ZgR u3 n3 b (k+p.length+t.length) (by omega) (h1++c1++c2) (h2++[none]) y3 b3 (by simp only [List.length_append,l1,l2] at t3 ⊢;exact t3)
  rw [show h1++c1++c2++b3++(h2++[none])=h1++c1++c2++(b3++h2++[none]) by simp] at m3
  generalize hH3:h1++c1++c2++(b3++h2++[none])=H3 at *
  simp (disch:=omega) [s1,s2,s3]
  refine Qm m3 ?_
  rintro r h' ⟨rfl,c3,l3,g3,rfl⟩
  simp (disch:=omega) [s1,s2,s3]
  have hl:=congrArg List.length hH
  simp only [List.length_append] at hl
  refine QM (.inr rfl) (by simp;omega) ⟨by simp,c1,l1,c2,l2,c3,l3,g1,by simpa using g2,by simpa using g3,[none],by simp⟩
theorem frz_at {H:List Box} {p sz n cap:Nat} {xs:List LV} (hl:H[p]?=some (some xs)) (hx:xs.length=cap * sz) (hn:n<=cap):Qo H (.ha p sz 0 n cap)=some (.sl true false sz (Qn sz n xs),H.set p none):=by
 simp only [Qo,hl]
 rw [if_pos ⟨hx,hn⟩]
theorem ZqJ (l : List Int) (ex : List LV) : ∀ n, n <= l.length -> Qn 1 n (l.map N ++ ex) = (l.take n).map fun x => [N x] := by
  induction l with
  | nil => intro n hn; have : n = 0 := by simpa using hn
           subst this; rfl
  | cons a l ih =>
    intro n hn
    cases n with
    | zero => rfl
    | succ n =>
      have := ih n (by simpa using hn)
      simp only [Qn, List.map_cons, List.cons_append, List.take_succ_cons, List.take_zero, List.drop_succ_cons, List.drop_zero, this]
theorem ZiM (l:List Int) (ex:List LV) (i:Nat) (v:Int) (h:i < l.length):splice (l.map N++ex) i [N v]=(l.set i v).map N++ex:=by
 unfold splice
 rw [List.take_append_of_le_length (by simp;omega),List.drop_append_of_le_length (by simp;omega),List.set_eq_take_append_cons_drop,if_pos h]
 simp
theorem Zpd (l:List Int) (ex:List LV) (i:Nat) (v:Int) (h:i < l.length):Qn 1 l.length (List.take i (l.map N++ex)++N v::List.drop (i+1) (l.map N++ex))=(l.set i v).map fun x=>[N x]:=by
 have h1:=ZiM l ex i v h
 have e:List.take i (l.map N++ex)++N v::List.drop (i+1) (l.map N++ex)=splice (l.map N++ex) i [N v]:=by unfold splice;simp
 rw [e,h1]
 have h2:=ZqJ (l.set i v) ex l.length (by simp)
 rw [h2,List.take_of_length_le (by simp)]
theorem RT.codes:∀ (t:RT),t.ok->∀ n∈t.flat,0<=n∧n<=36
 | .nd c ks,h,n,hn=>by
  simp only [RT.ok] at h
  simp only [RT.flat,List.mem_cons] at hn
  rcases hn with rfl | hn
  ·exact ZdY h.1
  ·exact codesAll ks h.2 n hn
where
 codesAll:∀ (ts:List RT),oks ts->∀ n∈WR ts,0<=n∧n<=36
  | [],_,n,hn=>by simp [WR] at hn
  | t::ts,h,n,hn=>by
   simp only [oks] at h
   simp only [WR,List.mem_append] at hn
   rcases hn with hn | hn
   ·exact RT.codes t h.1 n hn
   ·exact codesAll ts h.2 n hn
end Go.Proofs.YtbmepminmpjlcaaGreat