/- Part 6 of the proof of the row of the text YtbmepminmpjlcaaGreatZRowRunProgram: texts joined. No conditions. -/
import Derived.Test.YtbmepminmpjlcaaGreatZeRowRunProgram
set_option linter.unusedSimpArgs false
set_option linter.unusedVariables false
set_option linter.unusedSectionVars false
namespace Go.Proofs.YtbmepminmpjlcaaGreat
open Go Go.TL
open Go.Proofs.YtbmepminmpjlcaaGreat.Ty
set_option linter.unusedSimpArgs false
set_option linter.unusedVariables false
set_option maxRecDepth 20000
set_option maxHeartbeats 4000000
def flOk (nl:Bool) (l:List Int):Prop:=nl=true→l=[]
mutual
def GTerm.fl:GTerm→Prop
 | .mk _ _ nl1 ty _ ks=>flOk nl1 ty∧fls ks
def fls:List GTerm→Prop
 | []=>True
 | k::ks=>k.fl∧fls ks
end
theorem Zas:∀ {ks:List GTerm},fls ks ↔ ∀ k∈ks,k.fl
 | []=>by simp [fls]
 | k::ks=>by simp [fls,Zas (ks:=ks)]
def FzR (R:LV→Prop) (r:LV) (h':List Box):Prop:=∃ t h1 m,Fz t r h' h1∧(0:Nat)≤m∧m≤h1.length∧Low m t∧(∀ l xs,l < m→h1[l]?=some (some xs)→QG m xs)∧R t∧Low 0 t
theorem Qe.freeze {P:Program} {f:FuncId} {args:List LV} {R:LV→Prop} (c:QD P f args [] (FzR R)):Qe P f args R:=by
 refine QD.freeze (c.mono fun r h' hr=>?_)
 obtain ⟨t,h1,m,a,b,c,d,e,f,g⟩:=hr
 exact ⟨t,h1,m,a,b,c,d,e,f,g⟩
theorem fz_bad {R:LV→Prop} {h':List Box} {l:Nat} {xs:List LV} (hl:h'[l]?=some (some xs)) (hs:Vy xs xs (h'.set l none) (h'.set l none)) (lo:QG 0 xs) (hR:R (.rp xs)):FzR R (.ptr l 0) h' :=
 ⟨.rp xs,h'.set l none,0,by simp only [Fz];exact .inr ⟨l,xs,rfl,hl,hs⟩,Nat.le_refl _,Nat.zero_le _,by simpa using lo,fun l xs h=>by omega,hR,by simpa using lo⟩
theorem ZnB {u nl:Bool} {sz:Nat} {Qj:List (List LV)} (h:List Box):Fz (.sl u nl sz Qj) (.sl u nl sz Qj) h h:=by simp only [Fz];exact .inl ⟨trivial,trivial⟩
theorem Zca:∀ {xs:List LV} {h:List Box},(∀ x∈xs,∀ h,Fz x x h h)→Vy xs xs h h
 | [],h,_=>by simp [Vy]
 | x::xs,h,hx=>by
  simp only [Vy]
  exact ⟨x,xs,h,rfl,hx x (by simp) h,Zca fun y hy=>hx y (by simp [hy])⟩
theorem Zax {R:LV→Prop} {h':List Box} {l:Nat} {f:Int} {u nl:Bool} {p:List Int} (hl:h'[l]?=some (some [.sl true true 1 [],.sl true true 1 [],.sl true true 1 [],N f,OU u nl p]))
  (hR:R (.rp [.sl true true 1 [],.sl true true 1 [],.sl true true 1 [],N f,OU u nl p])):FzR R (.ptr l 0) h' :=
 fz_bad hl (Zca fun x hx=>by
  simp only [List.mem_cons,List.not_mem_nil,or_false] at hx
  rcases hx with rfl | rfl | rfl | rfl | rfl
  all_goals first | exact ZnB | (intro h;simp [Fz])) (by simp) hR
theorem Zjj:∀ (l:List Int) (h:List Box),Zc6 (l.map fun n=>[N n]) 1 (l.map N) h h
 | [],h=>by simp [Zc6]
 | a::l,h=>by
  simp only [List.map_cons,Zc6]
  exact ⟨[N a],l.map N,h,rfl,rfl,Zca (fun x hx=>by simp only [List.mem_singleton] at hx;subst hx;intro h;simp [Fz]),Zjj l h⟩
theorem fz_ok {R:LV→Prop} {c2:Box} {u:Bool} {T nd:List Int} {ndv:LV} {m:Nat} {u3 n3:Bool} {Qj:List (List LV)} {hr:List Box} (lo:∀ k,WF k Qj)
  (hn:(∃ u,ndv=OU u false nd)∨(ndv=.ha 2 1 0 m m∧c2=some (nd.map N)∧nd.length=m)) (hR:∀ u2,R (.rp [OU u false T,OU u2 false nd,.sl u3 n3 1 Qj,N 0,.sl true true 1 []])) :
  FzR R (.ptr 3 0) (none::none::c2::some [OU u false T,ndv,.sl u3 n3 1 Qj,N 0,.sl true true 1 []]::hr):=by
 rcases hn with ⟨u2,rfl⟩ | ⟨rfl,rfl,rfl⟩
 ·refine fz_bad (by rfl) (Zca fun x hx=>?_) (by simp [lo]) (hR u2)
  simp only [List.mem_cons,List.not_mem_nil,or_false] at hx
  rcases hx with rfl | rfl | rfl | rfl | rfl
  all_goals first | exact ZnB | (intro h;simp [Fz])
 ·refine ⟨.rp [OU u false T,OU true false nd,.sl u3 n3 1 Qj,N 0,.sl true true 1 []],none::none::none::none::hr,0,?_,Nat.le_refl _,Nat.zero_le _,by simp [lo],fun l xs h=>by omega,hR true,by simp [lo]⟩
  simp only [Fz]
  refine .inr ⟨3,_,rfl,rfl,?_⟩
  simp only [Vy]
  refine ⟨_,_,_,rfl,ZnB _,_,_,_,rfl,?_,_,_,_,rfl,ZnB _,_,_,_,rfl,⟨rfl,rfl⟩,_,_,_,rfl,ZnB _,rfl,rfl⟩
  simp only [Fz]
  refine .inr ⟨trivial,trivial,2,nd.length,nd.map N,[],by simp,by simp,by simp,by simp,?_⟩
  exact Zjj nd _
theorem ZX (ys:List LV):(LV.rp ys).flat=true:=rfl
theorem YR (ys:List LV):(LV.rp ys).cells=[.rp ys]:=rfl
theorem app_new {Qj:List (List LV)} {row:List LV} (h:Qj.length < 1099511627776):WC 1 (.sl (!Qj.isEmpty) Qj.isEmpty 1 Qj) (.sl true false 1 [row])=some (.sl (!(Qj++[row]).isEmpty) (Qj++[row]).isEmpty 1 (Qj++[row])):=by
 simp only [WC]
 rw [if_pos ⟨by cases Qj<;>simp,.inl trivial,.inl trivial,by simp [WV];omega⟩]
 cases Qj<;>simp
theorem ZfU {nv size:Int} {closed:Bool} {op:Int}:∀ {ks:List GTerm} {k:Nat},Z9 nv size closed op k ks=true→∀ (i:Nat) (h:i < ks.length),Zk (nv+Qy op ((k+i:Nat):Int)) size closed ks[i]=true
 | [],_,_,i,h=>by simp at h
 | t::ts,k,hf,i,h=>by
  simp only [Z9,Bool.and_eq_true] at hf
  cases i with
  | zero=>simpa using hf.1
  | succ i =>
   have:=ZfU hf.2 i (by simpa using h)
   rw [show k+1+i=k+(i+1) by omega] at this
   simpa using this
mutual
theorem VY {s:GSys}:∀ (g:GTerm) (ctx:List (List Int)) (f:Int) (p:List Int),Qr s ctx g=.bad f p→p.length≤g.size
 | .mk op n _ ty _ ks,ctx,f0,p0,h=>by
  rw [Qr] at h
  split at h
  ·rename_i f' p' hd
   simp only [Res.bad.injEq] at h
   obtain ⟨rfl,rfl⟩:=h
   have:=ZiN ks ctx op n ty [] _ _ hd
   simpa [GTerm.size] using this
  ·split at h
   ·simp at h
   ·simp only [Res.bad.injEq] at h
    obtain ⟨_,rfl⟩:=h
    simp
theorem ZiN {s:GSys}:∀ (ks:List GTerm) (ctx:List (List Int)) (op n:Int) (ty:List Int) (ds:List TT) (f:Int) (p:List Int),Wf s ctx op n ty ds ks=.bad f p→p.length≤Xb ks+1
 | [],ctx,op,n,ty,ds,f,p,h=>by simp [Wf] at h
 | k::ks,ctx,op,n,ty,ds,f,p,h=>by
  rw [Wf] at h
  split at h
  ·rename_i f' p' hd
   simp only [KRes.bad.injEq] at h
   obtain ⟨rfl,rfl⟩:=h
   have:=VY k _ _ p' hd
   simp [Xb];omega
  ·split at h
   ·simp only [KRes.bad.injEq] at h
    obtain ⟨_,rfl⟩:=h
    simp
   ·split at h
    ·simp only [KRes.bad.injEq] at h
     obtain ⟨_,rfl⟩:=h
     simp
    ·have:=ZiN ks ctx op n ty _ f p h
     simp [Xb];omega
end
theorem ZoG {c:WZ} (h:c.length < 1099511627776) (f:Bool) (l:List Int):WC 1 (ZaW c) (.sl true false 1 [[L f l]])=some (ZaW (c++[(f,l)])):=by
 have:=app_new (Qj:=c.map fun x=>[eC x]) (row:=[L f l]) (by rw [List.length_map];exact h)
 have e1:(c.map fun x=>[eC x]).isEmpty=c.isEmpty:=by cases c<;>rfl
 have e2:(c.map (fun x=>[eC x])++[[L f l]])=(c++[(f,l)]).map fun x=>[eC x]:=by simp
 have e3:((c++[(f,l)]).map fun x=>[eC x]).isEmpty=(c++[(f,l)]).isEmpty:=by cases c<;>rfl
 rw [e2,e1,e3] at this
 exact this
theorem Zga (l:List Int):Qv (l.map fun n=>[N n])=l.map fun n=>[N n]:=by simp
theorem Jv {c:WZ} {g g':Nat→List Int} {v:Bool×List Int} (hc:∀ (j:Nat) (h:j < c.length),(c[j]).2=g j) (h1:∀ j,j < c.length→g' j=g j) (h2:v.2=g' c.length):∀ (j:Nat) (h:j < (c++[v]).length),((c++[v])[j]).2=g' j:=by
 intro j h
 rw [List.length_append] at h
 rcases Nat.lt_or_ge j c.length with q | q
 ·rw [List.getElem_append_left q,hc j q,h1 j q]
 ·have:j=c.length:=by simp at h;omega
  subst this
  rw [List.getElem_append_right (Nat.le_refl _)]
  simpa using h2
theorem ZdL {c:WZ} {l:List Int} (h:∀ x∈c,x.1=false):∀ x∈c++[(false,l)],x.1=false:=by
 intro x hx
 rcases List.mem_append.1 hx with hx | hx
 ·exact h x hx
 ·simp at hx;subst hx;rfl
theorem Zo {ds:List TT} {x:TT} {j:Nat} (h:j < ds.length):(ds++[x]).getD j (.mk [] [] [])=ds.getD j (.mk [] [] []):=by
 simp [List.getD_eq_getElem?_getD,List.getElem?_append_left h]
theorem Yq {ds:List TT} {x:TT} {j:Nat} (h:j=ds.length):(ds++[x]).getD j (.mk [] [] [])=x:=by
 subst h;simp [List.getD_eq_getElem?_getD]
theorem Zbi {c:WZ} (h:c.length < 1099511627776) (f:Bool) (l:List Int) (k:Nat):WC 1 (ZaW c) (.sl true false 1 [[.sl false f 1 (List.take k (l.map fun n=>[N n]))]])=some (ZaW (c++[(f,l.take k)])):=by
 rw [← List.map_take];exact ZoG h f (l.take k)
theorem Zba {c:WZ} (h:c.length < 1099511627776) (f:Bool) (l:List Int) (k:Nat):WC 1 (ZaW c) (.sl true false 1 [[.sl false f 1 (List.drop k (l.map fun n=>[N n]))]])=some (ZaW (c++[(f,l.drop k)])):=by
 rw [← List.map_drop];exact ZoG h f (l.drop k)
theorem Za6 {n2:Bool} {l:List Int} {k:Nat} (h:k≤l.length):ZA 1 (L n2 l) none (some (k:Int)) none=some (L n2 (l.take k)):=by
 simp only [ZA,Option.getD_none,Option.getD_some,List.length_map]
 rw [if_pos ⟨trivial,by omega,by omega,by omega,by omega⟩,show ((k:Int)).toNat=k by omega,← List.map_take]
 simp only [Option.isSome_none,Bool.false_and,List.drop_zero,Int.toNat_zero,Zga]
theorem Zj {n2:Bool} {l:List Int} {k:Nat} (h:k≤l.length):ZA 1 (L n2 l) (some (k:Int)) none none=some (L n2 (l.drop k)):=by
 simp only [ZA,Option.getD_none,Option.getD_some,List.length_map]
 rw [if_pos ⟨trivial,by omega,by omega,by omega,by omega⟩,show ((k:Int)).toNat=k by omega,show ((l.length:Int)).toNat=l.length by omega,← List.map_take,← List.map_drop,List.take_length]
 simp only [Option.isSome_none,Bool.false_and,Zga]
mutual
theorem Zp {s:GSys}:∀ (g:GTerm) (ctx:List (List Int)) (f:Int) (p:List Int),Qr s ctx g=.bad f p→f≠0
 | .mk op n _ ty _ ks,ctx,f0,p0,h=>by
  rw [Qr] at h
  split at h
  ·rename_i f' p' hd
   simp only [Res.bad.injEq] at h
   obtain ⟨rfl,rfl⟩:=h
   exact Zll ks ctx op n ty [] _ _ hd
  ·split at h
   ·simp at h
   ·rename_i hne
    simp only [Res.bad.injEq] at h
    obtain ⟨rfl,rfl⟩:=h
    exact hne
theorem Zll {s:GSys}:∀ (ks:List GTerm) (ctx:List (List Int)) (op n:Int) (ty:List Int) (ds:List TT) (f:Int) (p:List Int),Wf s ctx op n ty ds ks=.bad f p→f≠0
 | [],ctx,op,n,ty,ds,f,p,h=>by simp [Wf] at h
 | k::ks,ctx,op,n,ty,ds,f,p,h=>by
  rw [Wf] at h
  split at h
  ·rename_i f' p' hd
   simp only [KRes.bad.injEq] at h
   obtain ⟨rfl,rfl⟩:=h
   exact Zp k _ _ p' hd
  ·split at h
   ·rename_i hne
    simp only [KRes.bad.injEq] at h
    obtain ⟨rfl,rfl⟩:=h
    exact hne
   ·split at h
    ·simp only [KRes.bad.injEq] at h
     obtain ⟨rfl,rfl⟩:=h
     omega
    ·exact Zll ks ctx op n ty _ f p h
end
mutual
theorem TT.ex:∀ x:TT,∃ r,x.is r∧∃ ys,r=.rp ys
 | .mk ty nd ks=>by
  obtain ⟨Qj,h⟩:=TT.exs ks
  exact ⟨_,by simp only [TT.is];exact ⟨false,false,Qj,rfl,h⟩,_,rfl⟩
theorem TT.exs:∀ xs:List TT,∃ Qj,TT.are xs Qj
 | []=>⟨[],by simp [TT.are]⟩
 | x::xs=>by
  obtain ⟨r,h,_⟩:=TT.ex x
  obtain ⟨Qj,h2⟩:=TT.exs xs
  exact ⟨_,by simp only [TT.are];exact ⟨r,Qj,rfl,h,h2⟩⟩
end
theorem res_ex (x:Res) (hb:∀ f p,x=.bad f p→f≠0):∃ ys,x.is (share (.rp ys))∧QG 0 ys:=by
 cases x with
 | ok x =>
  obtain ⟨r,h,ys,rfl⟩:=TT.ex x
  obtain ⟨h1,h2⟩:=ZnF x _ h
  exact ⟨ys,by rw [h1];exact h,by simpa using h2 0⟩
 | bad f p=>exact ⟨[.sl false true 1 [],.sl false true 1 [],.sl false true 1 [],N f,L false p],⟨hb f p rfl,false,by simp⟩,by simp⟩
theorem fz_ex (R:LV→Prop) (h:∃ ys,R (.rp ys)∧QG 0 ys):∃ r h',FzR R r h':=by
 obtain ⟨ys,h1,h2⟩:=h
 exact ⟨.rp ys,[],.rp ys,[],0,by simp only [Fz];exact .inl ⟨trivial,trivial⟩,Nat.le_refl _,Nat.zero_le _,by simpa using h2,fun l xs h=>by omega,h1,by simpa using h2⟩
structure TypJ (s:GSys) (cx:List (List Int)) (op n:Int) (gty:List Int) (ks:List GTerm) (i:Nat) (t:Nat→LV) (h:List Box) (ds:List TT) (Qj:List (List LV)) (nds uds:WZ) (hr:List Box):Prop where
 are:TT.are ds Qj
 len:ds.length=i
 kok:KidsOk s cx.length op n ds
 tell:Wf s cx op n gty [] ks=Wf s cx op n gty ds (ks.drop i)
 ulen:uds.length=i
 nlen:nds.length=i
 us:∀ (j:Nat) (h:j < uds.length),(uds[j]).2=usP op ds j
 nd:∀ (j:Nat) (h:j < nds.length),(nds[j]).2=ndP op ds j
 nf:∀ c∈nds,c.1=false
 e24:t 24=N i
 e8:t 8=ZaW nds
 e9:t 9=ZaW uds
 heap:h=none::none::some ((zeros cx.length).map N)::ZgG (.sl true true 1 []) (.ha 2 1 0 cx.length cx.length) true ds.isEmpty Qj::hr
theorem typ_ok {s:GSys} (hsy:s.sys=true) (d:Nat):∀ (g:GTerm) (nlc:Bool) (ctx:WZ),g.size≤d→g.wf→g.fl→(∀ c∈ctx,okL s.size c.2=true)→(∀ c∈ctx,c.1=false)→ctx.length+2 * g.size≤100000→Zk ctx.length s.size true g=true →
  Qe Tryz.prog Zc [s.lv,LC nlc ctx,g.lv] (fun r=>(Qr s (ctx.map Prod.snd) g).is (share r)):=by
 induction d with
 | zero=>intro g _ _ h;have:=g.size_pos;omega
 | succ d ih =>
  rintro ⟨op,n,nl1,gty,nl2,ks⟩ nlc ctx hsz hw hfl hc hcf hlen hform
  have t:=GSys.sys_of hsy
  have h16:=t.hi
  simp only [Zk,Bool.and_eq_true] at hform
  obtain ⟨hnode,hforms⟩:=hform
  have no:=ZdO hnode
  simp only [GTerm.wf] at hw
  obtain ⟨wop,wn,wty,wk,wks⟩:=hw
  simp only [GTerm.fl] at hfl
  obtain ⟨fl1,flk⟩:=hfl
  simp only [GTerm.size] at hsz hlen
  have hm:(ctx.length:Int)≤(WV:Nat):=by unfold WV;omega
  have many:=no.many
  have hk3:ks.length≤3:=by
   unfold Xp at many
   repeat' split at many
   all_goals omega
  have cxl:(ctx.map Prod.snd).length=ctx.length:=by simp
  refine Qe.freeze (QD.of_codeOf ZeD Qz (by simp) ?_ ?_)
  ·exact fz_ex (fun r=>(Qr s (ctx.map Prod.snd) (GTerm.mk op n nl1 gty nl2 ks)).is (share r)) (res_ex _ fun f p h=>Zp _ _ f p h)
  have hfl0:∀ a b c d e,(LV.ha a b c d e).flat=true∧(LV.ha a b c d e).cells.length=1:=fun _ _ _ _ _=>⟨rfl,rfl⟩
  have hce0:∀ a b c d e,(LV.ha a b c d e).cells=[.ha a b c d e]:=fun _ _ _ _ _=>rfl
  simp (disch:=omega) [Zae,Qu,Qo,GTerm.cells,hm,hfl0,hce0]
  refine Xf ks.length 0 (fun i t h=>∃ ds Qj nds uds hr,TypJ s (ctx.map Prod.snd) op n gty ks i t h ds Qj nds uds hr) (fun t h=>∃ ds Qj nds uds hr,TypJ s (ctx.map Prod.snd) op n gty ks ks.length t h ds Qj nds uds hr) ?_ (by omega) ?_ ?_
  ·refine ⟨[],[],[],[],[],by simp [TT.are],rfl,⟨fun i x h=>by simp at h,fun _ x h=>by simp at h⟩,by simp,rfl,rfl,fun j h=>by simp at h,fun j h=>by simp at h,by simp,by simp,by simp,by simp,?_⟩
   simp [zeros]
  ·rintro i t1 hh hf hi ⟨ds,Qj,nds,uds,hr,J⟩
   (have e1:=hf 1 (by kernel_rfl);have e3:=hf 3 (by kernel_rfl);have e5:=hf 5 (by kernel_rfl);have e7:=hf 7 (by kernel_rfl);have e22:=hf 22 (by kernel_rfl);have e23:=hf 23 (by kernel_rfl);clear hf;simp [] at e1 e3 e5 e7 e22 e23)
   obtain ⟨are,len,kok,tell,ulen,nlen,us,nd,nf,e24,e8,e9,rfl⟩:=J
   have gl:GTerm.cells (GTerm.mk op n nl1 gty nl2 ks)=[N op,N n,L nl1 gty,.sl false nl2 4 (Wp ks)]:=by simp [GTerm.cells]
   simp (disch:=omega) [e1,e3,e5,e7,e22,e23,e24]
   by_cases h6:i < ks.length
   rotate_left
   ·have hb:ltB (i:Int) ks.length=false:=by rw [Qd];omega
    have hik:i=ks.length:=by omega
    simp (disch:=omega) [hb]
    exact ⟨ds,Qj,nds,uds,hr,are,by omega,kok,by rw [tell,hik],by omega,by omega,us,nd,nf,by simp [e24,hik],by simp [e8],by simp [e9],by simp⟩
   have hb:ltB (i:Int) ks.length=true:=by rw [Qf];omega
   have hdrop:=List.drop_eq_getElem_cons h6
   have hkw:(ks[i]).wf:=(ZaC.1 wks) _ (List.getElem_mem h6)
   have hkf:(ks[i]).fl:=(Zas.1 flk) _ (List.getElem_mem h6)
   have hks:=Yx h6
   have hkform:Zk ((ctx.length:Int)+Qy op i) s.size true ks[i]=true:=by have:=ZfU hforms i h6;simpa using this
   have hix:=WO ks false nl2 i h6
   rw [hdrop] at tell
   generalize ks[i]=k at *
   have hadd:=K3 op i
   have hcs:∀ l∈ctx.map Prod.snd,okL s.size l=true:=fun l hl=>by
    obtain ⟨c,h1,rfl⟩:=List.mem_map.1 hl
    exact hc c h1
   have hty:op=9→okL s.size gty=true:=fun h=>no.typed (by subst h;simp [XC,Qc])
   have hfirst:i≠0→okL s.size (first ds)=true∧ZeX op (hd (first ds)):=fun h=>by
    have:=kok.first (by rintro rfl;simp at len;omega)
    exact ⟨this.1,this.2.1⟩
   have hm1:∀ f,JG op nl1 gty i f=[]∨True:=fun _=>.inr trivial
   have rl:=Zl8 ds Qj are
   have hmore:∃ more:WZ,more=JG op nl1 gty i (first ds):=⟨_,rfl⟩
   obtain ⟨more,hmd⟩:=hmore
   have hms:more.map Prod.snd=Qx op gty i (first ds):=by rw [hmd];exact ZpO op nl1 gty i (first ds)
   have hml:more.length=(Qy op i).toNat:=by
    have:=congrArg List.length hms
    rw [List.length_map,Zbf] at this;exact this
   have hmok:∀ c∈more++ctx,okL s.size c.2=true:=by
    intro c hcm
    rcases List.mem_append.1 hcm with hcm | hcm
    ·exact ZiE (i:=i) (f:=first ds) hty hfirst c.2 (by rw [← hms];exact List.mem_map_of_mem hcm)
    ·exact hc c hcm
   have hmf:∀ c∈more++ctx,c.1=false:=by
    intro c hcm
    rcases List.mem_append.1 hcm with hcm | hcm
    ·rw [hmd] at hcm
     unfold JG at hcm
     split at hcm
     ·rename_i h9
      simp at hcm;subst hcm
      have:=QV (hty h9)
      cases hn:nl1 with
      | false=>rfl
      | true=>have:=fl1 hn;subst this;simp at *
     ·simp at hcm;obtain ⟨a,_,rfl⟩:=hcm;rfl
    ·exact hcf c hcm
   have cc:=Zpu [(more.isEmpty,more),(nlc,ctx)] (by simp) (by simp [lnC];omega)
   have ce:flC [(more.isEmpty,more),(nlc,ctx)]=more++ctx:=by simp [flC]
   rw [ce] at cc
   have recu:=ih k (!ltB 0 ((more++ctx).length:Int)) (more++ctx) (by omega) hkw hkf hmok hmf (by rw [List.length_append];omega) (by rw [List.length_append,show ((more.length+ctx.length:Nat):Int)=ctx.length+Qy op i by omega];exact hkform)
   rw [List.map_append,hms] at recu
   clear hmok hmf ce
   generalize more++ctx=mc at cc recu
   have hg0:∀ r:Int×List Int,Wf s (ctx.map Prod.snd) op n gty ds (k::List.drop (i+1) ks)=.bad r.1 r.2→Qr s (ctx.map Prod.snd) (GTerm.mk op n nl1 gty nl2 ks)=.bad r.1 r.2:=fun r h=>by rw [Qr,tell,h]
   have hgoodI:∀ x,Qr s (Qx op gty i (first ds)++ctx.map Prod.snd) k=.ok x→x.good s ((ctx.map Prod.snd).length+(Qy op i).toNat):=fun x hx=>by
    have:=V6 t k (Qx op gty i (first ds)++ctx.map Prod.snd) x (by rw [← len];exact ext_ok hcs (fun h=>hty h) kok)
     (by rw [List.length_append,Zbf,cxl,show (((Qy op i).toNat+ctx.length:Nat):Int)=ctx.length+Qy op i by omega];exact hkform) hx
    rw [List.length_append,Zbf,Nat.add_comm] at this
    exact this
   have hbadI:∀ f p,Qr s (Qx op gty i (first ds)++ctx.map Prod.snd) k=.bad f p→Qr s (ctx.map Prod.snd) (GTerm.mk op n nl1 gty nl2 ks)=.bad f ((i:Int)::p):=fun f p h =>
    hg0 (f,(i:Int)::p) (by rw [Wf,len,h])
   have hfbI:∀ x,Qr s (Qx op gty i (first ds)++ctx.map Prod.snd) k=.ok x→QT s op n i (hd x.ty)≠0→Qr s (ctx.map Prod.snd) (GTerm.mk op n nl1 gty nl2 ks)=.bad (QT s op n i (hd x.ty)) []:=fun x h h2 =>
    hg0 (QT s op n i (hd x.ty),[]) (by rw [Wf,len,h];simp only;rw [if_pos h2])
   have hsameI:∀ x,Qr s (Qx op gty i (first ds)++ctx.map Prod.snd) k=.ok x→QT s op n i (hd x.ty)=0→(op=10∧i=1∧x.ty≠QJ (first ds))→Qr s (ctx.map Prod.snd) (GTerm.mk op n nl1 gty nl2 ks)=.bad 3 []:=fun x h h2 h3 =>
    hg0 (3,[]) (by rw [Wf,len,h];simp only;rw [if_neg (by simpa using h2),if_pos h3])
   have hnextI:∀ x,Qr s (Qx op gty i (first ds)++ctx.map Prod.snd) k=.ok x→QT s op n i (hd x.ty)=0→¬ (op=10∧i=1∧x.ty≠QJ (first ds))→Wf s (ctx.map Prod.snd) op n gty [] ks=Wf s (ctx.map Prod.snd) op n gty (ds++[x]) (List.drop (i+1) ks):=fun x h h2 h3=>by
    rw [tell,Wf,len,h];simp only;rw [if_neg (by simpa using h2),if_neg h3]
   have hthree:(i=0∧op≠9)∨(i=0∧op=9)∨0 < i:=by omega
   rcases hthree with ⟨hi0,h9⟩ | ⟨hi0,h9⟩ | hi0
   ·subst hi0
    simp only [Int.natCast_zero] at hb hix e24
    have h9b:eqB op 9=false:=by rw [Qb];exact h9
    have hz:ltB 0 0=false:=by rw [Qd];omega
    have hme:more=[]:=List.eq_nil_of_length_eq_zero (by rw [hml];unfold Qy;rw [if_neg (by omega),if_neg (by omega)];rfl)
    have em:LV.sl false true 1 []=LV.sl false more.isEmpty 1 (more.map fun c=>[eC c]):=by rw [hme];rfl
    simp (disch:=omega) [e1,e3,e5,e7,e8,e9,e22,e23,e24,hb,hix,h9b,hz,Ql]
    rw [em]
    refine Qa cc (by simp) ?_
    simp (disch:=omega) [e1,e3,e5,e7,e8,e9,e22,e23,e24,hb,hix]
    refine Qp recu (by simp) ?_
    intro r hr1
    cases hT:Qr s (Qx op gty 0 (first ds)++List.map Prod.snd ctx) k with
    | bad f p =>
     rw [hT] at hr1
     obtain ⟨hf0,n4,hsr2⟩:=hr1
     have hfb:eqB f 0=false:=by rw [Qb];exact hf0
     have hpl:=VY k _ f p hT
     have hpm:1+p.length≤WV:=by unfold WV;omega
     have hres:=hbadI f p hT
     simp (disch:=omega) [e1,e3,e5,e7,e8,e9,e22,e23,e24,hb,hix,hsr2,hfb,Ql,WC,hpm,Qu]
     refine QK (.inr rfl) (by simp) (Zax (f:=f) (u:=true) (nl:=false) (p:=(0:Int)::p) (by simp) ?_)
     rw [hres]
     exact ⟨hf0,false,by simp⟩
    | ok x =>
     have hgood:=hgoodI x hT
     have hfb:=hfbI x hT
     have hsame:=hsameI x hT
     have hnext:=hnextI x hT
     rw [hT] at hr1
     obtain ⟨xty,xnd,xks⟩:=x
     have hxis:(TT.mk xty xnd xks).is (share r):=hr1
     simp only [Res.is,TT.is] at hr1
     obtain ⟨n3,n4,xrows,hsr2,hxr⟩:=hr1
     simp only [TT.ty_mk] at hfb hsame hnext
     have hgt:okL s.size xty=true:=hgood.1
     have fo:=Zc7 t (GTerm.mk op n nl1 gty nl2 ks) op n nl1 gty nl2 ks rfl 0 (by omega) xty hgt no.op13 (fun h=>no.grade (by rcases h with h | h | h<;>(subst h;simp [Yd,Qc])))
     simp only [GTerm.lv,GTerm.cells] at fo
     simp (disch:=omega) [e1,e3,e5,e7,e8,e9,e22,e23,e24,hb,hix,hsr2,Ql]
     refine Qa fo (by simp) ?_
     simp (disch:=omega) [e1,e3,e5,e7,e8,e9,e22,e23,e24,hb,hix,hsr2,Ql]
     by_cases hq:QT s op n 0 (hd xty)=0
     ·rw [hq]
      have hz0:eqB 0 0=true:=by rw [Qc]
      simp (disch:=omega) [e1,e3,e5,e7,e8,e9,e22,e23,e24,hb,hix,hsr2,Ql,hz0]
      by_cases h10:op=10
      ·by_cases h19:op=9
       ·exfalso;omega
       ·have h10b:eqB op 10=true:=by rw [Qc];exact h10
        by_cases hi1:0=1
        ·exfalso;omega
        ·have hi1b:eqB 0 1=false:=by rw [Qb];omega
         have hxl:xnd.length=ctx.length+more.length:=by have:=hgood.2.1;rw [cxl] at this;rw [hml];exact this
         have hak:∀ v,WC 1 (.sl true ds.isEmpty 1 Qj) (.sl true false 1 [[v]])=some (.sl true false 1 (Qj++[[v]])):=fun v=>by
          simp only [WC]
          rw [if_pos ⟨.inl trivial,.inl trivial,.inl trivial,by simp [WV];omega⟩]
          simp
         have hau:=Zbi (c:=uds) (by omega) false xnd more.length
         have han:=Zba (c:=nds) (by omega) false xnd more.length
         have hc1:=Za6 (n2:=false) (l:=xnd) (k:=more.length) (by omega)
         have hc2:=Zj (n2:=false) (l:=xnd) (k:=more.length) (by omega)
         have hxs:=(XD _ xrows hxr).1
         have hnot:¬ (op=10∧0=1∧xty≠QJ (first ds)):=fun h=>hi1 h.2.1
         have fin:∀ (T:Nat→LV) (H:List Box),T 24=N (0+1)→T 8=ZaW (nds++[(false,xnd.drop more.length)])→T 9=ZaW (uds++[(false,xnd.take more.length)])→H=none::none::some ((zeros (ctx.map Prod.snd).length).map N)::ZgG (.sl true true 1 []) (.ha 2 1 0 (ctx.map Prod.snd).length (ctx.map Prod.snd).length) true (ds++[TT.mk xty xnd xks]).isEmpty (Qj++[[share r]])::(hr++[some k.cells])→0 < ks.length∧∃ ds Qj nds uds hr,TypJ s (ctx.map Prod.snd) op n gty ks (0+1) T H ds Qj nds uds hr:=fun T H q1 q2 q3 q4 =>
          ⟨h6,ds++[TT.mk xty xnd xks],Qj++[[share r]],nds++[(false,xnd.drop more.length)],uds++[(false,xnd.take more.length)],hr++[some k.cells],V7 ds Qj _ _ are hxis,by simp [len],
           kok.snoc (by rw [len];exact hgood) (by rw [len];exact hq) (by rw [len];exact hnot),hnext hq hnot,by simp [ulen],by simp [nlen],
           Jv us (fun j hj=>by unfold usP;rw [Zo (by omega)]) (by unfold usP;rw [Yq (by omega),hml,ulen];rfl),
           Jv nd (fun j hj=>by unfold ndP;rw [Zo (by omega)]) (by unfold ndP;rw [Yq (by omega),hml,nlen];rfl),(ZdL nf),
           by simpa using q1,q2,q3,q4⟩
         simp (disch:=omega) [e1,e3,e5,e7,e8,e9,e22,e23,e24,hb,hix,hsr2,Ql,h10b,hi1b,ZX,YR,hak,hau,han,hc1,hc2,hxs,Qg]
         first
          | exact fin _ _ (by simp) (by simp) (by simp) (by simp [hsr2])
          | (trace_state;simp (disch:=omega) [e1,e3,e5,e7,e8,e9,e22,e23,e24,hb,hix,hsr2,Ql,h10b,hi1b,ZX,YR,hak,hau,han,hc1,hc2,hxs,Qg];exact fin _ _ (by simp) (by simp) (by simp) (by simp [hsr2]))
      ·have h10b:eqB op 10=false:=by rw [Qb];exact h10
       have hxl:xnd.length=ctx.length+more.length:=by have:=hgood.2.1;rw [cxl] at this;rw [hml];exact this
       have hak:∀ v,WC 1 (.sl true ds.isEmpty 1 Qj) (.sl true false 1 [[v]])=some (.sl true false 1 (Qj++[[v]])):=fun v=>by
        simp only [WC]
        rw [if_pos ⟨.inl trivial,.inl trivial,.inl trivial,by simp [WV];omega⟩]
        simp
       have hau:=Zbi (c:=uds) (by omega) false xnd more.length
       have han:=Zba (c:=nds) (by omega) false xnd more.length
       have hc1:=Za6 (n2:=false) (l:=xnd) (k:=more.length) (by omega)
       have hc2:=Zj (n2:=false) (l:=xnd) (k:=more.length) (by omega)
       have hxs:=(XD _ xrows hxr).1
       have hnot:¬ (op=10∧0=1∧xty≠QJ (first ds)):=fun h=>h10 h.1
       have fin:∀ (T:Nat→LV) (H:List Box),T 24=N (0+1)→T 8=ZaW (nds++[(false,xnd.drop more.length)])→T 9=ZaW (uds++[(false,xnd.take more.length)])→H=none::none::some ((zeros (ctx.map Prod.snd).length).map N)::ZgG (.sl true true 1 []) (.ha 2 1 0 (ctx.map Prod.snd).length (ctx.map Prod.snd).length) true (ds++[TT.mk xty xnd xks]).isEmpty (Qj++[[share r]])::(hr++[some k.cells])→0 < ks.length∧∃ ds Qj nds uds hr,TypJ s (ctx.map Prod.snd) op n gty ks (0+1) T H ds Qj nds uds hr:=fun T H q1 q2 q3 q4 =>
        ⟨h6,ds++[TT.mk xty xnd xks],Qj++[[share r]],nds++[(false,xnd.drop more.length)],uds++[(false,xnd.take more.length)],hr++[some k.cells],V7 ds Qj _ _ are hxis,by simp [len],
         kok.snoc (by rw [len];exact hgood) (by rw [len];exact hq) (by rw [len];exact hnot),hnext hq hnot,by simp [ulen],by simp [nlen],
         Jv us (fun j hj=>by unfold usP;rw [Zo (by omega)]) (by unfold usP;rw [Yq (by omega),hml,ulen];rfl),
         Jv nd (fun j hj=>by unfold ndP;rw [Zo (by omega)]) (by unfold ndP;rw [Yq (by omega),hml,nlen];rfl),(ZdL nf),
         by simpa using q1,q2,q3,q4⟩
       simp (disch:=omega) [e1,e3,e5,e7,e8,e9,e22,e23,e24,hb,hix,hsr2,Ql,h10b,ZX,YR,hak,hau,han,hc1,hc2,hxs,Qg]
       first
        | exact fin _ _ (by simp) (by simp) (by simp) (by simp [hsr2])
        | (trace_state;simp (disch:=omega) [e1,e3,e5,e7,e8,e9,e22,e23,e24,hb,hix,hsr2,Ql,h10b,ZX,YR,hak,hau,han,hc1,hc2,hxs,Qg];exact fin _ _ (by simp) (by simp) (by simp) (by simp [hsr2]))
     ·have hq0:eqB (QT s op n 0 (hd xty)) 0=false:=by rw [Qb];exact hq
      have hres:=hfb hq
      simp (disch:=omega) [e1,e3,e5,e7,e8,e9,e22,e23,e24,hb,hix,hsr2,Ql,hq0,Qu]
      refine QK (.inr rfl) (by simp) (Zax (f:=QT s op n 0 (hd xty)) (u:=true) (nl:=true) (p:=[]) (by simp) ?_)
      rw [hres]
      exact ⟨hq,true,by simp⟩
   ·subst hi0
    simp only [Int.natCast_zero] at hb hix e24
    have h9b:eqB op 9=true:=by rw [Qc];exact h9
    have hz:ltB 0 0=false:=by rw [Qd];omega
    have had:=ZlD (GTerm.mk op n nl1 gty nl2 ks) op n nl1 gty nl2 ks rfl no.op13 0 (by omega) true [] (size:=s.size) (fun h=>absurd rfl h)
    have hmd':JG op nl1 gty 0 []=more:=by rw [hmd];simp [JG,h9]
    rw [hmd'] at had
    simp only [GTerm.lv,GTerm.cells] at had
    simp (disch:=omega) [e1,e3,e5,e7,e8,e9,e22,e23,e24,hb,hix,h9b,hz,Ql]
    refine Qa had (by simp) ?_
    simp (disch:=omega) [e1,e3,e5,e7,e8,e9,e22,e23,e24,hb,hix,h9b,hz,Ql]
    refine Qa cc (by simp) ?_
    simp (disch:=omega) [e1,e3,e5,e7,e8,e9,e22,e23,e24,hb,hix]
    refine Qp recu (by simp) ?_
    intro r hr1
    cases hT:Qr s (Qx op gty 0 (first ds)++List.map Prod.snd ctx) k with
    | bad f p =>
     rw [hT] at hr1
     obtain ⟨hf0,n4,hsr2⟩:=hr1
     have hfb:eqB f 0=false:=by rw [Qb];exact hf0
     have hpl:=VY k _ f p hT
     have hpm:1+p.length≤WV:=by unfold WV;omega
     have hres:=hbadI f p hT
     simp (disch:=omega) [e1,e3,e5,e7,e8,e9,e22,e23,e24,hb,hix,hsr2,hfb,Ql,WC,hpm,Qu]
     refine QK (.inr rfl) (by simp) (Zax (f:=f) (u:=true) (nl:=false) (p:=(0:Int)::p) (by simp) ?_)
     rw [hres]
     exact ⟨hf0,false,by simp⟩
    | ok x =>
     have hgood:=hgoodI x hT
     have hfb:=hfbI x hT
     have hsame:=hsameI x hT
     have hnext:=hnextI x hT
     rw [hT] at hr1
     obtain ⟨xty,xnd,xks⟩:=x
     have hxis:(TT.mk xty xnd xks).is (share r):=hr1
     simp only [Res.is,TT.is] at hr1
     obtain ⟨n3,n4,xrows,hsr2,hxr⟩:=hr1
     simp only [TT.ty_mk] at hfb hsame hnext
     have hgt:okL s.size xty=true:=hgood.1
     have fo:=Zc7 t (GTerm.mk op n nl1 gty nl2 ks) op n nl1 gty nl2 ks rfl 0 (by omega) xty hgt no.op13 (fun h=>no.grade (by rcases h with h | h | h<;>(subst h;simp [Yd,Qc])))
     simp only [GTerm.lv,GTerm.cells] at fo
     simp (disch:=omega) [e1,e3,e5,e7,e8,e9,e22,e23,e24,hb,hix,hsr2,Ql]
     refine Qa fo (by simp) ?_
     simp (disch:=omega) [e1,e3,e5,e7,e8,e9,e22,e23,e24,hb,hix,hsr2,Ql]
     by_cases hq:QT s op n 0 (hd xty)=0
     ·rw [hq]
      have hz0:eqB 0 0=true:=by rw [Qc]
      simp (disch:=omega) [e1,e3,e5,e7,e8,e9,e22,e23,e24,hb,hix,hsr2,Ql,hz0]
      have h10b:eqB op 10=false:=by rw [Qb];omega
      have hxl:xnd.length=ctx.length+more.length:=by have:=hgood.2.1;rw [cxl] at this;rw [hml];exact this
      have hak:∀ v,WC 1 (.sl true ds.isEmpty 1 Qj) (.sl true false 1 [[v]])=some (.sl true false 1 (Qj++[[v]])):=fun v=>by
       simp only [WC]
       rw [if_pos ⟨.inl trivial,.inl trivial,.inl trivial,by simp [WV];omega⟩]
       simp
      have hau:=Zbi (c:=uds) (by omega) false xnd more.length
      have han:=Zba (c:=nds) (by omega) false xnd more.length
      have hc1:=Za6 (n2:=false) (l:=xnd) (k:=more.length) (by omega)
      have hc2:=Zj (n2:=false) (l:=xnd) (k:=more.length) (by omega)
      have hxs:=(XD _ xrows hxr).1
      have hnot:¬ (op=10∧0=1∧xty≠QJ (first ds)):=fun h=>by omega
      have fin:∀ (T:Nat→LV) (H:List Box),T 24=N (0+1)→T 8=ZaW (nds++[(false,xnd.drop more.length)])→T 9=ZaW (uds++[(false,xnd.take more.length)])→H=none::none::some ((zeros (ctx.map Prod.snd).length).map N)::ZgG (.sl true true 1 []) (.ha 2 1 0 (ctx.map Prod.snd).length (ctx.map Prod.snd).length) true (ds++[TT.mk xty xnd xks]).isEmpty (Qj++[[share r]])::(hr++[some k.cells])→0 < ks.length∧∃ ds Qj nds uds hr,TypJ s (ctx.map Prod.snd) op n gty ks (0+1) T H ds Qj nds uds hr:=fun T H q1 q2 q3 q4 =>
       ⟨h6,ds++[TT.mk xty xnd xks],Qj++[[share r]],nds++[(false,xnd.drop more.length)],uds++[(false,xnd.take more.length)],hr++[some k.cells],V7 ds Qj _ _ are hxis,by simp [len],
        kok.snoc (by rw [len];exact hgood) (by rw [len];exact hq) (by rw [len];exact hnot),hnext hq hnot,by simp [ulen],by simp [nlen],
        Jv us (fun j hj=>by unfold usP;rw [Zo (by omega)]) (by unfold usP;rw [Yq (by omega),hml,ulen];rfl),
        Jv nd (fun j hj=>by unfold ndP;rw [Zo (by omega)]) (by unfold ndP;rw [Yq (by omega),hml,nlen];rfl),(ZdL nf),
        by simpa using q1,q2,q3,q4⟩
      simp (disch:=omega) [e1,e3,e5,e7,e8,e9,e22,e23,e24,hb,hix,hsr2,Ql,h10b,ZX,YR,hak,hau,han,hc1,hc2,hxs,Qg]
      first
       | exact fin _ _ (by simp) (by simp) (by simp) (by simp [hsr2])
       | (trace_state;simp (disch:=omega) [e1,e3,e5,e7,e8,e9,e22,e23,e24,hb,hix,hsr2,Ql,h10b,ZX,YR,hak,hau,han,hc1,hc2,hxs,Qg];exact fin _ _ (by simp) (by simp) (by simp) (by simp [hsr2]))
     ·have hq0:eqB (QT s op n 0 (hd xty)) 0=false:=by rw [Qb];exact hq
      have hres:=hfb hq
      simp (disch:=omega) [e1,e3,e5,e7,e8,e9,e22,e23,e24,hb,hix,hsr2,Ql,hq0,Qu]
      refine QK (.inr rfl) (by simp) (Zax (f:=QT s op n 0 (hd xty)) (u:=true) (nl:=true) (p:=[]) (by simp) ?_)
      rw [hres]
      exact ⟨hq,true,by simp⟩
   ·have hz:ltB 0 (i:Int)=true:=by rw [Qf];omega
    have had:=ZlD (GTerm.mk op n nl1 gty nl2 ks) op n nl1 gty nl2 ks rfl no.op13 i (by omega) false (first ds) (size:=s.size) (fun h=>⟨rfl,hfirst h⟩)
    rw [← hmd] at had
    simp only [GTerm.lv,GTerm.cells] at had
    have hsr:=(XD ds Qj are).1
    obtain ⟨q3,q4,qr,hx0,_⟩:=Zqs are false ds.isEmpty 0 (by omega)
    simp only [Int.natCast_zero] at hx0
    have hqs:∀ rws,Qv rws=rws→Qv rws=rws:=fun _ h=>h
    simp (disch:=omega) [e1,e3,e5,e7,e8,e9,e22,e23,e24,hb,hix,hz,hsr,hx0,Ql]
    refine Qa had (by simp) ?_
    simp (disch:=omega) [e1,e3,e5,e7,e8,e9,e22,e23,e24,hb,hix,hz,hsr,Ql]
    refine Qa cc (by simp) ?_
    simp (disch:=omega) [e1,e3,e5,e7,e8,e9,e22,e23,e24,hb,hix]
    refine Qp recu (by simp) ?_
    intro r hr1
    cases hT:Qr s (Qx op gty i (first ds)++List.map Prod.snd ctx) k with
    | bad f p =>
     rw [hT] at hr1
     obtain ⟨hf0,n4,hsr2⟩:=hr1
     have hfb:eqB f 0=false:=by rw [Qb];exact hf0
     have hpl:=VY k _ f p hT
     have hpm:1+p.length≤WV:=by unfold WV;omega
     have hres:=hbadI f p hT
     simp (disch:=omega) [e1,e3,e5,e7,e8,e9,e22,e23,e24,hb,hix,hsr2,hfb,Ql,WC,hpm,Qu]
     refine QK (.inr rfl) (by simp) (Zax (f:=f) (u:=true) (nl:=false) (p:=(i:Int)::p) (by simp) ?_)
     rw [hres]
     exact ⟨hf0,false,by simp⟩
    | ok x =>
     have hgood:=hgoodI x hT
     have hfb:=hfbI x hT
     have hsame:=hsameI x hT
     have hnext:=hnextI x hT
     rw [hT] at hr1
     obtain ⟨xty,xnd,xks⟩:=x
     have hxis:(TT.mk xty xnd xks).is (share r):=hr1
     simp only [Res.is,TT.is] at hr1
     obtain ⟨n3,n4,xrows,hsr2,hxr⟩:=hr1
     simp only [TT.ty_mk] at hfb hsame hnext
     have hgt:okL s.size xty=true:=hgood.1
     have fo:=Zc7 t (GTerm.mk op n nl1 gty nl2 ks) op n nl1 gty nl2 ks rfl i (by omega) xty hgt no.op13 (fun h=>no.grade (by rcases h with h | h | h<;>(subst h;simp [Yd,Qc])))
     simp only [GTerm.lv,GTerm.cells] at fo
     simp (disch:=omega) [e1,e3,e5,e7,e8,e9,e22,e23,e24,hb,hix,hsr2,Ql]
     refine Qa fo (by simp) ?_
     simp (disch:=omega) [e1,e3,e5,e7,e8,e9,e22,e23,e24,hb,hix,hsr2,Ql]
     by_cases hq:QT s op n i (hd xty)=0
     ·rw [hq]
      have hz0:eqB 0 0=true:=by rw [Qc]
      simp (disch:=omega) [e1,e3,e5,e7,e8,e9,e22,e23,e24,hb,hix,hsr2,Ql,hz0]
      by_cases h10:op=10
      ·by_cases h19:op=9
       ·exfalso;omega
       ·have h10b:eqB op 10=true:=by rw [Qc];exact h10
        by_cases hi1:i=1
        ·have hi1b:eqB (i:Int) 1=true:=by rw [Qc];omega
         have hxs0:=(XD _ xrows hxr).1
         simp (disch:=omega) [e1,e3,e5,e7,e8,e9,e22,e23,e24,hb,hix,hsr2,Ql,h10b,hi1b,hsr,hx0,hxs0,ZX,YR]
         have hf1:=hfirst (by omega)
         refine Qa (ZgP (l:=tyP ds 0) (YA hf1.1)) (by simp) ?_
         rw [ZbQ (l:=tyP ds 0) (Zbt (hf1.2.2.2.2.1 h10))]
         have hx1:QS 1 (.sl true false 1 [[L false (QJ (tyP ds 0))],[L false (Wj (tyP ds 0))]]) 0=some (.rp [L false (QJ (tyP ds 0))]):=by simp [QS]
         simp (disch:=omega) [e1,e3,e5,e7,e8,e9,e22,e23,e24,hb,hix,hsr2,Ql,hx1]
         have hlx:=QV hgt
         refine Qa (Zox false false xty (QJ (tyP ds 0)) (by omega)) (by simp) ?_
         cases he:(xty == QJ (tyP ds 0))
         ·have he2:xty≠QJ (tyP ds 0):=by simpa using he
          have hres:=hsame hq ⟨h10,hi1,he2⟩
          simp (disch:=omega) [e1,e3,e5,e7,e8,e9,e22,e23,e24,hb,hix,hsr2,Ql,Qu]
          refine QK (.inr rfl) (by simp) (Zax (f:=3) (u:=true) (nl:=true) (p:=[]) (by simp) ?_)
          rw [hres]
          exact ⟨by omega,true,by simp⟩
         ·have he':xty=QJ (first ds):=by simpa [first] using he
          have hxl:xnd.length=ctx.length+more.length:=by have:=hgood.2.1;rw [cxl] at this;rw [hml];exact this
          have hak:∀ v,WC 1 (.sl true ds.isEmpty 1 Qj) (.sl true false 1 [[v]])=some (.sl true false 1 (Qj++[[v]])):=fun v=>by
           simp only [WC]
           rw [if_pos ⟨.inl trivial,.inl trivial,.inl trivial,by simp [WV];omega⟩]
           simp
          have hau:=Zbi (c:=uds) (by omega) false xnd more.length
          have han:=Zba (c:=nds) (by omega) false xnd more.length
          have hc1:=Za6 (n2:=false) (l:=xnd) (k:=more.length) (by omega)
          have hc2:=Zj (n2:=false) (l:=xnd) (k:=more.length) (by omega)
          have hxs:=(XD _ xrows hxr).1
          have hnot:¬ (op=10∧i=1∧xty≠QJ (first ds)):=fun h=>h.2.2 he'
          have fin:∀ (T:Nat→LV) (H:List Box),T 24=N ((i:Int)+1)→T 8=ZaW (nds++[(false,xnd.drop more.length)])→T 9=ZaW (uds++[(false,xnd.take more.length)])→H=none::none::some ((zeros (ctx.map Prod.snd).length).map N)::ZgG (.sl true true 1 []) (.ha 2 1 0 (ctx.map Prod.snd).length (ctx.map Prod.snd).length) true (ds++[TT.mk xty xnd xks]).isEmpty (Qj++[[share r]])::(hr++[some k.cells])→i < ks.length∧∃ ds Qj nds uds hr,TypJ s (ctx.map Prod.snd) op n gty ks (i+1) T H ds Qj nds uds hr:=fun T H q1 q2 q3 q4 =>
           ⟨h6,ds++[TT.mk xty xnd xks],Qj++[[share r]],nds++[(false,xnd.drop more.length)],uds++[(false,xnd.take more.length)],hr++[some k.cells],V7 ds Qj _ _ are hxis,by simp [len],
            kok.snoc (by rw [len];exact hgood) (by rw [len];exact hq) (by rw [len];exact hnot),hnext hq hnot,by simp [ulen],by simp [nlen],
            Jv us (fun j hj=>by unfold usP;rw [Zo (by omega)]) (by unfold usP;rw [Yq (by omega),hml,ulen];rfl),
            Jv nd (fun j hj=>by unfold ndP;rw [Zo (by omega)]) (by unfold ndP;rw [Yq (by omega),hml,nlen];rfl),(ZdL nf),
            by simpa using q1,q2,q3,q4⟩
          simp (disch:=omega) [e1,e3,e5,e7,e8,e9,e22,e23,e24,hb,hix,hsr2,Ql,h10b,hi1b,ZX,YR,hak,hau,han,hc1,hc2,hxs,Qg]
          first
           | exact fin _ _ (by simp) (by simp) (by simp) (by simp [hsr2])
           | (trace_state;simp (disch:=omega) [e1,e3,e5,e7,e8,e9,e22,e23,e24,hb,hix,hsr2,Ql,h10b,hi1b,ZX,YR,hak,hau,han,hc1,hc2,hxs,Qg];exact fin _ _ (by simp) (by simp) (by simp) (by simp [hsr2]))
        ·have hi1b:eqB (i:Int) 1=false:=by rw [Qb];omega
         have hxl:xnd.length=ctx.length+more.length:=by have:=hgood.2.1;rw [cxl] at this;rw [hml];exact this
         have hak:∀ v,WC 1 (.sl true ds.isEmpty 1 Qj) (.sl true false 1 [[v]])=some (.sl true false 1 (Qj++[[v]])):=fun v=>by
          simp only [WC]
          rw [if_pos ⟨.inl trivial,.inl trivial,.inl trivial,by simp [WV];omega⟩]
          simp
         have hau:=Zbi (c:=uds) (by omega) false xnd more.length
         have han:=Zba (c:=nds) (by omega) false xnd more.length
         have hc1:=Za6 (n2:=false) (l:=xnd) (k:=more.length) (by omega)
         have hc2:=Zj (n2:=false) (l:=xnd) (k:=more.length) (by omega)
         have hxs:=(XD _ xrows hxr).1
         have hnot:¬ (op=10∧i=1∧xty≠QJ (first ds)):=fun h=>hi1 h.2.1
         have fin:∀ (T:Nat→LV) (H:List Box),T 24=N ((i:Int)+1)→T 8=ZaW (nds++[(false,xnd.drop more.length)])→T 9=ZaW (uds++[(false,xnd.take more.length)])→H=none::none::some ((zeros (ctx.map Prod.snd).length).map N)::ZgG (.sl true true 1 []) (.ha 2 1 0 (ctx.map Prod.snd).length (ctx.map Prod.snd).length) true (ds++[TT.mk xty xnd xks]).isEmpty (Qj++[[share r]])::(hr++[some k.cells])→i < ks.length∧∃ ds Qj nds uds hr,TypJ s (ctx.map Prod.snd) op n gty ks (i+1) T H ds Qj nds uds hr:=fun T H q1 q2 q3 q4 =>
          ⟨h6,ds++[TT.mk xty xnd xks],Qj++[[share r]],nds++[(false,xnd.drop more.length)],uds++[(false,xnd.take more.length)],hr++[some k.cells],V7 ds Qj _ _ are hxis,by simp [len],
           kok.snoc (by rw [len];exact hgood) (by rw [len];exact hq) (by rw [len];exact hnot),hnext hq hnot,by simp [ulen],by simp [nlen],
           Jv us (fun j hj=>by unfold usP;rw [Zo (by omega)]) (by unfold usP;rw [Yq (by omega),hml,ulen];rfl),
           Jv nd (fun j hj=>by unfold ndP;rw [Zo (by omega)]) (by unfold ndP;rw [Yq (by omega),hml,nlen];rfl),(ZdL nf),
           by simpa using q1,q2,q3,q4⟩
         simp (disch:=omega) [e1,e3,e5,e7,e8,e9,e22,e23,e24,hb,hix,hsr2,Ql,h10b,hi1b,ZX,YR,hak,hau,han,hc1,hc2,hxs,Qg]
         first
          | exact fin _ _ (by simp) (by simp) (by simp) (by simp [hsr2])
          | (trace_state;simp (disch:=omega) [e1,e3,e5,e7,e8,e9,e22,e23,e24,hb,hix,hsr2,Ql,h10b,hi1b,ZX,YR,hak,hau,han,hc1,hc2,hxs,Qg];exact fin _ _ (by simp) (by simp) (by simp) (by simp [hsr2]))
      ·have h10b:eqB op 10=false:=by rw [Qb];exact h10
       have hxl:xnd.length=ctx.length+more.length:=by have:=hgood.2.1;rw [cxl] at this;rw [hml];exact this
       have hak:∀ v,WC 1 (.sl true ds.isEmpty 1 Qj) (.sl true false 1 [[v]])=some (.sl true false 1 (Qj++[[v]])):=fun v=>by
        simp only [WC]
        rw [if_pos ⟨.inl trivial,.inl trivial,.inl trivial,by simp [WV];omega⟩]
        simp
       have hau:=Zbi (c:=uds) (by omega) false xnd more.length
       have han:=Zba (c:=nds) (by omega) false xnd more.length
       have hc1:=Za6 (n2:=false) (l:=xnd) (k:=more.length) (by omega)
       have hc2:=Zj (n2:=false) (l:=xnd) (k:=more.length) (by omega)
       have hxs:=(XD _ xrows hxr).1
       have hnot:¬ (op=10∧i=1∧xty≠QJ (first ds)):=fun h=>h10 h.1
       have fin:∀ (T:Nat→LV) (H:List Box),T 24=N ((i:Int)+1)→T 8=ZaW (nds++[(false,xnd.drop more.length)])→T 9=ZaW (uds++[(false,xnd.take more.length)])→H=none::none::some ((zeros (ctx.map Prod.snd).length).map N)::ZgG (.sl true true 1 []) (.ha 2 1 0 (ctx.map Prod.snd).length (ctx.map Prod.snd).length) true (ds++[TT.mk xty xnd xks]).isEmpty (Qj++[[share r]])::(hr++[some k.cells])→i < ks.length∧∃ ds Qj nds uds hr,TypJ s (ctx.map Prod.snd) op n gty ks (i+1) T H ds Qj nds uds hr:=fun T H q1 q2 q3 q4 =>
        ⟨h6,ds++[TT.mk xty xnd xks],Qj++[[share r]],nds++[(false,xnd.drop more.length)],uds++[(false,xnd.take more.length)],hr++[some k.cells],V7 ds Qj _ _ are hxis,by simp [len],
         kok.snoc (by rw [len];exact hgood) (by rw [len];exact hq) (by rw [len];exact hnot),hnext hq hnot,by simp [ulen],by simp [nlen],
         Jv us (fun j hj=>by unfold usP;rw [Zo (by omega)]) (by unfold usP;rw [Yq (by omega),hml,ulen];rfl),
         Jv nd (fun j hj=>by unfold ndP;rw [Zo (by omega)]) (by unfold ndP;rw [Yq (by omega),hml,nlen];rfl),(ZdL nf),
         by simpa using q1,q2,q3,q4⟩
       simp (disch:=omega) [e1,e3,e5,e7,e8,e9,e22,e23,e24,hb,hix,hsr2,Ql,h10b,ZX,YR,hak,hau,han,hc1,hc2,hxs,Qg]
       first
        | exact fin _ _ (by simp) (by simp) (by simp) (by simp [hsr2])
        | (trace_state;simp (disch:=omega) [e1,e3,e5,e7,e8,e9,e22,e23,e24,hb,hix,hsr2,Ql,h10b,ZX,YR,hak,hau,han,hc1,hc2,hxs,Qg];exact fin _ _ (by simp) (by simp) (by simp) (by simp [hsr2]))
     ·have hq0:eqB (QT s op n i (hd xty)) 0=false:=by rw [Qb];exact hq
      have hres:=hfb hq
      simp (disch:=omega) [e1,e3,e5,e7,e8,e9,e22,e23,e24,hb,hix,hsr2,Ql,hq0,Qu]
      refine QK (.inr rfl) (by simp) (Zax (f:=QT s op n i (hd xty)) (u:=true) (nl:=true) (p:=[]) (by simp) ?_)
      rw [hres]
      exact ⟨hq,true,by simp⟩
  ·rintro t1 hh hf ⟨ds,Qj,nds,uds,hr,J⟩
   (have e1:=hf 1 (by kernel_rfl);have e3:=hf 3 (by kernel_rfl);have e5:=hf 5 (by kernel_rfl);have e7:=hf 7 (by kernel_rfl);clear hf;simp [] at e1 e3 e5 e7)
   obtain ⟨are,len,kok,tell,ulen,nlen,us,nd,nf,e24,e8,e9,rfl⟩:=J
   rw [List.drop_length,Wf] at tell
   simp (disch:=omega) [e1,e3,e5,e7,e8,e9]
   have no':NodeOk s ctx.length op n gty ds.length:=by rw [len];exact no
   have kok':KidsOk s ctx.length op n ds:=by rw [← cxl];exact kok
   have hnd:∀ j,j < ds.length→QS 1 (LC nds.isEmpty nds) (j:Int)=some (.rp [L false (ndP op ds j)]):=fun j hj=>by
    have h1:=nf _ (List.getElem_mem (show j < nds.length by omega))
    rw [Zdf nds nds.isEmpty j (by omega),← nd j (by omega)]
    show some (LV.rp [L (nds[j]'(by omega)).1 (nds[j]'(by omega)).2])=_
    rw [h1]
   have hud:∀ j,j < ds.length→∃ f,QS 1 (LC uds.isEmpty uds) (j:Int)=some (.rp [L f (usP op ds j)]):=fun j hj =>
    ⟨(uds[j]'(by omega)).1,by rw [Zdf uds uds.isEmpty j (by omega),← us j (by omega)]⟩
   have fin:=Zqi hsy nlc ctx (by omega) hc hcf op n nl1 gty nl2 ks ds no' kok' Qj are true ds.isEmpty nds.isEmpty uds.isEmpty nds uds hnd hud hr ctx.length rfl
   simp only [GTerm.lv,GTerm.cells] at fin
   refine Qk (by simpa only [cxl] using fin) ?_
   rintro r h' ⟨rfl,T,ndv,c2,hr',rfl,hfin⟩
   have hT:Qr s (ctx.map Prod.snd) (GTerm.mk op n nl1 gty nl2 ks)=if (QZ s (ctx.map Prod.snd) op n gty ds).1=0 then .ok (.mk (QZ s (ctx.map Prod.snd) op n gty ds).2.1 (QZ s (ctx.map Prod.snd) op n gty ds).2.2 ds) else .bad (QZ s (ctx.map Prod.snd) op n gty ds).1 []:=by
    rw [Qr,tell]
   generalize QZ s (ctx.map Prod.snd) op n gty ds=q at hfin hT
   obtain ⟨F,Q1,Q2⟩:=q
   simp only at hfin hT
   have hsr:=XD ds Qj are
   by_cases hF:F=0
   ·subst hF
    obtain ⟨⟨u,rfl⟩,hn⟩:=hfin rfl
    rw [if_pos rfl] at hT
    have hz0:eqB 0 0=true:=by rw [Qc]
    simp (disch:=omega) [e1,e3,e5,e7,hz0]
    refine QK (.inr rfl) (by simp) ?_
    simp
    refine fz_ok hsr.2 hn fun u2=>?_
    rw [hT]
    exact ⟨ds.isEmpty,true,Qj,by simp [hsr.1],are⟩
   ·have hF0:eqB F 0=false:=by rw [Qb];exact hF
    rw [if_neg hF] at hT
    simp (disch:=omega) [e1,e3,e5,e7,hF0,Qu]
    refine QK (.inr rfl) (by simp) (Zax (f:=F) (u:=true) (nl:=true) (p:=[]) (by simp) ?_)
    rw [hT]
    exact ⟨hF,true,by simp⟩
theorem Qe.low {P:Program} {f:FuncId} {args:List LV} {R:LV→Prop} (c:Qe P f args R):Qe P f args (fun r=>R r∧Low 0 r) :=
 QD.mono c fun r h' h=>⟨h,h.2⟩
def GTerm.termB (size n:Int) (t:GTerm):Bool:=Wh n 0 8 && (decide (t.size≤400) && Zk n size true t)
def inB (s:GSys) (ctx:WZ) (t:GTerm):Bool:=s.sys && (ZgJ s.size ctx && t.termB s.size ctx.length)
theorem has_fn {s:GSys} (t:s.Tab) (n:Int) (h:I64 n):FnB Tryz.prog (.fnm Wx [s.lv]) (N n) (Wh n 0 (s.size - 1)):=by
 have h2:=t.lo;have h16:=t.hi
 exact ⟨Wx,[s.lv,N n],by simp [ZD],by simp,ZpW s ⟨by omega,by omega⟩ (by omega) n⟩
theorem Zj5 {s:GSys} (t:s.Tab) (nl:Bool) (ty:List Int) (h:Lok ty):FnB Tryz.prog (.fn Yw [.rp s.cells]) (L nl ty) (wty ty && ZY s.size true ty):=by
 refine ⟨Yw,[L nl ty,.rp s.cells],by simp [ZD],by simp,?_⟩
 refine Qe.of_codeOf Zfo Qz (by simp) ⟨_,rfl,by simp⟩ ?_
 simp (disch:=omega) [ZaA]
 refine Qa (Zdz t nl ty h) (by simp) ?_
 simp (disch:=omega)
theorem ZnS {s:GSys} (t:s.Tab) (g:GTerm) (hw:g.wf) (n:Int) (hn:I64 n):Qe Tryz.prog Vl [s.lv,g.lv,N n] (·=B (g.termB s.size n)):=by
 refine Qe.of_codeOf Zhz Qz (by simp) ⟨_,rfl,by simp⟩ ?_
 by_cases hr:Wh n 0 8=true
 ·rw [Wv] at hr
  have hc:=check_ok (.fnm Wx [s.lv]) (.fn Yw [.rp s.cells]) (fun m=>Wh m 0 (s.size - 1)) (fun ty=>wty ty && ZY s.size true ty) (by simp) (by simp) (by simp) (by simp) (fun m hm=>has_fn t m hm) (fun nl ty h=>Zj5 t nl ty h) g.size g (by omega) hw n 0 (by omega) (by omega) (by omega) (by omega)
  rw [Zor (size:=s.size) (closed:=true) (fun m=>by rw [Bool.eq_iff_iff];simp [Wh,Qf,Qd,Qi,Qh,Qc,Qb,Bool.not_true,Bool.not_false];omega) (fun ty=>rfl)] at hc
  have h2:leB (Zgo (Zk n s.size true g) 0 g.size) 400=g.termB s.size n:=by
   rw [Bool.eq_iff_iff]
   simp only [Qf,Qd,Qi,Qh,Qc,Qb,Bool.not_true,Bool.not_false,Zgo,GTerm.termB,Bool.and_eq_true,decide_eq_true_eq,Wv]
   split<;>grind
  have hr':Wh n 0 8=true:=by rw [Wv];exact hr
  simp (disch:=omega) [Vp,Qu,Qo]
  refine Qa (JR n 0 8) (by simp) ?_
  simp (disch:=omega) [hr']
  refine Qa hc (by simp) ?_
  simp (disch:=omega) [h2]
 ·have hr':Wh n 0 8=false:=by simpa using hr
  simp (disch:=omega) [Vp,Qu,Qo]
  refine Qa (JR n 0 8) (by simp) ?_
  simp (disch:=omega) [hr',GTerm.termB]
theorem ZlE {ctx:WZ} (h:ctx.wf):I64 (ctx.length:Int):=by have:=h.1;unfold I64;omega
structure Arg (s:GSys) (ctx:WZ) (g:GTerm):Prop where
 sw:s.wf
 cw:ctx.wf
 gw:g.wf
 cf:∀ c∈ctx,flOk c.1 c.2
 gf:g.fl
theorem Arg.flags {s:GSys} {ctx:WZ} {g:GTerm} (a:Arg s ctx g) (h:ZgJ s.size ctx=true):(∀ c∈ctx,okL s.size c.2=true)∧(∀ c∈ctx,c.1=false)∧ctx.length≤8:=by
 unfold ZgJ at h
 rw [Bool.and_eq_true,Qi,YV] at h
 have hk:∀ c∈ctx,okL s.size c.2=true:=by
  intro c hc
  obtain ⟨i,hi,rfl⟩:=List.getElem_of_mem hc
  have:=h.2 i hi
  rw [Zm3 hi] at this
  exact this
 refine ⟨hk,fun c hc=>?_,by omega⟩
 cases hn:c.1 with
 | false=>rfl
 | true=>have:=a.cf c hc hn;have:=QV (hk c hc);simp_all
theorem Zpf {s:GSys} {ctx:WZ} {g:GTerm} (a:Arg s ctx g) (nlc:Bool):Qe Tryz.prog V2 [s.lv,LC nlc ctx,g.lv] (fun r=>if inB s ctx g=true then (Qr s (ctx.map Prod.snd) g).is (share r) else r=.sc (.pointer none)):=by
 refine Qe.of_codeOf ZiR Qz (by simp) ?_ ?_
 ·by_cases h:inB s ctx g=true
  ·obtain ⟨ys,h1,h2⟩:=res_ex (Qr s (ctx.map Prod.snd) g) fun f p h=>Zp _ _ f p h
   exact ⟨.rp ys,by rw [if_pos h];exact h1,by simpa using h2⟩
  ·exact ⟨.sc (.pointer none),by rw [if_neg h],by simp⟩
 simp (disch:=omega) [Zc0,Qu,Qo]
 refine Qa (ZhD s a.sw) (by simp) ?_
 cases hs:s.sys
 ·simp (disch:=omega) [inB,hs]
 ·have t:=GSys.sys_of hs
  simp (disch:=omega)
  refine Qa (Zmx s t nlc ctx a.cw) (by simp) ?_
  cases hc:ZgJ s.size ctx
  ·simp (disch:=omega) [inB,hs,hc]
  ·simp (disch:=omega)
   refine Qa (ZnS t g a.gw ctx.length (ZlE a.cw)) (by simp) ?_
   cases ht:g.termB s.size ctx.length
   ·simp (disch:=omega) [inB,hs,hc,ht]
   ·have hin:inB s ctx g=true:=by simp [inB,hs,hc,ht]
    obtain ⟨f1,f2,f3⟩:=a.flags hc
    have ht':=ht
    unfold GTerm.termB at ht'
    simp only [Bool.and_eq_true,decide_eq_true_eq] at ht'
    have ty:=typ_ok hs g.size g nlc ctx (Nat.le_refl _) a.gw a.gf f1 f2 (by omega) ht'.2.2
    simp (disch:=omega) [take_cells]
    refine Qp (Qe.low ty) (by simp) ?_
    rintro r ⟨hr,lo⟩
    simp (disch:=omega) [hin,hr,lo]
def ZQ (s:GSys) (ctx:WZ) (g:GTerm):Option TT:=if inB s ctx g=true then (match Qr s (ctx.map Prod.snd) g with
 | .ok x=>some x
 | .bad _ _=>none) else none
def told3 (x:Option TT) (r:LV):Prop:=match x with
 | some x=>r=.tup [OU true false x.ty,OU true false x.needs,B true]
 | none=>r=.tup [.sl false true 1 [],.sl false true 1 [],B false]
theorem Zam {s:GSys} {ctx:WZ} {g:GTerm} (a:Arg s ctx g) {x:TT} (h:ZQ s ctx g=some x):x.good s ctx.length∧s.sys=true∧ZgJ s.size ctx=true∧g.termB s.size ctx.length=true∧ctx.length≤8∧Qr s (ctx.map Prod.snd) g=.ok x:=by
 unfold ZQ at h
 split at h
 ·rename_i hin
  unfold inB at hin
  simp only [Bool.and_eq_true] at hin
  obtain ⟨h1,h2,h3⟩:=hin
  obtain ⟨f1,f2,f3⟩:=a.flags h2
  split at h
  ·rename_i y hy
   simp only [Option.some.injEq] at h
   subst h
   have h4:=h3
   unfold GTerm.termB at h4
   simp only [Bool.and_eq_true,decide_eq_true_eq] at h4
   have:=V6 (GSys.sys_of h1) g (ctx.map Prod.snd) y (fun l hl=>by
    obtain ⟨c,hc,rfl⟩:=List.mem_map.1 hl
    exact f1 c hc) (by rw [List.length_map];exact h4.2.2) hy
   rw [List.length_map] at this
   exact ⟨this,h1,h2,h3,f3,hy⟩
  ·simp at h
 ·simp at h
theorem Zqx (ys:List LV):Xw .ptr .eql (.rp ys) (.sc (.pointer none))=some (B false):=rfl
theorem bin_pnil:Xw .ptr .eql (.sc (.pointer none)) (.sc (.pointer none))=some (B true):=rfl
theorem ZrC {s:GSys} {ctx:WZ} {g:GTerm} (a:Arg s ctx g) (nlc:Bool):Qe Tryz.prog Za1 [s.lv,LC nlc ctx,g.lv] (told3 (ZQ s ctx g)):=by
 refine Qe.of_codeOf ZjZ Qz (by simp) ?_ ?_
 ·cases h:ZQ s ctx g with
  | some x=>exact ⟨_,rfl,by simp⟩
  | none=>exact ⟨_,rfl,by simp⟩
 simp (disch:=omega) [Zex,Qu,Qo]
 refine Qp (Qe.low (Zpf a nlc)) (by simp) ?_
 rintro r ⟨hr,lo⟩
 by_cases hin:inB s ctx g=true
 ·rw [if_pos hin] at hr
  cases hT:Qr s (ctx.map Prod.snd) g with
  | ok x =>
   have hx:ZQ s ctx g=some x:=by simp [ZQ,hin,hT]
   obtain ⟨hg,_,_,_,hc8,_⟩:=Zam a hx
   rw [hT] at hr
   obtain ⟨ty,nd,ks⟩:=x
   simp only [Res.is,TT.is] at hr
   obtain ⟨n3,n4,Qj,hs2,hrr⟩:=hr
   have hty:=QV hg.1
   have hnd:=hg.2.1
   simp only [TT.ty_mk,TT.needs_mk] at hty hnd
   rw [hx]
   have hz0:eqB 0 0=true:=by rw [Qc]
   have hrs:=(XD _ Qj hrr).1
   simp (disch:=omega) [hs2,hz0,hrs,Zqx]
   refine Qa (Ze8 false ty (by omega)) (by simp) ?_
   simp (disch:=omega) [hs2,hz0,hrs,cl]
   refine Qa (Ze8 false nd (by omega)) (by simp) ?_
   simp (disch:=omega) [hs2,hz0,hrs,cl,told3]
  | bad f p =>
   have hx:ZQ s ctx g=none:=by simp [ZQ,hin,hT]
   rw [hT] at hr
   obtain ⟨hf,n4,hs2⟩:=hr
   have hf0:eqB f 0=false:=by rw [Qb];exact hf
   rw [hx]
   simp (disch:=omega) [hs2,hf0,told3,Zqx]
 ·rw [if_neg hin] at hr
  subst hr
  have hx:ZQ s ctx g=none:=by simp [ZQ,hin]
  rw [hx]
  simp (disch:=omega) [told3,bin_pnil]
def mmLV (mx:Bool) (x y:LV):Option LV:=match x,y with
 | .sc (.int k a),.sc (.int _ b)=>some (.sc (.int k (if (if mx then b > a else b < a) then b else a)))
 | _,_=>none
@[simp] theorem step_mm {s:St} {d:Nat} {mx:Bool} {x y:X}:TL.step (.minmax d mx x y) s=(mmLV mx (TL.get s.t x) (TL.get s.t y)).map (s.put d):=by
 simp only [TL.step,mmLV]
 split<;>simp_all
@[simp] theorem mm_min {k k':IntKind} {a b:Int}:mmLV false (.sc (.int k a)) (.sc (.int k' b))=some (.sc (.int k (if b < a then b else a))):=by simp [mmLV]
@[simp] theorem mm_max {k k':IntKind} {a b:Int}:mmLV true (.sc (.int k a)) (.sc (.int k' b))=some (.sc (.int k (if a < b then b else a))):=by simp [mmLV]
def tabL {α:Type} (f:Nat→Nat→α) (size a b:Nat):List α:=((List.range a).flatMap fun x=>(List.range size).map fun y=>f x y)++(List.range b).map fun y=>f a y
abbrev OI (l:List Int):LV:=.sl true l.isEmpty 1 (l.map fun n=>[N n])
abbrev OBl (l:List Bool):LV:=.sl true l.isEmpty 1 (l.map fun b=>[B b])
def nPl (n a b:Nat):Int:=min ((a:Int)+b) (n+1)
def nTm (n a b:Nat):Int:=min ((a:Int) * b) (n+1)
def nBl (n:Nat) (bound:Bool) (a b:Nat):Bool:=eqB a b || (eqB b (n+1) || (bound && leB a b))
set_option linter.unusedSectionVars false
def andI (a b:Int):Int:=IntKind.i64.wrap (BitVec.ofInt 64 a &&& BitVec.ofInt 64 b).toNat
def xorI (a b:Int):Int:=IntKind.i64.wrap (BitVec.ofInt 64 a ^^^ BitVec.ofInt 64 b).toNat
def shrI (a b:Int):Int:=a.fdiv (2 ^ (min b.toNat 64))
@[simp] theorem bin_and {a b:Int}:Xw .num .and (N a) (N b)=some (N (andI a b)):=rfl
@[simp] theorem bin_xor {a b:Int}:Xw .num .xor (N a) (N b)=some (N (xorI a b)):=rfl
@[simp] theorem bin_shr {a b:Int}:Xw .num .shr (N a) (.sc (.int .u64 b))=if b < 0 then none else some (N (shrI a b)):=by simp [Xw,shrI,IntKind.bits]
theorem ZfZ {a b:Int}:Xw .num .rem (N a) (N b)=if b=0 then none else some (N (a.tmod b)):=by
 simp only [Xw,Kg]
 by_cases h:b=0<;>simp [h]
def lX (n a:Nat):Int:=((n:Int)+1 - a).tmod (n+1)
def lPl (n a b:Nat):Int:=((n:Int)+1 - max (lX n a) (lX n b)).tmod (n+1)
def lTm (n a b:Nat):Int:=((n:Int)+1 - min (lX n a) (lX n b)).tmod (n+1)
def lBl (n a b:Nat):Bool:=leB (lX n a) (lX n b)
abbrev ZgQ (size:Nat) (p t:Nat→Nat→Int) (b:Nat→Nat→Bool):LV:=.agg [N size,OI (tabL p size size 0),OI (tabL t size size 0),OBl (tabL b size size 0)]
def Zgc (n g:Int):Int:=if g=0 then 0 else if g=1 then 1 else if g≤n+1 then (g - 1).tdiv n else g.tdiv n
def ZdK (n g:Int):Int:=if g < 2 then g else if g≤n+1 then (g - 1).tmod n else g.tmod n
def pairI (n x y:Int):Int:=if x * n+y=0 then 0 else if x * n+y=n+1 then 1 else if x * n+y < n+1 then x * n+y+1 else x * n+y
def tabG (size:Nat) (p t:Nat→Nat→Int) (b:Nat→Nat→Bool):GSys :=
 ⟨size,(tabL p size size 0).isEmpty,tabL p size size 0,(tabL t size size 0).isEmpty,tabL t size size 0,(tabL b size size 0).isEmpty,tabL b size size 0⟩
theorem ZqU (size:Nat) (p t:Nat→Nat→Int) (b:Nat→Nat→Bool):share (ZgQ size p t b)=(tabG size p t b).lv:=by simp [ZgQ,tabG]
def pPl (a b:GSys) (n:Nat) (g h:Nat):Int:=pairI n (a.pl (Zgc n g) (Zgc n h)) (b.pl (ZdK n g) (ZdK n h))
def pTm (a b:GSys) (n:Nat) (g h:Nat):Int:=pairI n (a.tm (Zgc n g) (Zgc n h)) (b.tm (ZdK n g) (ZdK n h))
def pBl (a b:GSys) (n:Nat) (g h:Nat):Bool:=a.le (Zgc n g) (Zgc n h) && b.le (ZdK n g) (ZdK n h)
set_option maxRecDepth 100000
inductive DS where
 | count (n:Nat) | bound (n:Nat) | level (n:Nat) | prod (n:Nat)
def DS.ok:DS→Bool
 | .count n=>decide (1≤n) && decide (n≤3)
 | .bound n=>decide (1≤n) && decide (n≤3)
 | .level n=>decide (1≤n) && decide (n≤3)
 | .prod n=>decide (1≤n) && decide (n≤2)
def cntG (n:Nat) (bound:Bool):GSys:=tabG (n+2) (nPl n) (nTm n) (nBl n bound)
def levG (n:Nat):GSys:=tabG (n+1) (lPl n) (lTm n) (lBl n)
def prodG (n:Nat):GSys:=tabG (3 * (n+1)) (pPl (cntG 1 false) (levG n) (n+1)) (pTm (cntG 1 false) (levG n) (n+1)) (pBl (cntG 1 false) (levG n) (n+1))
def DS.sys:DS→GSys
 | .count n=>cntG n false
 | .bound n=>cntG n true
 | .level n=>levG n
 | .prod n=>prodG n
def DS.lv:DS→LV
 | .count n=>ZgQ (n+2) (nPl n) (nTm n) (nBl n false)
 | .bound n=>ZgQ (n+2) (nPl n) (nTm n) (nBl n true)
 | .level n=>ZgQ (n+1) (lPl n) (lTm n) (lBl n)
 | .prod n=>ZgQ (3 * (n+1)) (pPl (cntG 1 false) (levG n) (n+1)) (pTm (cntG 1 false) (levG n) (n+1)) (pBl (cntG 1 false) (levG n) (n+1))
theorem DS.share (d:DS):share d.lv=d.sys.lv:=by
 cases d<;>simp only [DS.lv,DS.sys,cntG,levG,prodG,ZqU]
theorem Zje {l r:List Int} {u nl:Bool} (h:l.length+r.length≤1099511627776):WC 1 (OU true false l) (OU u nl r)=some (OU true false (l++r)):=by
 simp only [WC]
 rw [if_pos ⟨.inl trivial,.inl trivial,.inl trivial,by simp only [List.length_map];exact h⟩]
 simp only [Bool.true_or,Bool.false_and]
 rw [OU,List.map_append]
def VB (c:Int) (ctx:WZ) (k:Nat):List Int:=c::((ctx.take k).map (·.2)).flatten
theorem Zpz (c:Int) (ctx:WZ) (k:Nat) (h:k < ctx.length):VB c ctx (k+1)=VB c ctx k++ctx[k].2:=by
 rw [VB,VB,List.take_succ_eq_append_getElem h,List.map_append,List.flatten_append,List.cons_append]
 simp only [List.map_cons,List.map_nil,List.flatten_cons,List.flatten_nil,List.append_nil]
theorem Zq4 (c:Int) (ctx:WZ) (k:Nat) (h:k≤ctx.length):(VB c ctx k).length≤1+cws ctx:=by
 have key:∀ (ctx:WZ),((ctx.map (·.2)).flatten).length=cws ctx:=by
  intro ctx
  induction ctx with
  | nil=>simp [cws]
  | cons a l ih=>simp [cws,ih]
 have h2:∀ (ctx:WZ) (k:Nat),cws (ctx.take k)≤cws ctx:=by
  intro ctx
  induction ctx with
  | nil=>intro k;simp
  | cons a l ih=>intro k;cases k with
   | zero=>simp [cws]
   | succ k=>simp [cws];exact ih k
 simp only [VB,List.length_cons,key]
 have:=h2 ctx k
 omega
theorem Zlm (c:Int) (nl:Bool) (ctx:WZ) (hw:ctx.length≤1000000) (hl:cws ctx≤1000000000):Qe Tryz.prog XI [N c,LC nl ctx] (·=OU true false (c::(ctx.map (·.2)).flatten)):=by
 obtain ⟨z,hz⟩:∃ z,c::(ctx.map (·.2)).flatten=z:=⟨_,rfl⟩
 rw [hz]
 refine Qe.of_codeOf Zk6 Qz (by simp) ⟨_,rfl,by simp⟩ ?_
 simp (disch:=omega) [Zeu]
 refine Xf ctx.length 0 (fun i t _=>t 6=N i∧t 5=OU true false (VB c ctx i)) (fun t _=>t 5=OU true false z) (by simp [VB]) (by omega) ?_ ?_
 ·rintro i t1 hh hf hi ⟨e6,e5⟩
  (have e1:=hf 1 (by kernel_rfl);clear hf;simp [] at e1)
  simp (disch:=omega) [e1,e5,e6]
  (with_reducible first | refine Qm (fun h1=>?_) (fun h1=>?_) | refine Qn (fun h1=>?_) (fun h1=>?_))
  ·simp only [Qf,Qd,Qi,Qh,Qc,Qb,Bool.not_true,Bool.not_false] at h1
   simp (disch:=omega) [e1,e5,e6,Zdf]
   have hm:=Znk (List.getElem_mem (show i < ctx.length by omega))
   have hg:=Zq4 c ctx i (by omega)
   rw [Zje (by omega),← Zpz c ctx i (by omega)]
   simp (disch:=omega) [e1,e5,e6,Qg]
   omega
  ·simp only [Qf,Qd,Qi,Qh,Qc,Qb,Bool.not_true,Bool.not_false] at h1
   simp (disch:=omega) [e5]
   rw [show i=ctx.length by omega,← hz];simp [VB]
 ·rintro t1 hh hf e5
  simp (disch:=omega) [e5]
theorem Zpp (c:Int) (nl n1:Bool) (a:List Int) (hl:a.length≤100000):Qe Tryz.prog XI [N c,.sl false nl 1 [[L n1 a]]] (·=OU true false (c::a)):=by
 have:=Zlm c nl [(n1,a)] (by simp) (by simp [cws];omega)
 simp only [List.map_cons,List.map_nil,List.flatten_cons,List.flatten_nil,List.append_nil] at this
 exact this
theorem ZbM (c:Int) (nl n1 n2:Bool) (a b:List Int) (ha:a.length≤100000) (hb:b.length≤100000):Qe Tryz.prog XI [N c,.sl false nl 1 [[L n1 a],[L n2 b]]] (·=OU true false (c::(a++b))):=by
 have:=Zlm c nl [(n1,a),(n2,b)] (by simp) (by simp [cws];omega)
 simp only [List.map_cons,List.map_nil,List.flatten_cons,List.flatten_nil,List.append_nil] at this
 exact this
mutual
def RT.gr (size:Int) (data:Bool):RT→Prop
 | .nd c ks=>okC size true c=true∧(data=true→QW c=false)∧grs size data ks
def grs (size:Int) (data:Bool):List RT→Prop
 | []=>True
 | t::ts=>RT.gr size data t∧grs size data ts
end
theorem JN (nl:Bool) (l:List Int) (hl:l.length≤1099511627776):Qe Tryz.prog X6 [L nl l] (·=OU true false l):=by
 refine Qe.of_codeOf ZjV Qz (by simp) ⟨_,rfl,by simp⟩ ?_
 have hm:l.length≤WV:=hl
 simp (disch:=omega) [Zeo,Ql,WC,hm]
theorem Zgy (n1 n2:Bool) (a b:List Int) (ha:a.length≤1099511627776):Qe Tryz.prog Jh [L n1 a,L n2 b] (·=B (a == b)):=by
 generalize hq:(a == b)=q
 refine Qe.of_codeOf Zk8 Qz (by simp) ⟨_,rfl,by simp⟩ ?_
 simp (disch:=omega) [Zea]
 (with_reducible first | refine Qm (fun h1=>?_) (fun h1=>?_) | refine Qn (fun h1=>?_) (fun h1=>?_))
 ·simp (disch:=omega) [h1]
  simp only [Qf,Qd,Qi,Qh,Qc,Qb,Bool.not_true,Bool.not_false] at h1
  refine Wc a.length 0 (fun i t _=>t 5=N i∧q=(a.drop i == b.drop i)) (by simp [hq]) (by omega) ?_
  rintro i t1 hh hf hi ⟨e5,hj⟩
  (have e0:=hf 0 (by kernel_rfl);have e1:=hf 1 (by kernel_rfl);clear hf;simp [] at e0 e1)
  simp (disch:=omega) [e0,e1,e5]
  (with_reducible first | refine Qm (fun h6=>?_) (fun h6=>?_) | refine Qn (fun h6=>?_) (fun h6=>?_))
  ·simp only [Qf,Qd,Qi,Qh,Qc,Qb,Bool.not_true,Bool.not_false] at h6
   have hd1:=List.drop_eq_getElem_cons (l:=a) (i:=i) (by omega)
   have hd2:=List.drop_eq_getElem_cons (l:=b) (i:=i) (by omega)
   have hq2:q=(a[i]'(by omega) == b[i]'(by omega) && (a.drop (i+1) == b.drop (i+1))):=by rw [hj,hd1,hd2];rfl
   clear hd1 hd2 hj
   simp (disch:=omega) [e0,e1,e5,Xq]
   repeat' (first
  | (with_reducible (first | refine Qm (fun hb_=>?_) (fun hb_=>?_) | refine Qn (fun hb_=>?_) (fun hb_=>?_))<;>simp (disch:=omega) [hb_,e0,e1,e5,Qg])
  | simp (disch:=omega) [e0,e1,e5,Qg])
   all_goals simp only [Qf,Qd,Qi,Qh,Qc,Qb,Bool.not_true,Bool.not_false] at hb_
   ·exact ⟨by omega,by simp [hq2,hb_]⟩
   ·simp [hq2,hb_]
  ·simp only [Qf,Qd,Qi,Qh,Qc,Qb,Bool.not_true,Bool.not_false] at h6
   simp (disch:=omega)
   rw [hj,List.drop_of_length_le (by omega),List.drop_of_length_le (by omega)];simp
 ·simp (disch:=omega) [h1]
  simp only [Qf,Qd,Qi,Qh,Qc,Qb,Bool.not_true,Bool.not_false] at h1
  rw [← hq];simp;intro h;exact h1 (by rw [h])
theorem VL (n:Nat) (hn:n≤1099511627776):Qe Tryz.prog Zq [N n] (·=OU true false (zeros n)):=by
 refine Qe.of_codeOf Zkg Qz (by simp) ⟨_,rfl,by simp⟩ ?_
 have hm:(n:Int)≤(WV:Nat):=by unfold WV;omega
 simp (disch:=omega) [Zep,hm]
 have e:List.replicate n (N 0)=(zeros n).map N:=by simp [zeros]
 have hz:(zeros n).length=n:=by simp [zeros]
 have:=ZqN (h0:=[]) (z:=(zeros n).map N) (l:=zeros n) rfl
 rw [hz] at this
 simp only [List.nil_append,List.length_nil] at this
 first
  | (rw [e,this];simp)
def ZeG (s:GSys) (a:List Int) (g:Int) (b:List Int):List Int:=List.zipWith (fun x y=>s.pl x (s.tm g y)) a b
theorem Zg {s:GSys} (t:s.Tab) (n1 n2:Bool) (a:List Int) (g:Int) (hg:s.G g) (b:List Int) (hl:a.length≤1000000) (hab:a.length=b.length) (ha:∀ u∈a,s.G u) (hb:∀ u∈b,s.G u) :
  Qe Tryz.prog X1 [s.lv,L n1 a,N g,L n2 b] (·=OU true false (ZeG s a g b)):=by
 obtain ⟨z,hze⟩:∃ z,z=ZeG s a g b:=⟨_,rfl⟩
 have hz:z.length=a.length:=by rw [hze];simp [ZeG,hab]
 have hget:∀ (i:Nat) (h:i < a.length),z[i]'(by omega)=s.pl a[i] (s.tm g (b[i]'(by omega))):=by intro i h;simp [hze,ZeG]
 rw [← hze];clear hze
 refine Qe.of_codeOf Zny Qz (by simp) ⟨_,rfl,by simp⟩ ?_
 simp (disch:=omega) [Ze9,Qu,Qo,Ql]
 refine Wc a.length 0 (fun i t h=>t 10=N i∧t 9=OU true false (z.take i)∧h=[none]) (by simp) (by omega) ?_
 rintro i t1 hh hf hi ⟨e10,e9,rfl⟩
 (have e1:=hf 1 (by kernel_rfl);have e2:=hf 2 (by kernel_rfl);have e3:=hf 3 (by kernel_rfl);have e4:=hf 4 (by kernel_rfl);clear hf;simp [] at e1 e2 e3 e4)
 simp (disch:=omega) [e1,e2,e3,e4,e9,e10]
 (with_reducible first | refine Qm (fun h6=>?_) (fun h6=>?_) | refine Qn (fun h6=>?_) (fun h6=>?_))
 ·simp only [Qf,Qd,Qi,Qh,Qc,Qb,Bool.not_true,Bool.not_false] at h6
  simp (disch:=omega) [e1,e2,e3,e4,e9,e10,Xq]
  refine Qa (Kf t hg (hb _ (List.getElem_mem (show i < b.length by omega)))) (by simp) ?_
  simp (disch:=omega) [e1,e2,e3,e4,e9,e10,Xq]
  refine Qa (Zdk t (ha _ (List.getElem_mem (show i < a.length by omega))) (GSys.Gtm t _ _)) (by simp) ?_
  have hst:z.take (i+1)=z.take i++[s.pl a[i] (s.tm g (b[i]'(by omega)))]:=by rw [List.take_succ_eq_append_getElem (by omega),hget i (by omega)]
  rw [hst]
  have hlt:(z.take i).length≤a.length:=by simp;omega
  generalize z.take i=y at *
  have hap:WC 1 (OU true false y) (.sl true false 1 [[N (s.pl a[i] (s.tm g (b[i]'(by omega))))]])=some (OU true false (y++[s.pl a[i] (s.tm g (b[i]'(by omega)))])):=Zje (l:=y) (r:=[_]) (u:=true) (nl:=false) (by simp;omega)
  simp (disch:=omega) [e1,e2,e3,e4,e9,e10,Xq,Qg,Ql]
  rw [hap]
  simp (disch:=omega) [e10,Qg]
  omega
 ·simp only [Qf,Qd,Qi,Qh,Qc,Qb,Bool.not_true,Bool.not_false] at h6
  simp (disch:=omega) [e9]
  rw [List.take_of_length_le (by simp;omega)]
  simp
theorem Zl2 {s:GSys} (t:s.Tab) (n1 n2:Bool) (a b:List Int) (hl:a.length≤1000000) (hab:a.length=b.length) (ha:∀ u∈a,s.G u) (hb:∀ u∈b,s.G u) :
  Qe Tryz.prog KQ [s.lv,L n1 a,L n2 b] (·=OU true false (Yl s a b)):=by
 obtain ⟨z,hze⟩:∃ z,z=Yl s a b:=⟨_,rfl⟩
 have hz:z.length=a.length:=by rw [hze];simp [Yl,hab]
 have hget:∀ (i:Nat) (h:i < a.length),z[i]'(by omega)=s.join a[i] (b[i]'(by omega)):=by intro i h;simp [hze,Yl]
 rw [← hze];clear hze
 refine Qe.of_codeOf ZkW Qz (by simp) ⟨_,rfl,by simp⟩ ?_
 simp (disch:=omega) [ZdX,Qu,Qo,Ql]
 refine Wc a.length 0 (fun i t h=>t 8=N i∧t 7=OU true false (z.take i)∧h=[none]) (by simp) (by omega) ?_
 rintro i t1 hh hf hi ⟨e8,e7,rfl⟩
 (have e1:=hf 1 (by kernel_rfl);have e2:=hf 2 (by kernel_rfl);have e3:=hf 3 (by kernel_rfl);clear hf;simp [] at e1 e2 e3)
 simp (disch:=omega) [e1,e2,e3,e7,e8]
 (with_reducible first | refine Qm (fun h6=>?_) (fun h6=>?_) | refine Qn (fun h6=>?_) (fun h6=>?_))
 ·simp only [Qf,Qd,Qi,Qh,Qc,Qb,Bool.not_true,Bool.not_false] at h6
  simp (disch:=omega) [e1,e2,e3,e7,e8,Xq]
  refine Qa (ZlY t (ha _ (List.getElem_mem (show i < a.length by omega))) (hb _ (List.getElem_mem (show i < b.length by omega)))) (by simp) ?_
  have hst:z.take (i+1)=z.take i++[s.join a[i] (b[i]'(by omega))]:=by rw [List.take_succ_eq_append_getElem (by omega),hget i (by omega)]
  rw [hst]
  have hlt:(z.take i).length≤a.length:=by simp;omega
  generalize z.take i=y at *
  have hap:WC 1 (OU true false y) (.sl true false 1 [[N (s.join a[i] (b[i]'(by omega)))]])=some (OU true false (y++[s.join a[i] (b[i]'(by omega))])):=Zje (l:=y) (r:=[_]) (u:=true) (nl:=false) (by simp;omega)
  simp (disch:=omega) [e1,e2,e3,e7,e8,Xq,Qg,Ql]
  rw [hap]
  simp (disch:=omega) [e8,Qg]
  omega
 ·simp only [Qf,Qd,Qi,Qh,Qc,Qb,Bool.not_true,Bool.not_false] at h6
  simp (disch:=omega) [e7]
  rw [List.take_of_length_le (by simp;omega)]
  simp
theorem Zbn (n1 n2:Bool) (c f:WZ) (hc:c.length≤1000000) (hf:f.length≤1000000):Qe Tryz.prog Jj [LC n1 c,LC n2 f] (·=.sl true false 1 ((f++c).map fun x=>[eC x])):=by
 refine Qe.of_codeOf Zj3 Qz (by simp) ⟨_,rfl,by simp⟩ ?_
 have h1:f.length≤WV:=by unfold WV;omega
 have h2:f.length+c.length≤WV:=by unfold WV;omega
 simp (disch:=omega) [Zeh,Ql,WC,h1,h2]
theorem KI {size:Int} {l:List Int} (h:okL size l=true) (k:Int) (hk:W2 (hd l)=some 1∨W2 (hd l)=some 2):Qe Tryz.prog X5 [L false l,N k] (·=OU true false (if k=0 then QJ l else Wj l)):=by
 have hl:=QV h
 have hlok:=Zh3 (YA h)
 have he:ZK l 1=1+(QJ l).length∧l=hd l::(QJ l++Wj l):=by
  rcases hk with hk | hk
  ·obtain ⟨q1,q2,q3⟩:=Zh5 h hk
   obtain ⟨u,g1,g2,_⟩:=YO.1 q3
   refine ⟨?_,by rw [q2,List.append_nil];exact q1⟩
   unfold ZK
   rw [if_pos (by omega),show (1:Int).toNat=1 from rfl]
   have e:l.drop 1=u.flat++[]:=by
    conv=>lhs;rw [q1]
    rw [List.drop_one,List.tail_cons,g2,List.append_nil]
   have e2:l.length=1+u.flat.length:=by
    conv=>lhs;rw [q1]
    rw [g2];simp;omega
   rw [e,ZeY g1,e2,g2];simp
  ·obtain ⟨q1,q2,q3⟩:=ZZ h hk
   obtain ⟨u,g1,g2,_⟩:=YO.1 q2
   refine ⟨?_,q1⟩
   unfold ZK
   rw [if_pos (by omega),show (1:Int).toNat=1 from rfl]
   have e:l.drop 1=u.flat++Wj l:=by
    conv=>lhs;rw [q1]
    rw [List.drop_one,List.tail_cons,g2]
   have e2:l.length=1+(u.flat.length+(Wj l).length):=by
    conv=>lhs;rw [q1]
    rw [g2];simp;omega
   rw [e,ZeY g1,e2,g2];omega
 have hlen:l.length=1+((QJ l).length+(Wj l).length):=by
  have:=congrArg List.length he.2
  simpa [Nat.add_comm] using this
 have c0:ZA 1 (L false l) (some 1) (some (1+((QJ l).length:Int))) none=some (L false (QJ l)):=by
  simp only [ZA,Option.getD_none,Option.getD_some,List.length_map]
  rw [if_pos ⟨trivial,by omega,by omega,by omega,by omega⟩,show (1+((QJ l).length:Int)).toNat=1+(QJ l).length by omega,show (1:Int).toNat=1 from rfl,← List.map_take,← List.map_drop]
  have e:List.drop 1 (List.take (1+(QJ l).length) l)=QJ l:=by
   have h2:=he.2
   generalize QJ l=p0 at *
   generalize Wj l=p1 at *
   rw [h2,Nat.add_comm,List.take_succ_cons,List.drop_one,List.tail_cons,List.take_left]
  rw [e];simp only [Option.isSome_none,Bool.false_and,Zga]
 have c1:ZA 1 (L false l) (some (1+((QJ l).length:Int))) none none=some (L false (Wj l)):=by
  have:=Zj (n2:=false) (l:=l) (k:=1+(QJ l).length) (by omega)
  rw [show ((1+(QJ l).length:Nat):Int)=1+((QJ l).length:Int) by omega] at this
  rw [this]
  have e:List.drop (1+(QJ l).length) l=Wj l:=by
   have h2:=he.2
   generalize QJ l=p0 at *
   generalize Wj l=p1 at *
   rw [h2,Nat.add_comm,List.drop_succ_cons,List.drop_left]
  rw [e]
 have hend:=ZnR false l hlok 1 (by omega)
 rw [show ((1:Nat):Int)=1 from rfl,he.1] at hend
 refine Qe.of_codeOf ZkN Qz (by simp) ⟨_,rfl,by split<;>simp⟩ ?_
 simp (disch:=omega) [ZdY]
 refine Qa hend (by simp) ?_
 simp (disch:=omega)
 by_cases h0:k=0
 ·subst h0
  have hz:eqB 0 0=true:=by rw [Qc]
  simp (disch:=omega) [hz,c0]
  refine Qa (JN false (QJ l) (by omega)) (by simp) ?_
  simp (disch:=omega)
 ·have hz:eqB k 0=false:=by rw [Qb];exact h0
  simp (disch:=omega) [hz,c1,h0]
  refine Qa (JN false (Wj l) (by omega)) (by simp) ?_
  simp (disch:=omega)
def Res.told:Res→LV→Prop
 | .ok x,r=>∃ u1 u2 u4 n4,r=.agg [OU u1 false x.ty,OU u2 false x.needs,N 0,.sl u4 n4 1 []]
 | .bad f p,r=>f≠0∧∃ u1 u2 u4 n4,r=.agg [.sl u1 true 1 [],.sl u2 true 1 [],N f,OU u4 n4 p]
theorem Xn (f:Int) (hf:f≠0):Qe Tryz.prog WH [N f] (Res.bad f []).told:=by
 refine Qe.of_codeOf Zmf Qz (by simp) ⟨.agg [.sl false true 1 [],.sl false true 1 [],N f,.sl false true 1 []],⟨hf,false,false,false,true,by simp⟩,by simp⟩ ?_
 simp (disch:=omega) [ZfO]
 exact ⟨hf,true,true,true,true,by simp⟩
def ZiM (ty nd:List Int):Res:=if ty.length≤40 then .ok (.mk ty nd []) else .bad 3 []
theorem ZaB (x:Res) (h:∀ f p,x=.bad f p→f≠0):∃ r,x.told r∧Low 0 r:=by
 cases x with
 | ok x=>exact ⟨.agg [L false x.ty,L false x.needs,N 0,.sl false true 1 []],⟨false,false,false,true,rfl⟩,by simp⟩
 | bad f p=>exact ⟨.agg [.sl false true 1 [],.sl false true 1 [],N f,L true p],⟨h f p rfl,false,false,false,true,rfl⟩,by simp⟩
theorem ZrD {ty nd:List Int} {f:Int} {p:List Int} (h:ZiM ty nd=.bad f p):f≠0:=by
 unfold ZiM at h
 split at h
 ·simp at h
 ·simp at h;omega
theorem Zbv (ty nd:List Int):Qe Tryz.prog YI [L false ty,L false nd] (ZiM ty nd).told:=by
 refine Qe.of_codeOf ZkG Qz (by simp) (ZaB _ fun f p h=>ZrD h) ?_
 simp (disch:=omega) [Zec]
 by_cases h:ty.length≤40
 ·have hb:ltB 40 (ty.length:Int)=false:=by rw [Qd];omega
  simp (disch:=omega) [hb,ZiM,h]
  exact ⟨false,false,true,true,by simp⟩
 ·have hb:ltB 40 (ty.length:Int)=true:=by rw [Qf];omega
  simp (disch:=omega) [hb,ZiM,h]
  refine Qp (Qe.low (Xn 3 (by omega))) (by simp) ?_
  rintro r ⟨⟨h3,u1,u2,u4,n4,rfl⟩,lo⟩
  simp (disch:=omega)
  exact ⟨h3,u1,u2,u4,n4,by simp⟩
def ofR (i:Nat):Res→Res
 | .ok x=>.ok x
 | .bad f p=>.bad f ((i:Int)::p)
def Res.fine:Res→Prop
 | .ok _=>True
 | .bad f p=>f≠0∧p.length≤1000000
theorem ofR_fine {i:Nat} {x:Res} (h:x.fine):∀ f p,ofR i x=.bad f p→f≠0:=by
 intro f p e
 cases x with
 | ok x=>simp [ofR] at e
 | bad f0 p0=>simp [ofR] at e;rw [← e.1];exact h.1
theorem XT (s:GSys) (op n:Int) (nl1:Bool) (gty:List Int) (nl2:Bool) (ks:List GTerm) (i:Nat) (hi:i < ks.length) (nlc:Bool) (ctx:WZ) (R:Res) (hR:R.fine)
  (hk:Qe Tryz.prog WL [s.lv,LC nlc ctx,(ks[i]).lv] R.told):Qe Tryz.prog YB [s.lv,LC nlc ctx,(GTerm.mk op n nl1 gty nl2 ks).lv,N i] (ofR i R).told:=by
 refine Qe.of_codeOf ZoV Qz (by simp) (ZaB _ (ofR_fine hR)) ?_
 have hix:=WO ks false nl2 i hi
 simp (disch:=omega) [ZgU,Qu,Qo,GTerm.cells,hix]
 refine Qp (Qe.low hk) (by simp) ?_
 rintro r ⟨hr,lo⟩
 cases R with
 | ok x =>
  obtain ⟨u1,u2,u4,n4,rfl⟩:=hr
  have hz:eqB 0 0=true:=by rw [Qc]
  simp (disch:=omega) [hz]
  exact ⟨u1,u2,u4,n4,by simp⟩
 | bad f p =>
  obtain ⟨hf,u1,u2,u4,n4,rfl⟩:=hr
  have hf0:eqB f 0=false:=by rw [Qb];exact hf
  have hpm:1+p.length≤WV:=by have:=hR.2;unfold WV;omega
  simp (disch:=omega) [hf0,Ql,WC,hpm]
  exact ⟨hf,u1,u2,true,false,by simp⟩
theorem ZlH {size:Int} {l:List Int} (h:okL size l=true):((QH (hd l)).1=0 ↔ hd l=0)∧((QH (hd l)).1=1 ↔ hd l=1)∧((QH (hd l)).1=2 ↔ hd l=2)∧((QH (hd l)).1=3 ↔ QW (hd l)=true)∧((QH (hd l)).1=4 ↔ WW (hd l)=true):=by
 have h1:=Yn h
 obtain ⟨a,b,c,d,e,_⟩:=JQ h1.2.1 h1.2.2.1
 exact ⟨a,b,c,d,e⟩
theorem sh00:(QH 0).1=0:=by decide
theorem fo2 {s:GSys} {n:Int} {i:Nat}:QT s 2 n i 0=0:=by simp [QT,Jo,sh00]
theorem fo3 {s:GSys} {n:Int}:QT s 3 n 0 0=0:=by simp [QT,Jo,sh00]
theorem fo_add {s:GSys} {n:Int} {i:Nat} {l:List Int} (h:okL s.size l=true):QT s 2 n i (hd l)=if hd l=0 then 0 else 2:=by
 obtain ⟨a,b,c,d,e⟩:=ZlH h
 by_cases q:hd l=0
 ·simp [QT,Jo,q,sh00]
 ·have:¬ (QH (hd l)).1=0:=fun h=>q (a.1 h)
  simp [QT,Jo,q,this]
theorem fo_if0 {s:GSys} {n:Int} {l:List Int} (h:okL s.size l=true):QT s 3 n 0 (hd l)=if hd l=0 then 0 else 2:=by
 obtain ⟨a,b,c,d,e⟩:=ZlH h
 by_cases q:hd l=0
 ·simp [QT,Jo,q,sh00]
 ·have:¬ (QH (hd l)).1=0:=fun h=>q (a.1 h)
  simp [QT,Jo,q,this]
theorem Zbm {s:GSys} {op n:Int} {i:Nat} {c:Int} (h:i≠0) (h2:op≠2):QT s op n i c=0:=by
 simp [QT,Jo,h,h2]
theorem tell_add {s:GSys} {cx:List (List Int)} {n:Int} {nl1 nl2:Bool} {gty:List Int} {a b:GTerm} {x:TT} (hA:Qr s cx a=.ok x) (hx:okL s.size x.ty=true) (h0:hd x.ty=0) (hb:∀ y,Qr s cx b=.ok y→okL s.size y.ty=true) :
  Qr s cx (.mk 2 n nl1 gty nl2 [a,b])=match Qr s cx b with
   | .bad f p=>.bad f (1::p)
   | .ok y=>if hd y.ty=0 then .ok (.mk [0] (YL s x.needs y.needs) [x,y]) else .bad 2 []:=by
 cases hB:Qr s cx b with
 | bad f p=>simp [Qr,Wf,Qx,Qy,hA,hB,fo2,h0]
 | ok y =>
  have:=hb y hB
  by_cases q:hd y.ty=0
  ·simp [Qr,Wf,Qx,Qy,hA,hB,fo2,h0,q,QZ,ndP]
  ·simp [Qr,Wf,Qx,Qy,hA,hB,fo2,fo_add this,h0,q]
theorem tell_if {s:GSys} {cx:List (List Int)} {n:Int} {nl1 nl2:Bool} {gty:List Int} {a b c:GTerm} {x:TT} (hA:Qr s cx a=.ok x) (hx:okL s.size x.ty=true) (h0:hd x.ty=0) :
  Qr s cx (.mk 3 n nl1 gty nl2 [a,b,c])=match Qr s cx b with
   | .bad f p=>.bad f (1::p)
   | .ok y=>match Qr s cx c with
    | .bad f p=>.bad f (2::p)
    | .ok z=>if y.ty=z.ty then .ok (.mk y.ty (YL s x.needs (Yl s y.needs z.needs)) [x,y,z]) else .bad 3 []:=by
 cases hB:Qr s cx b with
 | bad f p=>simp [Qr,Wf,Qx,Qy,hA,hB,fo3,h0]
 | ok y =>
  cases hC:Qr s cx c with
  | bad f p=>simp [Qr,Wf,Qx,Qy,hA,hB,hC,fo3,h0,Zbm]
  | ok z =>
   by_cases q:y.ty=z.ty
   ·simp [Qr,Wf,Qx,Qy,hA,hB,hC,fo3,h0,Zbm,QZ,tyP,ndP,q]
   ·simp [Qr,Wf,Qx,Qy,hA,hB,hC,fo3,h0,Zbm,QZ,tyP,ndP,q]
def Z8 (ty nd:List Int) (ks:List TT):Res:=if ty.length≤40 then .ok (.mk ty nd ks) else .bad 3 []
section
variable {s:GSys} {cx:List (List Int)} {n:Int} {nl1 nl2:Bool} {gty:List Int} {a b c:GTerm} {x:TT}
theorem YQ {op:Int} {ks:List GTerm} {f:Int} {p:List Int} (h:Qr s (Qx op gty 0 []++cx) a=.bad f p):Qr s cx (.mk op n nl1 gty nl2 (a::ks))=.bad f (0::p):=by
 have h':Qr s (Qx op gty 0 (first [])++cx) a=.bad f p:=h
 simp [Qr,Wf,h']
theorem tell_var:Qr s cx (.mk 0 n nl1 gty nl2 [])=.ok (.mk (cx.getD n.toNat []) ((zeros cx.length).set n.toNat 1) []):=by simp [Qr,Wf,QZ]
theorem Zou:Qr s cx (.mk 1 n nl1 gty nl2 [])=.ok (.mk [0] (zeros cx.length) []):=by simp [Qr,Wf,QZ]
theorem Vq {op n:Int} {i:Nat} {c:Int} (h:op=4∨op=6∨op=7∨op=9∨op=11):QT s op n i c=0:=by
 rcases h with rfl | rfl | rfl | rfl | rfl<;>simp [QT,Jo]
theorem fo_sh {op n:Int} {w f:Int} {l:List Int} (hw:Jo op 0=(w,f)) (hw0:0≤w) (ho:op=5∨op=8∨op=12) {q:Prop} [Decidable q] (hq:(QH (hd l)).1=w ↔ q):QT s op n 0 (hd l)=if q then (if s.le 1 n=true then 0 else 8) else f:=by
 unfold QT
 rw [hw]
 by_cases h:q
 ·rw [if_neg (by simp [hq.2 h]),if_pos h]
  cases g:s.le 1 n<;>simp [ho]
 ·have:(QH (hd l)).1≠w:=fun e=>h (hq.1 e)
  rw [if_pos ⟨hw0,this⟩,if_neg h]
theorem Zrh (hA:Qr s cx a=.ok x):Qr s cx (.mk 4 n nl1 gty nl2 [a,b])=match Qr s cx b with
  | .bad f p=>.bad f (1::p)
  | .ok y=>Z8 (1::(x.ty++y.ty)) (YL s x.needs y.needs) [x,y]:=by
 cases hB:Qr s cx b with
 | bad f p=>simp [Qr,Wf,Qx,Qy,hA,hB,Vq]
 | ok y =>
  by_cases q:(1::(x.ty++y.ty)).length≤40
  ·simp [Qr,Wf,Qx,Qy,hA,hB,Vq,QZ,ndP,tyP,Yv,Z8,q]
   simp at q
   simp [q]
  ·simp [Qr,Wf,Qx,Qy,hA,hB,Vq,QZ,ndP,tyP,Yv,Z8,q]
   simp at q
   simp [Nat.not_le.2 q]
theorem ZqT (hA:Qr s cx a=.ok x):Qr s cx (.mk 6 n nl1 gty nl2 [a])=Z8 (2::(x.ty++gty)) x.needs [x]:=by
 by_cases q:(2::(x.ty++gty)).length≤40
 ·simp [Qr,Wf,Qx,Qy,hA,Vq,QZ,ndP,tyP,Yv,Z8,q]
  simp at q
  simp [q]
 ·simp [Qr,Wf,Qx,Qy,hA,Vq,QZ,ndP,tyP,Yv,Z8,q]
  simp at q
  simp [Nat.not_le.2 q]
theorem Zpa (hA:Qr s cx a=.ok x):Qr s cx (.mk 7 n nl1 gty nl2 [a])=Z8 (2::(gty++x.ty)) x.needs [x]:=by
 by_cases q:(2::(gty++x.ty)).length≤40
 ·simp [Qr,Wf,Qx,Qy,hA,Vq,QZ,ndP,tyP,Yv,Z8,q]
  simp at q
  simp [q]
 ·simp [Qr,Wf,Qx,Qy,hA,Vq,QZ,ndP,tyP,Yv,Z8,q]
  simp at q
  simp [Nat.not_le.2 q]
theorem tell_fun (hA:Qr s (gty::cx) a=.ok x):Qr s cx (.mk 9 n nl1 gty nl2 [a])=if Wn s (x.needs.take 1) n=true then Z8 ((3+n)::(gty++x.ty)) (x.needs.drop 1) [x] else .bad 9 []:=by
 by_cases u:Wn s (x.needs.take 1) n=true
 ·rw [if_pos u]
  by_cases q:((3+n)::(gty++x.ty)).length≤40
  ·simp [Qr,Wf,Qx,Qy,hA,Vq,QZ,ndP,tyP,usP,u,Yv,Z8,q]
   simp at q
   simp [q]
  ·simp [Qr,Wf,Qx,Qy,hA,Vq,QZ,ndP,tyP,usP,u,Yv,Z8,q]
   simp at q
   simp [Nat.not_le.2 q]
 ·rw [if_neg u]
  simp [Qr,Wf,Qx,Qy,hA,Vq,QZ,ndP,tyP,usP,u]
theorem tell_box (hA:Qr s cx a=.ok x):Qr s cx (.mk 11 n nl1 gty nl2 [a])=Z8 ((19+n)::x.ty) (Wa s n x.needs) [x]:=by
 by_cases q:((19+n)::x.ty).length≤40
 ·simp [Qr,Wf,Qx,Qy,hA,Vq,QZ,ndP,tyP,Yv,Z8,q]
  simp at q
  simp [q]
 ·simp [Qr,Wf,Qx,Qy,hA,Vq,QZ,ndP,tyP,Yv,Z8,q]
  simp at q
  simp [Nat.not_le.2 q]
theorem tell_app (hA:Qr s cx a=.ok x) (hx:okL s.size x.ty=true):Qr s cx (.mk 10 n nl1 gty nl2 [a,b])=if QW (hd x.ty)=true then (match Qr s cx b with
  | .bad f p=>.bad f (1::p)
  | .ok y=>if y.ty=QJ x.ty then .ok (.mk (Wj x.ty) (YL s x.needs (Wa s (QH (hd x.ty)).2 y.needs)) [x,y]) else .bad 3 []) else .bad 6 []:=by
 have fo:QT s 10 n 0 (hd x.ty)=if QW (hd x.ty)=true then 0 else 6:=by
  obtain ⟨_,_,_,d,_⟩:=ZlH hx
  by_cases q:QW (hd x.ty)=true
  ·simp [QT,Jo,q,d.2 q]
  ·have:¬ (QH (hd x.ty)).1=3:=fun h=>q (d.1 h)
   simp [QT,Jo,q,this]
 by_cases q:QW (hd x.ty)=true
 ·rw [if_pos q]
  rw [if_pos q] at fo
  cases hB:Qr s cx b with
  | bad f p=>simp [Qr,Wf,Qx,Qy,hA,hB,fo]
  | ok y =>
   by_cases e:y.ty=QJ x.ty
   ·simp [Qr,Wf,Qx,Qy,hA,hB,fo,Zbm,first,tyP,e,QZ,ndP]
   ·simp [Qr,Wf,Qx,Qy,hA,hB,fo,Zbm,first,tyP,e]
 ·rw [if_neg q]
  rw [if_neg q] at fo
  simp [Qr,Wf,Qx,Qy,hA,fo]
theorem Zpv (hA:Qr s cx a=.ok x) (hx:okL s.size x.ty=true):Qr s cx (.mk 5 n nl1 gty nl2 [a,b])=if hd x.ty=1 then (if s.le 1 n=true then (match Qr s (Wj x.ty::QJ x.ty::cx) b with
  | .bad f p=>.bad f (1::p)
  | .ok y=>if Wn s (y.needs.take 2) n=true then .ok (.mk y.ty (YL s (Wa s n x.needs) (y.needs.drop 2)) [x,y]) else .bad 9 []) else .bad 8 []) else .bad 4 []:=by
 have fo:=fo_sh (s:=s) (op:=5) (n:=n) (w:=1) (f:=4) (l:=x.ty) rfl (by omega) (by simp) (ZlH hx).2.1
 by_cases q:hd x.ty=1
 ·rw [if_pos q] at fo ⊢
  by_cases l:s.le 1 n=true
  ·rw [if_pos l] at fo ⊢
   cases hB:Qr s (Wj x.ty::QJ x.ty::cx) b with
   | bad f p=>simp [Qr,Wf,Qx,Qy,hA,hB,fo,first,tyP]
   | ok y =>
    by_cases u:Wn s (y.needs.take 2) n=true
    ·simp [Qr,Wf,Qx,Qy,hA,hB,fo,Zbm,first,tyP,QZ,ndP,usP,u]
    ·simp [Qr,Wf,Qx,Qy,hA,hB,fo,Zbm,first,tyP,QZ,ndP,usP,u]
  ·rw [if_neg l] at fo ⊢
   simp [Qr,Wf,Qx,Qy,hA,fo]
 ·rw [if_neg q] at fo ⊢
  simp [Qr,Wf,Qx,Qy,hA,fo]
theorem ZqX (hA:Qr s cx a=.ok x) (hx:okL s.size x.ty=true):Qr s cx (.mk 12 n nl1 gty nl2 [a,b])=if WW (hd x.ty)=true then (if s.le 1 n=true then (match Qr s (QJ x.ty::cx) b with
  | .bad f p=>.bad f (1::p)
  | .ok y=>if Wn s (y.needs.take 1) (s.tm n (QH (hd x.ty)).2)=true then .ok (.mk y.ty (YL s (Wa s n x.needs) (y.needs.drop 1)) [x,y]) else .bad 9 []) else .bad 8 []) else .bad 7 []:=by
 have fo:=fo_sh (s:=s) (op:=12) (n:=n) (w:=4) (f:=7) (l:=x.ty) rfl (by omega) (by simp) (ZlH hx).2.2.2.2
 by_cases q:WW (hd x.ty)=true
 ·rw [if_pos q] at fo ⊢
  by_cases l:s.le 1 n=true
  ·rw [if_pos l] at fo ⊢
   cases hB:Qr s (QJ x.ty::cx) b with
   | bad f p=>simp [Qr,Wf,Qx,Qy,hA,hB,fo,first,tyP]
   | ok y =>
    by_cases u:Wn s (y.needs.take 1) (s.tm n (QH (hd x.ty)).2)=true
    ·simp [Qr,Wf,Qx,Qy,hA,hB,fo,Zbm,first,tyP,QZ,ndP,usP,u]
    ·simp [Qr,Wf,Qx,Qy,hA,hB,fo,Zbm,first,tyP,QZ,ndP,usP,u]
  ·rw [if_neg l] at fo ⊢
   simp [Qr,Wf,Qx,Qy,hA,fo]
 ·rw [if_neg q] at fo ⊢
  simp [Qr,Wf,Qx,Qy,hA,fo]
theorem Zri (hA:Qr s cx a=.ok x) (hx:okL s.size x.ty=true):Qr s cx (.mk 8 n nl1 gty nl2 [a,b,c])=if hd x.ty=2 then (if s.le 1 n=true then (match Qr s (QJ x.ty::cx) b with
  | .bad f p=>.bad f (1::p)
  | .ok y=>match Qr s (Wj x.ty::cx) c with
   | .bad f p=>.bad f (2::p)
   | .ok z=>if y.ty=z.ty then (if Wn s (y.needs.take 1) n=true∧Wn s (z.needs.take 1) n=true then .ok (.mk y.ty (YL s (Wa s n x.needs) (Yl s (y.needs.drop 1) (z.needs.drop 1))) [x,y,z]) else .bad 9 []) else .bad 3 []) else .bad 8 []) else .bad 5 []:=by
 have fo:=fo_sh (s:=s) (op:=8) (n:=n) (w:=2) (f:=5) (l:=x.ty) rfl (by omega) (by simp) (ZlH hx).2.2.1
 by_cases q:hd x.ty=2
 ·rw [if_pos q] at fo ⊢
  by_cases l:s.le 1 n=true
  ·rw [if_pos l] at fo ⊢
   cases hB:Qr s (QJ x.ty::cx) b with
   | bad f p=>simp [Qr,Wf,Qx,Qy,hA,hB,fo,first,tyP]
   | ok y =>
    cases hC:Qr s (Wj x.ty::cx) c with
    | bad f p=>simp [Qr,Wf,Qx,Qy,hA,hB,hC,fo,Zbm,first,tyP]
    | ok z =>
     by_cases e:y.ty=z.ty
     ·by_cases u:Wn s (y.needs.take 1) n=true∧Wn s (z.needs.take 1) n=true
      ·simp [Qr,Wf,Qx,Qy,hA,hB,hC,fo,Zbm,first,tyP,QZ,ndP,usP,u,e]
      ·simp [Qr,Wf,Qx,Qy,hA,hB,hC,fo,Zbm,first,tyP,QZ,ndP,usP,u,e]
     ·simp [Qr,Wf,Qx,Qy,hA,hB,hC,fo,Zbm,first,tyP,QZ,ndP,usP,e]
  ·rw [if_neg l] at fo ⊢
   simp [Qr,Wf,Qx,Qy,hA,fo]
 ·rw [if_neg q] at fo ⊢
  simp [Qr,Wf,Qx,Qy,hA,fo]
end
theorem Zfj (p:Int→Bool):∀ (n:Nat) (g:Nat),Yk p g n=-1∨p (Yk p g n)=true
 | 0,g=>.inl rfl
 | n+1,g=>by
  unfold Yk
  split
  ·rename_i h;exact .inr h
  ·exact Zfj p n (g+1)
structure GSys.Laws (s:GSys):Prop where
 z_pl:∀ a,s.G a→s.pl 0 a=a
 o_tm:∀ a,s.G a→s.tm 1 a=a
 tm_o:∀ a,s.G a→s.tm a 1=a
 z_tm:∀ a,s.G a→s.tm 0 a=0
 tm_z:∀ a,s.G a→s.tm a 0=0
 refl:∀ a,s.G a→s.le a a=true
 comm:∀ a b,s.G a→s.G b→s.pl a b=s.pl b a
 pl_as:∀ a b c,s.G a→s.G b→s.G c→s.pl (s.pl a b) c=s.pl a (s.pl b c)
 tm_as:∀ a b c,s.G a→s.G b→s.G c→s.tm (s.tm a b) c=s.tm a (s.tm b c)
 ldis:∀ a b c,s.G a→s.G b→s.G c→s.tm a (s.pl b c)=s.pl (s.tm a b) (s.tm a c)
 rdis:∀ a b c,s.G a→s.G b→s.G c→s.tm (s.pl a b) c=s.pl (s.tm a c) (s.tm b c)
 trans:∀ a b c,s.G a→s.G b→s.G c→s.le a b=true→s.le b c=true→s.le a c=true
 pl_mo:∀ a b c,s.G a→s.G b→s.G c→s.le a b=true→s.le (s.pl a c) (s.pl b c)=true
 tm_mr:∀ a b c,s.G a→s.G b→s.G c→s.le a b=true→s.le (s.tm a c) (s.tm b c)=true
 tm_ml:∀ a b c,s.G a→s.G b→s.G c→s.le a b=true→s.le (s.tm c a) (s.tm c b)=true
 anti:∀ a b,s.G a→s.G b→s.le a b=true→s.le b a=true→a=b
 j_l:∀ a b,s.G a→s.G b→s.le a (s.join a b)=true
 j_r:∀ a b,s.G a→s.G b→s.le b (s.join a b)=true
 j_m:∀ a b c,s.G a→s.G b→s.G c→s.le a c=true→s.le b c=true→s.le (s.join a b) c=true
theorem GSys.laws {s:GSys} (hs:s.sys=true):s.Laws:=by
 have t:=GSys.sys_of hs
 have key:∀ a b c,s.G a→s.G b→s.G c→s.one a=true∧s.two a b=true∧s.three a b c=true:=by
  intro a b c ha hb hc
  have hs':=hs
  unfold GSys.sys at hs'
  rw [Bool.and_eq_true,YV] at hs'
  have h:=hs'.2 a.toNat (by have:=ha.1;have:=ha.2;omega)
  unfold GSys.sysB at h
  rw [Bool.and_eq_true,YV] at h
  obtain ⟨h1,h⟩:=h
  have h:=h b.toNat (by have:=hb.1;have:=hb.2;omega)
  unfold GSys.sysC at h
  rw [Bool.and_eq_true,YV] at h
  obtain ⟨h2,h⟩:=h
  have h3:=h c.toNat (by have:=hc.1;have:=hc.2;omega)
  have e1:((a.toNat:Nat):Int)=a:=by have:=ha.1;omega
  have e2:((b.toNat:Nat):Int)=b:=by have:=hb.1;omega
  have e3:((c.toNat:Nat):Int)=c:=by have:=hc.1;omega
  rw [e1] at h1
  rw [e1,e2] at h2
  rw [e1,e2,e3] at h3
  exact ⟨h1,h2,h3⟩
 have one:∀ a,s.G a→_:=fun a ha=>(key a 0 0 ha (GSys.G0 t) (GSys.G0 t)).1
 have two:∀ a b,s.G a→s.G b→_:=fun a b ha hb=>(key a b 0 ha hb (GSys.G0 t)).2.1
 have three:∀ a b c,s.G a→s.G b→s.G c→_:=fun a b c ha hb hc=>(key a b c ha hb hc).2.2
 simp only [GSys.one,GSys.two,GSys.three,Bool.and_eq_true,Qc,Bool.or_eq_true,Bool.not_eq_true',Qi] at one two three
 have isJ:∀ a b,s.G a→s.G b→s.isJoin a b (s.join a b)=true:=fun a b ha hb=>by
  have h:=(two a b ha hb).2
  rcases Zfj (s.isJoin a b) s.size.toNat 0 with q | q
  ·unfold GSys.join at h
   omega
  ·exact q
 simp only [GSys.isJoin,Bool.and_eq_true,YV,GSys.jn,Bool.or_eq_true,Bool.not_eq_true'] at isJ
 refine ⟨fun a ha=>(one a ha).1.1.1.1.1,fun a ha=>(one a ha).1.1.1.1.2,fun a ha=>(one a ha).1.1.1.2,fun a ha=>(one a ha).1.1.2,fun a ha=>(one a ha).1.2,fun a ha=>(one a ha).2,
  fun a b ha hb=>(two a b ha hb).1.1,fun a b c ha hb hc=>(three a b c ha hb hc).1.1.1.1,fun a b c ha hb hc=>(three a b c ha hb hc).1.1.1.2,fun a b c ha hb hc=>(three a b c ha hb hc).1.1.2,fun a b c ha hb hc=>(three a b c ha hb hc).1.2,?_,?_,?_,?_,?_,fun a b ha hb=>(isJ a b ha hb).1.1,fun a b ha hb=>(isJ a b ha hb).1.2,?_⟩
 ·intro a b c ha hb hc h1 h2
  rcases (three a b c ha hb hc).2 with h | h
  ·rw [h1] at h;simp at h
  ·rcases h.1.1.1 with g | g
   ·rw [h2] at g;simp at g
   ·exact g
 ·intro a b c ha hb hc h1
  rcases (three a b c ha hb hc).2 with h | h
  ·rw [h1] at h;simp at h
  ·exact h.1.1.2
 ·intro a b c ha hb hc h1
  rcases (three a b c ha hb hc).2 with h | h
  ·rw [h1] at h;simp at h
  ·exact h.1.2
 ·intro a b c ha hb hc h1
  rcases (three a b c ha hb hc).2 with h | h
  ·rw [h1] at h;simp at h
  ·exact h.2
 ·intro a b ha hb h1 h2
  rcases (two a b ha hb).1.2 with (h | h) | h
  ·exact h
  ·rw [h1] at h;simp at h
  ·rw [h2] at h;simp at h
 ·intro a b c ha hb hc h1 h2
  have h:=(isJ a b ha hb).2 c.toNat (by have:=hc.1;have:=hc.2;omega)
  have e3:((c.toNat:Nat):Int)=c:=by have:=hc.1;omega
  rw [e3,h1,h2] at h
  simpa using h
theorem GSys.Laws.pl2 {s:GSys} (l:s.Laws) (t:s.Tab) {a b c d:Int} (ha:s.G a) (hb:s.G b) (hc:s.G c) (hd:s.G d) (h1:s.le a c=true) (h2:s.le b d=true):s.le (s.pl a b) (s.pl c d)=true:=by
 refine l.trans _ (s.pl c b) _ (GSys.Gpl t _ _) (GSys.Gpl t _ _) (GSys.Gpl t _ _) (l.pl_mo a c b ha hc hb h1) ?_
 rw [l.comm c b hc hb,l.comm c d hc hd]
 exact l.pl_mo b d c hb hd hc h2
theorem GSys.Laws.jn2 {s:GSys} (l:s.Laws) (hs:s.sys=true) {a b c d:Int} (ha:s.G a) (hb:s.G b) (hc:s.G c) (hd:s.G d) (h1:s.le a c=true) (h2:s.le b d=true):s.le (s.join a b) (s.join c d)=true :=
 l.j_m a b _ ha hb (ZhY hs hc hd) (l.trans a c _ ha hc (ZhY hs hc hd) h1 (l.j_l c d hc hd)) (l.trans b d _ hb hd (ZhY hs hc hd) h2 (l.j_r c d hc hd))
def Gd (s:GSys) (c:Nat) (l:List Int):Prop:=l.length=c∧∀ u∈l,s.G u
def leL (s:GSys) (a b:List Int):Prop:=∀ i,i < a.length→s.le (a.getD i 0) (b.getD i 0)=true
structure PCl (s:GSys) (P:List Int→List Int→Prop) (c c':Nat):Prop where
 zero:P (zeros c) (zeros c')
 sum:∀ a a' b b',Gd s c a→Gd s c' a'→Gd s c b→Gd s c' b'→P a a'→P b b'→P (YL s a b) (YL s a' b')
 join:∀ a a' b b',Gd s c a→Gd s c' a'→Gd s c b→Gd s c' b'→P a a'→P b b'→P (Yl s a b) (Yl s a' b')
 scale:∀ g a a',s.G g→Gd s c a→Gd s c' a'→P a a'→P (Wa s g a) (Wa s g a')
structure QR (s:GSys) (P:List Int→List Int→Prop) (c c' k:Nat) (a a':List Int):Prop where
 g:Gd s (k+c) a
 g':Gd s (k+c') a'
 le:leL s (a'.take k) (a.take k)
 p:P (a.drop k) (a'.drop k)
theorem Gd.drop {s:GSys} {k c:Nat} {a:List Int} (h:Gd s (k+c) a):Gd s c (a.drop k):=⟨by rw [List.length_drop,h.1];omega,fun u hu=>h.2 u (List.mem_of_mem_drop hu)⟩
theorem Gd.take {s:GSys} {k c:Nat} {a:List Int} (h:Gd s (k+c) a):Gd s k (a.take k):=⟨by rw [List.length_take,h.1];omega,fun u hu=>h.2 u (List.mem_of_mem_take hu)⟩
theorem Gd.at {s:GSys} {c:Nat} {a:List Int} (h:Gd s c a) {i:Nat} (hi:i < c):s.G (a.getD i 0):=by
 rw [List.getD_eq_getElem?_getD,List.getElem?_eq_getElem (by rw [h.1];exact hi)]
 exact h.2 _ (List.getElem_mem _)
theorem ZfN {f:Int→Int→Int} {a b:List Int} {c i:Nat} (ha:a.length=c) (hb:b.length=c) (hi:i < c):(List.zipWith f a b).getD i 0=f (a.getD i 0) (b.getD i 0):=by
 simp [List.getD_eq_getElem?_getD,List.getElem?_zipWith,show i < a.length by omega,show i < b.length by omega]
theorem Zok {f:Int→Int} {a:List Int} {i:Nat} (hi:i < a.length):(a.map f).getD i 0=f (a.getD i 0):=by
 simp [List.getD_eq_getElem?_getD,hi]
theorem Gd.sum {s:GSys} (t:s.Tab) {c:Nat} {a b:List Int} (ha:Gd s c a) (hb:Gd s c b):Gd s c (YL s a b):=ZcR t ha.1 hb.1
theorem Gd.join {s:GSys} (hs:s.sys=true) {c:Nat} {a b:List Int} (ha:Gd s c a) (hb:Gd s c b):Gd s c (Yl s a b):=⟨Zcc ha.1 hb.1,fun u hu=>Zip hs u hu ha.2 hb.2⟩
theorem Gd.scale {s:GSys} (t:s.Tab) {c:Nat} {a:List Int} (g:Int) (ha:Gd s c a):Gd s c (Wa s g a):=Yc t ha.1
theorem Gd.zeros {s:GSys} (t:s.Tab) (c:Nat):Gd s c (zeros c):=V1 t c
theorem leL_sum {s:GSys} (hs:s.sys=true) {c:Nat} {a a' b b':List Int} (ha:Gd s c a) (ha':Gd s c a') (hb:Gd s c b) (hb':Gd s c b') (h1:leL s a' a) (h2:leL s b' b):leL s (YL s a' b') (YL s a b):=by
 have t:=GSys.sys_of hs
 intro i hi
 have hi':i < c:=by rw [(ha'.sum t hb').1] at hi;exact hi
 simp only [YL]
 rw [ZfN ha'.1 hb'.1 hi',ZfN ha.1 hb.1 hi']
 exact (GSys.laws hs).pl2 t (ha'.at hi') (hb'.at hi') (ha.at hi') (hb.at hi') (h1 i (by rw [ha'.1];exact hi')) (h2 i (by rw [hb'.1];exact hi'))
theorem leL_join {s:GSys} (hs:s.sys=true) {c:Nat} {a a' b b':List Int} (ha:Gd s c a) (ha':Gd s c a') (hb:Gd s c b) (hb':Gd s c b') (h1:leL s a' a) (h2:leL s b' b):leL s (Yl s a' b') (Yl s a b):=by
 intro i hi
 have hi':i < c:=by rw [(ha'.join hs hb').1] at hi;exact hi
 simp only [Yl]
 rw [ZfN ha'.1 hb'.1 hi',ZfN ha.1 hb.1 hi']
 exact (GSys.laws hs).jn2 hs (ha'.at hi') (hb'.at hi') (ha.at hi') (hb.at hi') (h1 i (by rw [ha'.1];exact hi')) (h2 i (by rw [hb'.1];exact hi'))
theorem Zrc {s:GSys} (hs:s.sys=true) {c:Nat} {g:Int} (hg:s.G g) {a a':List Int} (ha:Gd s c a) (ha':Gd s c a') (h1:leL s a' a):leL s (Wa s g a') (Wa s g a):=by
 intro i hi
 have hi':i < c:=by simp [Wa,ha'.1] at hi;exact hi
 simp only [Wa]
 rw [Zok (by rw [ha'.1];exact hi'),Zok (by rw [ha.1];exact hi')]
 exact (GSys.laws hs).tm_ml _ _ g (ha'.at hi') (ha.at hi') hg (h1 i (by rw [ha'.1];exact hi'))
section
variable {s:GSys} (hs:s.sys=true) {P:List Int→List Int→Prop} {c c' k:Nat} (cl:PCl s P c c')
include hs cl
theorem QR.zero:QR s P c c' k (zeros (k+c)) (zeros (k+c')):=by
 have t:=GSys.sys_of hs
 refine ⟨Gd.zeros t _,Gd.zeros t _,fun i hi=>?_,?_⟩
 ·have hk:i < k:=by simp [zeros] at hi;exact hi
  simp only [zeros,List.take_replicate]
  rw [show min k (k+c')=k by omega,show min k (k+c)=k by omega]
  have:(List.replicate k (0:Int)).getD i 0=0:=by simp [List.getD_eq_getElem?_getD,hk]
  rw [this]
  exact (GSys.laws hs).refl 0 (GSys.G0 t)
 ·simp only [zeros,List.drop_replicate]
  rw [show k+c - k=c by omega,show k+c' - k=c' by omega]
  exact cl.zero
theorem QR.sum {a a' b b':List Int} (h1:QR s P c c' k a a') (h2:QR s P c c' k b b'):QR s P c c' k (YL s a b) (YL s a' b'):=by
 have t:=GSys.sys_of hs
 refine ⟨h1.g.sum t h2.g,h1.g'.sum t h2.g',?_,?_⟩
 ·simp only [YL,List.take_zipWith]
  exact leL_sum hs h1.g.take h1.g'.take h2.g.take h2.g'.take h1.le h2.le
 ·simp only [YL,List.drop_zipWith]
  exact cl.sum _ _ _ _ h1.g.drop h1.g'.drop h2.g.drop h2.g'.drop h1.p h2.p
theorem QR.join {a a' b b':List Int} (h1:QR s P c c' k a a') (h2:QR s P c c' k b b'):QR s P c c' k (Yl s a b) (Yl s a' b'):=by
 refine ⟨h1.g.join hs h2.g,h1.g'.join hs h2.g',?_,?_⟩
 ·simp only [Yl,List.take_zipWith]
  exact leL_join hs h1.g.take h1.g'.take h2.g.take h2.g'.take h1.le h2.le
 ·simp only [Yl,List.drop_zipWith]
  exact cl.join _ _ _ _ h1.g.drop h1.g'.drop h2.g.drop h2.g'.drop h1.p h2.p
theorem QR.scale {g:Int} (hg:s.G g) {a a':List Int} (h1:QR s P c c' k a a'):QR s P c c' k (Wa s g a) (Wa s g a'):=by
 have t:=GSys.sys_of hs
 refine ⟨h1.g.scale t g,h1.g'.scale t g,?_,?_⟩
 ·simp only [Wa,← List.map_take]
  exact Zrc hs hg h1.g.take h1.g'.take h1.le
 ·simp only [Wa,← List.map_drop]
  exact cl.scale g _ _ hg h1.g.drop h1.g'.drop h1.p
end
theorem QR.less {s:GSys} {P:List Int→List Int→Prop} {c c' k j:Nat} {a a':List Int} (h:QR s P c c' (j+k) a a'):QR s P c c' k (a.drop j) (a'.drop j):=by
 refine ⟨(show Gd s (j+(k+c)) a by rw [← Nat.add_assoc];exact h.g).drop,(show Gd s (j+(k+c')) a' by rw [← Nat.add_assoc];exact h.g').drop,fun i hi=>?_,by rw [List.drop_drop,List.drop_drop];exact h.p⟩
 have e:∀ (l:List Int),i < k→((l.drop j).take k).getD i 0=(l.take (j+k)).getD (j+i) 0:=fun l hik=>by
  simp [List.getD_eq_getElem?_getD,List.getElem?_take,List.getElem?_drop,hik]
 have hik:i < k:=by simp at hi;omega
 rw [e a' hik,e a hik]
 exact h.le (j+i) (by have:=h.g'.1;simp;omega)
theorem QR.used {s:GSys} (hs:s.sys=true) {P:List Int→List Int→Prop} {c c' k j:Nat} {a a':List Int} (h:QR s P c c' (j+k) a a') {g:Int} (hg:s.G g) (hu:Wn s (a.take j) g=true):Wn s (a'.take j) g=true:=by
 unfold Wn at hu ⊢
 rw [List.all_eq_true] at hu ⊢
 intro u hu'
 obtain ⟨i,hi,rfl⟩:=List.getElem_of_mem hu'
 have l1:=h.g.1
 have l2:=h.g'.1
 have hij:i < j:=by simp at hi;omega
 have e1:(a'.take j)[i]=a'.getD i 0:=by simp [List.getD_eq_getElem?_getD,show i < a'.length by omega]
 have hle:=h.le i (by simp;omega)
 have e2:∀ l:List Int,(l.take (j+k)).getD i 0=l.getD i 0:=fun l=>by simp [List.getD_eq_getElem?_getD,List.getElem?_take,show i < j+k by omega]
 rw [e2,e2] at hle
 rw [e1]
 have hg2:=hu (a.getD i 0) (by
  rw [List.getD_eq_getElem?_getD,List.getElem?_eq_getElem (by omega),Option.getD_some]
  rw [List.mem_iff_getElem]
  exact ⟨i,by simp;omega,by simp⟩)
 exact (GSys.laws hs).trans _ _ _ (h.g'.at (by omega)) (h.g.at (by omega)) hg hle hg2
structure KRel (s:GSys) (P:List Int→List Int→Prop) (c c':Nat) (op:Int) (k:Nat) (l l':List TT):Prop where
 len:l'.length=l.length
 each:∀ (i:Nat) (x x':TT),l[i]?=some x→l'[i]?=some x'→x'.ty=x.ty∧QR s P c c' ((Qy op i).toNat+k) x.needs x'.needs
theorem KRel.ty {s:GSys} {P:List Int→List Int→Prop} {c c' k:Nat} {op:Int} {l l':List TT} (h:KRel s P c c' op k l l') (i:Nat):tyP l' i=tyP l i:=by
 unfold tyP
 by_cases hi:i < l.length
 ·have hi':i < l'.length:=by rw [h.len];exact hi
  have:=(h.each i l[i] l'[i] (List.getElem?_eq_getElem hi) (List.getElem?_eq_getElem hi')).1
  simpa [List.getD_eq_getElem?_getD,hi,hi'] using this
 ·simp [List.getD_eq_getElem?_getD,List.getElem?_eq_none (show l.length≤i by omega),List.getElem?_eq_none (show l'.length≤i by rw [h.len];omega)]
theorem KRel.at {s:GSys} {P:List Int→List Int→Prop} {c c' k:Nat} {op:Int} {l l':List TT} (h:KRel s P c c' op k l l') (i:Nat) (hi:i < l.length):QR s P c c' ((Qy op i).toNat+k) (l.getD i (.mk [] [] [])).needs (l'.getD i (.mk [] [] [])).needs:=by
 have hi':i < l'.length:=by rw [h.len];exact hi
 have:=(h.each i l[i] l'[i] (List.getElem?_eq_getElem hi) (List.getElem?_eq_getElem hi')).2
 simpa [List.getD_eq_getElem?_getD,hi,hi'] using this
theorem KRel.nd {s:GSys} {P:List Int→List Int→Prop} {c c' k:Nat} {op:Int} {l l':List TT} (h:KRel s P c c' op k l l') (i:Nat) (hi:i < l.length):QR s P c c' k (ndP op l i) (ndP op l' i):=by
 unfold ndP
 exact (h.at i hi).less
theorem KRel.us {s:GSys} (hs:s.sys=true) {P:List Int→List Int→Prop} {c c' k:Nat} {op:Int} {l l':List TT} (h:KRel s P c c' op k l l') (i:Nat) (hi:i < l.length) {g:Int} (hg:s.G g) (hu:Wn s (usP op l i) g=true):Wn s (usP op l' i) g=true:=by
 unfold usP at hu ⊢
 exact (h.at i hi).used hs hg hu
theorem KRel.snoc {s:GSys} {P:List Int→List Int→Prop} {c c' k:Nat} {op:Int} {l l':List TT} (h:KRel s P c c' op k l l') {x x':TT} (h1:x'.ty=x.ty) (h2:QR s P c c' ((Qy op l.length).toNat+k) x.needs x'.needs):KRel s P c c' op k (l++[x]) (l'++[x']):=by
 refine ⟨by simp [h.len],fun i y y' hy hy'=>?_⟩
 have hl:=h.len
 rcases Nat.lt_trichotomy i l.length with g | g | g
 ·rw [List.getElem?_append_left g] at hy
  rw [List.getElem?_append_left (by omega)] at hy'
  exact h.each i y y' hy hy'
 ·subst g
  rw [List.getElem?_append_right (Nat.le_refl _)] at hy
  rw [List.getElem?_append_right (by omega),hl] at hy'
  simp at hy hy'
  subst hy;subst hy'
  exact ⟨h1,h2⟩
 ·rw [List.getElem?_append_right (by omega),List.getElem?_eq_none (by simp;omega)] at hy;simp at hy
section
variable {s:GSys} (hs:s.sys=true) {P:List Int→List Int→Prop} {ctx ctx':List (List Int)} (cl:PCl s P ctx.length ctx'.length)
include hs cl
variable (σ:Nat→Int→GTerm) (hc:∀ l∈ctx,okL s.size l=true)
 (hσ:∀ (ds:List (List Int)) (n:Int),(∀ l∈ds,okL s.size l=true)→0≤n→n < ds.length+ctx.length →
  ∃ y,Qr s (ds++ctx') (σ ds.length n)=.ok y∧y.ty=(ds++ctx).getD n.toNat []∧QR s P ctx.length ctx'.length ds.length ((zeros (ds.length+ctx.length)).set n.toNat 1) y.needs)
include hc hσ
end
structure PC where
 b:Int
 k:Int
 t:GTerm
 e:List Nat
inductive LR where
 | stuck
 | fail
 | ok (l:Nat) (σ:List PC) (v:GTerm) (e:List Nat)
def LR.bind:LR→(Nat→List PC→GTerm→List Nat→LR)→LR
 | .ok l σ v e,f=>f l σ v e
 | .stuck,_=>.stuck
 | .fail,_=>.fail
def JV (n:Int):GTerm:=.mk 1 n true [] true []
def GTerm.num:GTerm→Int
 | .mk _ n _ _ _ _=>n
def GTerm.opc:GTerm→Int
 | .mk op _ _ _ _ _=>op
def GTerm.kid (i:Nat):GTerm→GTerm
 | .mk _ _ _ _ _ ks=>ks.getD i (JV 0)
def GTerm.kidn:GTerm→Nat
 | .mk _ _ _ _ _ ks=>ks.length
def GSys.has (s:GSys) (a:Int):Bool:=decide (0≤a∧a < s.size)
def XA (s:GSys) (f:Nat→List PC→GTerm→List Nat→Int→LR) (l:Nat) (σ:List PC) (t:GTerm) (env:List Nat) (q:Int):LR :=
 if t.opc=0 then
  if 0≤t.num∧t.num.toNat < env.length then match σ[env.getD t.num.toNat 0]? with
   | none=>.stuck
   | some c=>f l (σ.set (env.getD t.num.toNat 0) { c with k:=s.pl c.k q }) c.t c.e q
  else .stuck
 else if t.opc=2 then
  if t.kidn=2 then (f l σ (t.kid 0) env q).bind fun l1 σ1 a _=>if 0≤a.num∧a.num≤2 then (f l1 σ1 (t.kid 1) env q).bind fun l2 σ2 b _=>if 0≤b.num∧b.num≤2 then .ok l2 σ2 (JV ((a.num+b.num) % 3)) [] else .stuck else .stuck else .stuck
 else if t.opc=3 then
  if t.kidn=3 then (f l σ (t.kid 0) env q).bind fun l1 σ1 a _=>if a.num=0 then f l1 σ1 (t.kid 1) env q else f l1 σ1 (t.kid 2) env q else .stuck
 else if t.opc=10 then
  if t.kidn=2 then (f l σ (t.kid 0) env q).bind fun l1 σ1 a e=>if a.kidn=1∧s.has a.num=true then f l1 (σ1++[⟨s.tm q a.num,0,t.kid 1,env⟩]) (a.kid 0) (σ1.length::e) q else .stuck else .stuck
 else if t.opc=5 then
  if t.kidn=2∧s.has t.num=true then (f l σ (t.kid 0) env (s.tm q t.num)).bind fun l1 σ1 a e =>
   if a.kidn=2 then f l1 (σ1++[⟨s.tm q t.num,0,a.kid 0,e⟩,⟨s.tm q t.num,0,a.kid 1,e⟩]) (t.kid 1) ((σ1.length+1)::σ1.length::env) q else .stuck else .stuck
 else if t.opc=8 then
  if t.kidn=3∧s.has t.num=true then (f l σ (t.kid 0) env (s.tm q t.num)).bind fun l1 σ1 a e =>
   if a.kidn=1∧(a.opc=6∨a.opc=7) then f l1 (σ1++[⟨s.tm q t.num,0,a.kid 0,e⟩]) (if a.opc=7 then t.kid 2 else t.kid 1) (σ1.length::env) q else .stuck else .stuck
 else if t.opc=12 then
  if t.kidn=2∧s.has t.num=true then (f l σ (t.kid 0) env (s.tm q t.num)).bind fun l1 σ1 a e =>
   if a.kidn=1∧s.has a.num=true then f l1 (σ1++[⟨s.tm (s.tm q t.num) a.num,0,a.kid 0,e⟩]) (t.kid 1) (σ1.length::env) q else .stuck else .stuck
 else if t.opc=1∨t.opc=4∨t.opc=6∨t.opc=7∨t.opc=9∨t.opc=11 then .ok l σ t env
 else .stuck
def Q4 (s:GSys):Nat→Nat→List PC→GTerm→List Nat→Int→LR
 | 0,_,_,_,_,_=>.fail
 | d+1,l,σ,t,env,q=>if 3000≤l then .fail else XA s (Q4 s d) (l+1) σ t env q
inductive TTold where
 | stuck
 | fail
 | ok (l:Nat) (σ:List PC) (v:GTerm)
inductive KTold where
 | stuck
 | fail
 | ok (l:Nat) (σ:List PC) (vs:List GTerm)
def XW (f:Nat→List PC→GTerm→TTold):List GTerm→Nat→List PC→List GTerm→KTold
 | [],l,σ,acc=>.ok l σ acc
 | k::ks,l,σ,acc=>match f l σ k with
  | .stuck=>.stuck
  | .fail=>.fail
  | .ok l1 σ1 v=>XW f ks l1 σ1 (acc++[v])
def okV (s:GSys) (op n:Int) (nl1:Bool) (ty:List Int) (k:Nat):Bool:=(!decide (op=11) || s.has n) && (decide (k≤3) && (decide (ty.length≤40) && (!nl1 || ty.isEmpty)))
def Xk (s:GSys):Nat→Nat→List PC→GTerm→List Nat→Int→TTold
 | 0,_,_,_,_,_=>.fail
 | d+1,l,σ,t,env,q=>match Q4 s (d+1) l σ t env q with
  | .stuck=>.stuck
  | .fail=>.fail
  | .ok l1 σ1 (.mk op n nl1 ty nl2 ks) e=>if okV s op n nl1 ty ks.length=false then .stuck else
   match XW (fun l σ k=>Xk s d l σ k e (if op=11 then s.tm q n else q)) ks l1 σ1 [] with
   | .stuck=>.stuck
   | .fail=>.fail
   | .ok l2 σ2 vs=>.ok l2 σ2 (.mk op n nl1 ty true vs)
theorem ZqJ:∀ (ks:List GTerm) (i:Nat) (hi:i < ks.length),wfs ks→(ks[i]).wf
 | k::ks,0,_,h=>by simp only [wfs] at h;exact h.1
 | k::ks,i+1,hi,h=>by simp only [wfs] at h;exact ZqJ ks i (by simpa using hi) h.2
structure Of (s:GSys) (cx:List (List Int)) (t:GTerm) (τ:List Int):Prop where
 fm:Zk cx.length s.size true t=true
 tl:∃ x,Qr s cx t=.ok x∧x.ty=τ
 wf:t.wf
 fl:t.fl
section
variable {s:GSys} {cx:List (List Int)} {n:Int} {nl1 nl2:Bool} {ty τ:List Int} {ks:List GTerm} {op:Int}
theorem ZnT (op:Int) (ty f g:List Int):Qx op ty 0 f=Qx op ty 0 g:=by
 unfold Qx Qy
 split
 ·rfl
 ·simp_all
theorem ZoA:∀ (ks:List GTerm) (ds ds':List TT),Wf s cx op n ty ds ks=.ok ds'→(∃ l,ds'=ds++l∧l.length=ks.length)∧∀ (i:Nat) (hi:i < ks.length),Qr s (Qx op ty (ds.length+i) (first ds')++cx) ks[i]=.ok (ds'.getD (ds.length+i) (.mk [] [] []))
 | [],ds,ds',h=>by
  simp only [Wf,KRes.ok.injEq] at h
  subst h
  exact ⟨⟨[],by simp⟩,fun i hi=>by simp at hi⟩
 | k::ks,ds,ds',h=>by
  rw [Wf] at h
  split at h
  ·simp at h
  ·rename_i x hx
   split at h
   ·simp at h
   ·split at h
    ·simp at h
    ·obtain ⟨⟨l,h1,h2⟩,h3⟩:=ZoA ks (ds++[x]) ds' h
     refine ⟨⟨x::l,by rw [h1];simp,by simp [h2]⟩,fun i hi=>?_⟩
     cases i with
     | zero =>
      have e1:ds'.getD ds.length (.mk [] [] [])=x:=by rw [h1];simp [List.getD_eq_getElem?_getD]
      simp only [Nat.add_zero,List.getElem_cons_zero,e1]
      rw [← hx]
      congr 2
      cases ds with
      | nil=>exact ZnT _ _ _ _
      | cons y ds=>rw [h1];simp [first,tyP]
     | succ i =>
      have:=h3 i (by simpa using hi)
      rw [List.length_append,List.length_singleton] at this
      rw [show ds.length+(i+1)=ds.length+1+i by omega]
      simpa using this
theorem Of.inv (hs:s.sys=true) (hc:∀ l∈cx,okL s.size l=true) (h:Of s cx (.mk op n nl1 ty nl2 ks) τ):∃ ds:List TT,ds.length=ks.length∧NodeOk s cx.length op n ty ks.length∧KidsOk s cx.length op n ds ∧
  (∀ (i:Nat) (hi:i < ks.length),Of s (Qx op ty i (first ds)++cx) ks[i] (tyP ds i))∧(QZ s cx op n ty ds).1=0∧τ=(QZ s cx op n ty ds).2.1∧∀ (i:Nat) (hi:i < ks.length),∀ l∈Qx op ty i (first ds),okL s.size l=true:=by
 obtain ⟨x,h1,rfl⟩:=h.tl
 have hf:=h.fm
 simp only [Zk,Bool.and_eq_true] at hf
 have nd:=ZdO hf.1
 have h2:=h.wf
 have h3:=h.fl
 simp only [GTerm.wf] at h2
 simp only [GTerm.fl] at h3
 rw [Qr] at h1
 split at h1
 ·simp at h1
 ·rename_i ds hd
  split at h1
  ·rename_i h0
   simp only [Res.ok.injEq] at h1
   subst h1
   have h9:op=9→okL s.size ty=true:=fun h9=>nd.typed (by subst h9;simp [XC,Qc])
   obtain ⟨k,hl⟩:=ZeJ (GSys.sys_of hs) ks cx op n ty [] ds hc h9 (by simpa using hf.2) ⟨fun i x h=>by simp at h,fun _ x h=>by simp at h⟩ hd
   have hl':ds.length=ks.length:=by simpa using hl
   obtain ⟨_,ha⟩:=ZoA ks [] ds hd
   refine ⟨ds,hl',nd,k,fun i hi=>⟨?_,⟨_,by simpa using ha i hi,rfl⟩,ZqJ ks i hi h2.2.2.2.2,Zas.1 h3.2 _ (List.getElem_mem hi)⟩,h0,rfl,fun i hi=>?_⟩
   ·have:=ZfU hf.2 i hi
    rw [List.length_append,Zbf]
    have r:=K3 op i
    rw [show (((Qy op i).toNat+cx.length:Nat):Int)=cx.length+Qy op i by omega]
    simpa using this
   ·exact ZiE h9 fun _=>by
     have:=k.first (by intro e;rw [e,List.length_nil] at hl';omega)
     exact ⟨this.1,this.2.1⟩
  ·simp at h1
theorem Of.numv (hs:s.sys=true) (hc:∀ l∈cx,okL s.size l=true) (h:Of s cx (.mk 1 n nl1 ty nl2 ks) τ):τ=[0]∧0≤n∧n≤2∧ks=[]:=by
 obtain ⟨ds,h1,nd,h2,h3,h4,h5,_⟩:=h.inv hs hc
 have hk:=nd.many
 obtain rfl:ks=[]:=List.eq_nil_of_length_eq_zero (by simp only [Xp] at hk;simpa using hk)
 have:=h.fm
 simp [Zk,Z9,Zeq,numB,eqB,Wv] at this
 exact ⟨by rw [h5];simp [QZ],by omega,by omega,rfl⟩
theorem Of.okL (hs:s.sys=true) (hc:∀ l∈cx,okL s.size l=true) {t:GTerm} (h:Of s cx t τ):okL s.size τ=true:=by
 obtain ⟨x,h1,rfl⟩:=h.tl
 exact (V6 (GSys.sys_of hs) t cx x hc h.fm h1).1
end
def ZnP (t:GTerm):Prop:=t.opc=1∨t.opc=4∨t.opc=6∨t.opc=7∨t.opc=9∨t.opc=11
theorem ZcW {s:GSys} (hs:s.sys=true) {cx:List (List Int)} (hc:∀ l∈cx,okL s.size l=true) {t:GTerm} {τ:List Int} (h:Of s cx t τ) (hv:ZnP t) :
  (hd τ=0→t.opc=1)∧(hd τ=1→t.opc=4)∧(hd τ=2→t.opc=6∨t.opc=7)∧(QW (hd τ)=true→t.opc=9)∧(WW (hd τ)=true→t.opc=11):=by
 obtain ⟨op,n,nl1,ty,nl2,ks⟩:=t
 obtain ⟨ds,h1,nd,h2,h3,h4,rfl,_⟩:=h.inv hs hc
 have h16:=(GSys.sys_of hs).hi
 simp only [ZnP,GTerm.opc] at hv ⊢
 rcases hv with rfl | rfl | rfl | rfl | rfl | rfl
 ·simp [QZ,QW,WW]
 ·have:=(Yj (ty:=1::(tyP ds 0++tyP ds 1)) (nd:=YL s (ndP 4 ds 0) (ndP 4 ds 1)) (by simpa [QZ] using h4)).2.1
  simp [QZ,this,QW,WW]
 ·have:=(Yj (ty:=2::(tyP ds 0++ty)) (nd:=ndP 6 ds 0) (by simpa [QZ] using h4)).2.1
  simp [QZ,this,QW,WW]
 ·have:=(Yj (ty:=2::(ty++tyP ds 0)) (nd:=ndP 7 ds 0) (by simpa [QZ] using h4)).2.1
  simp [QZ,this,QW,WW]
 ·have g:=nd.grade (by simp [Yd,Qc])
  obtain ⟨g0,g1⟩:=g
  by_cases u:Wn s (usP 9 ds 0) n=true
  ·have:=(Yj (ty:=(3+n)::(ty++tyP ds 0)) (nd:=ndP 9 ds 0) (by simpa [QZ,u] using h4)).2.1
   have hb:WW (3+n)=false:=by rw [← Bool.not_eq_true,V0];omega
   simp [QZ,u,this,hb]
   omega
  ·simp [QZ,u] at h4
 ·have g:=nd.grade (by simp [Yd,Qc])
  obtain ⟨g0,g1⟩:=g
  have:=(Yj (ty:=(19+n)::tyP ds 0) (nd:=Wa s n (ndP 11 ds 0)) (by simpa [QZ] using h4)).2.1
  have hb:QW (19+n)=false:=by rw [← Bool.not_eq_true,Zm];omega
  simp [QZ,this,hb]
  omega
section
variable {s:GSys} (hs:s.sys=true) {cx:List (List Int)} (hc:∀ l∈cx,okL s.size l=true) {t:GTerm} {τ:List Int} (h:Of s cx t τ) (hv:ZnP t)
include hs hc h hv
theorem val_fun (ha:QW (hd τ)=true):∃ n nl1 ty nl2 b,t=.mk 9 n nl1 ty nl2 [b]∧s.G n∧ty=QJ τ∧okL s.size ty=true∧Of s (ty::cx) b (Wj τ):=by
 have ho:=(ZcW hs hc h hv).2.2.2.1 ha
 obtain ⟨op,n,nl1,ty,nl2,ks⟩:=t
 simp only [GTerm.opc] at ho
 subst ho
 obtain ⟨ds,h1,nd,h2,h3,h4,h5,_⟩:=h.inv hs hc
 have hm:=nd.many
 match ks,ds,(show ks.length=1 by simp [Xp] at hm;omega),(show ds.length=1 by simp [Xp] at hm;omega) with
 | [b],[x],_,_ =>
 have k0:=h3 0 (by simp)
 simp [Qx,tyP] at k0
 have hty:=nd.typed (by simp [XC,Qc])
 by_cases u:Wn s (usP 9 [x] 0) n=true
 ·have e:=(Yj (ty:=(3+n)::(ty++tyP [x] 0)) (nd:=ndP 9 [x] 0) (by simpa [QZ,u] using h4)).2.1
  have e':τ=(3+n)::(ty++x.ty):=by rw [h5];simpa [QZ,u,tyP] using e
  refine ⟨n,nl1,ty,nl2,b,rfl,nd.grade (by simp [Yd,Qc]),?_,hty,?_⟩
  ·rw [e',Zbr (YA hty)]
  ·rw [e',ZdC (YA hty)];exact k0
 ·simp [QZ,u] at h4
theorem Zjh (ha:hd τ=1):∃ n nl1 ty nl2 a b,t=.mk 4 n nl1 ty nl2 [a,b]∧Of s cx a (QJ τ)∧Of s cx b (Wj τ):=by
 have ho:=(ZcW hs hc h hv).2.1 ha
 obtain ⟨op,n,nl1,ty,nl2,ks⟩:=t
 simp only [GTerm.opc] at ho
 subst ho
 obtain ⟨ds,h1,nd,h2,h3,h4,h5,_⟩:=h.inv hs hc
 have hm:=nd.many
 match ks,ds,(show ks.length=2 by simp [Xp] at hm;omega),(show ds.length=2 by simp [Xp] at hm;omega) with
 | [a,b],[x,y],_,_ =>
 have k0:=h3 0 (by simp)
 have k1:=h3 1 (by simp)
 simp [Qx,Qy,tyP] at k0 k1
 have e:=(Yj (ty:=1::(tyP [x,y] 0++tyP [x,y] 1)) (nd:=YL s (ndP 4 [x,y] 0) (ndP 4 [x,y] 1)) (by simpa [QZ] using h4)).2.1
 have e':τ=1::(x.ty++y.ty):=by rw [h5];simpa [QZ,tyP] using e
 have ox:=k0.okL hs hc
 refine ⟨n,nl1,ty,nl2,a,b,rfl,?_,?_⟩
 ·rw [e',Zbr (YA ox)];exact k0
 ·rw [e',ZdC (YA ox)];exact k1
theorem ZmR (ha:hd τ=2):∃ op n nl1 ty nl2 a,t=.mk op n nl1 ty nl2 [a]∧(op=6∧Of s cx a (QJ τ)∨op=7∧Of s cx a (Wj τ)):=by
 have ho:=(ZcW hs hc h hv).2.2.1 ha
 obtain ⟨op,n,nl1,ty,nl2,ks⟩:=t
 simp only [GTerm.opc] at ho
 rcases ho with rfl | rfl
 ·obtain ⟨ds,h1,nd,h2,h3,h4,h5,_⟩:=h.inv hs hc
  have hm:=nd.many
  match ks,ds,(show ks.length=1 by simp [Xp] at hm;omega),(show ds.length=1 by simp [Xp] at hm;omega) with
  | [a],[x],_,_ =>
  have k0:=h3 0 (by simp)
  simp [Qx,Qy,tyP] at k0
  have e:=(Yj (ty:=2::(tyP [x] 0++ty)) (nd:=ndP 6 [x] 0) (by simpa [QZ] using h4)).2.1
  have e':τ=2::(x.ty++ty):=by rw [h5];simpa [QZ,tyP] using e
  refine ⟨6,n,nl1,ty,nl2,a,rfl,.inl ⟨rfl,?_⟩⟩
  rw [e',Zbr (YA (k0.okL hs hc))];exact k0
 ·obtain ⟨ds,h1,nd,h2,h3,h4,h5,_⟩:=h.inv hs hc
  have hm:=nd.many
  match ks,ds,(show ks.length=1 by simp [Xp] at hm;omega),(show ds.length=1 by simp [Xp] at hm;omega) with
  | [a],[x],_,_ =>
  have k0:=h3 0 (by simp)
  simp [Qx,Qy,tyP] at k0
  have hty:=nd.typed (by simp [XC,Qc])
  have e:=(Yj (ty:=2::(ty++tyP [x] 0)) (nd:=ndP 7 [x] 0) (by simpa [QZ] using h4)).2.1
  have e':τ=2::(ty++x.ty):=by rw [h5];simpa [QZ,tyP] using e
  refine ⟨7,n,nl1,ty,nl2,a,rfl,.inr ⟨rfl,?_⟩⟩
  rw [e',ZdC (YA hty)];exact k0
theorem ZmW (ha:WW (hd τ)=true):∃ n nl1 ty nl2 a,t=.mk 11 n nl1 ty nl2 [a]∧s.G n∧Of s cx a (QJ τ):=by
 have ho:=(ZcW hs hc h hv).2.2.2.2 ha
 obtain ⟨op,n,nl1,ty,nl2,ks⟩:=t
 simp only [GTerm.opc] at ho
 subst ho
 obtain ⟨ds,h1,nd,h2,h3,h4,h5,_⟩:=h.inv hs hc
 have hm:=nd.many
 match ks,ds,(show ks.length=1 by simp [Xp] at hm;omega),(show ds.length=1 by simp [Xp] at hm;omega) with
 | [a],[x],_,_ =>
 have k0:=h3 0 (by simp)
 simp [Qx,Qy,tyP] at k0
 have e:=(Yj (ty:=(19+n)::tyP [x] 0) (nd:=Wa s n (ndP 11 [x] 0)) (by simpa [QZ] using h4)).2.1
 have e':τ=(19+n)::x.ty:=by rw [h5];simpa [QZ,tyP] using e
 refine ⟨n,nl1,ty,nl2,a,rfl,nd.grade (by simp [Yd,Qc]),?_⟩
 rw [e',Zrf (YA (k0.okL hs hc))];exact k0
end
structure HT (s:GSys) (Γ:List (List Int)) (t:GTerm) (e:List Nat) (τ:List Int):Prop where
 eb:∀ j∈e,j < Γ.length
 of:Of s (e.map fun j=>Γ.getD j []) t τ
structure WT (s:GSys) (Γ:List (List Int)) (σ:List PC):Prop where
 len:σ.length=Γ.length
 ty:∀ l∈Γ,okL s.size l=true
 cell:∀ (j:Nat) (c:PC),σ[j]?=some c→HT s Γ c.t c.e (Γ.getD j [])∧s.G c.k∧s.G c.b
section
variable {s:GSys} {Γ:List (List Int)} {σ:List PC} {t:GTerm} {e:List Nat} {τ:List Int}
theorem ZbB (Δ:List (List Int)) (he:∀ j∈e,j < Γ.length):(e.map fun j=>(Γ++Δ).getD j [])=e.map fun j=>Γ.getD j []:=by
 refine List.map_congr_left fun j hj=>?_
 rw [List.getD_eq_getElem?_getD,List.getElem?_append_left (he j hj),← List.getD_eq_getElem?_getD]
theorem HT.more (h:HT s Γ t e τ) (Δ:List (List Int)):HT s (Γ++Δ) t e τ:=by
 refine ⟨fun j hj=>by have:=h.eb j hj;simp;omega,?_⟩
 rw [ZbB Δ h.eb];exact h.of
theorem WT.cx (w:WT s Γ σ) (h:∀ j∈e,j < Γ.length):∀ l∈e.map fun j=>Γ.getD j [],okL s.size l=true:=by
 intro l hl
 obtain ⟨j,hj,rfl⟩:=List.mem_map.1 hl
 have:=h j hj
 rw [List.getD_eq_getElem?_getD,List.getElem?_eq_getElem this]
 exact w.ty _ (List.getElem_mem _)
theorem WT.snoc (w:WT s Γ σ) {c:PC} (hl:okL s.size τ=true) (h:HT s Γ c.t c.e τ) (hk:s.G c.k) (hb:s.G c.b):WT s (Γ++[τ]) (σ++[c]):=by
 refine ⟨by simp [w.len],fun l hl'=>?_,fun j c' hj=>?_⟩
 ·simp only [List.mem_append,List.mem_singleton] at hl'
  rcases hl' with h | rfl
  ·exact w.ty l h
  ·exact hl
 ·rcases Nat.lt_trichotomy j σ.length with g | rfl | g
  ·rw [List.getElem?_append_left g] at hj
   obtain ⟨h1,h2⟩:=w.cell j c' hj
   refine ⟨?_,h2⟩
   rw [List.getD_eq_getElem?_getD,List.getElem?_append_left (by rw [← w.len];exact g),← List.getD_eq_getElem?_getD]
   exact h1.more _
  ·simp at hj;subst hj
   refine ⟨?_,hk,hb⟩
   rw [w.len]
   simpa [List.getD_eq_getElem?_getD] using h.more [τ]
  ·rw [List.getElem?_eq_none (by simp;omega)] at hj;simp at hj
theorem WT.book (w:WT s Γ σ) {j:Nat} {c:PC} (hj:σ[j]?=some c) {k:Int} (hk:s.G k):WT s Γ (σ.set j { c with k:=k }):=by
 refine ⟨by simp [w.len],w.ty,fun i c' hi=>?_⟩
 by_cases e:i=j
 ·subst e
  rw [List.getElem?_set_self (by rcases Nat.lt_or_ge i σ.length with g | g;exact g;rw [List.getElem?_eq_none g] at hj;simp at hj)] at hi
  simp only [Option.some.injEq] at hi
  subst hi
  obtain ⟨h1,_,h3⟩:=w.cell i c hj
  exact ⟨h1,hk,h3⟩
 ·rw [List.getElem?_set_ne (fun h=>e h.symm)] at hi
  exact w.cell i c' hi
end
def Zaa (s:GSys) (Γ:List (List Int)) (l:Nat) (τ:List Int) (r:LR):Prop :=
 r=.fail∨∃ l' σ' v e' Δ,r=.ok l' σ' v e'∧l≤l'∧l'≤3000∧WT s (Γ++Δ) σ'∧HT s (Γ++Δ) v e' τ∧ZnP v
theorem Zaa.ok {s:GSys} {Γ:List (List Int)} {l:Nat} {τ:List Int} {r:LR} (h:Zaa s Γ l τ r) {f:Nat→List PC→GTerm→List Nat→LR} {τ':List Int}
  (hf:∀ l' σ' v e' Δ,l≤l'→l'≤3000→WT s (Γ++Δ) σ'→HT s (Γ++Δ) v e' τ→ZnP v→Zaa s (Γ++Δ) l' τ' (f l' σ' v e')):Zaa s Γ l τ' (r.bind f):=by
 rcases h with rfl | ⟨l',σ',v,e',Δ,rfl,h1,h2,h3,h4,h5⟩
 ·exact .inl rfl
 ·rcases hf l' σ' v e' Δ h1 h2 h3 h4 h5 with g | ⟨l2,σ2,v2,e2,Δ2,g1,g2,g3,g4,g5,g6⟩
  ·exact .inl g
  ·exact .inr ⟨l2,σ2,v2,e2,Δ++Δ2,g1,by omega,g3,by rw [← List.append_assoc];exact g4,by rw [← List.append_assoc];exact g5,g6⟩
theorem Zaa.more {s:GSys} {Γ Δ:List (List Int)} {l l0:Nat} {τ:List Int} {r:LR} (h:Zaa s (Γ++Δ) l τ r) (hl:l0≤l):Zaa s Γ l0 τ r:=by
 rcases h with g | ⟨l2,σ2,v2,e2,Δ2,g1,g2,g3,g4,g5,g6⟩
 ·exact .inl g
 ·exact .inr ⟨l2,σ2,v2,e2,Δ++Δ2,g1,by omega,g3,by rw [← List.append_assoc];exact g4,by rw [← List.append_assoc];exact g5,g6⟩
theorem of_numT {s:GSys} {cx:List (List Int)} (hs:s.sys=true) {n:Int} (h:0≤n∧n≤2):Of s cx (JV n) [0]:=by
 refine ⟨?_,⟨_,Zou,rfl⟩,?_,?_⟩
 ·simp only [JV,Zk,Z9,Zeq,numB,tyB]
  simp [Xp,XC,eqB,Wv]
  omega
 ·simp only [JV,GTerm.wf,wfs]
  exact ⟨by unfold I64;omega,by unfold I64;omega,by simp [Lok],by simp,trivial⟩
 ·simp only [JV,GTerm.fl,fls]
  exact ⟨by simp [flOk],trivial⟩
theorem HT.node {s:GSys} {Γ:List (List Int)} {e:List Nat} {t:GTerm} {τ:List Int} {xs:List (List Int)} {js:List Nat} {Δ:List (List Int)} (he:∀ j∈e,j < Γ.length) (h:Of s (xs++e.map fun j=>Γ.getD j []) t τ) (hj:js.map (fun j=>(Γ++Δ).getD j [])=xs) (hb:∀ j∈js,j < (Γ++Δ).length) :
  HT s (Γ++Δ) t (js++e) τ:=by
 refine ⟨fun j hj=>?_,?_⟩
 ·rcases List.mem_append.1 hj with g | g
  ·exact hb j g
  ·have:=he j g;simp;omega
 ·rw [List.map_append,hj,ZbB Δ he];exact h
theorem GSys.has_of {s:GSys} {a:Int} (h:s.G a):s.has a=true:=by
 unfold GSys.has GSys.G at *;simp [h]
theorem Zaa.lift {s:GSys} {Γ Δ:List (List Int)} {l l0:Nat} {τ τ':List Int} {r:LR} (h:Zaa s (Γ++Δ) l τ r) (hl:l0≤l) (e:τ=τ'):Zaa s Γ l0 τ' r:=e ▸ h.more hl
theorem Zaa.same {s:GSys} {Γ:List (List Int)} {l l0:Nat} {τ τ':List Int} {r:LR} (h:Zaa s Γ l τ r) (hl:l0≤l) (e:τ=τ'):Zaa s Γ l0 τ' r:=by
 rw [← List.append_nil Γ] at h
 exact h.lift hl e
theorem Zcm (Γ Δ:List (List Int)) (i:Nat):(Γ++Δ).getD (Γ.length+i) []=Δ.getD i []:=by
 simp [List.getD_eq_getElem?_getD,List.getElem?_append_right]
theorem Zlp {s:GSys} (hs:s.sys=true):∀ (d l:Nat) (σ:List PC) (t:GTerm) (env:List Nat) (q:Int) (Γ:List (List Int)) (τ:List Int),WT s Γ σ→HT s Γ t env τ→s.G q→Zaa s Γ (l+1) τ (Q4 s d l σ t env q):=by
 intro d
 induction d with
 | zero=>intro l σ t env q Γ τ w h hq;exact .inl rfl
 | succ d ih =>
  intro l σ t env q Γ τ w h hq
  rw [Q4]
  by_cases h3:3000≤l
  ·rw [if_pos h3];exact .inl rfl
  rw [if_neg h3]
  obtain ⟨op,n,nl1,ty,nl2,ks⟩:=t
  have hc:=w.cx h.eb
  obtain ⟨ds,h1,nd,k,hk,h4,h5,had⟩:=h.of.inv hs hc
  have ts:=GSys.sys_of hs
  have tmG:∀ a b,s.G (s.tm a b):=GSys.Gtm ts
  have o13:=nd.op13
  have G0:s.G 0:=GSys.G0 ts
  have gr:Yd op=true→s.has n=true:=fun g=>GSys.has_of (nd.grade g)
  have hm:=nd.many
  have hop:op=0∨op=1∨op=2∨op=3∨op=4∨op=5∨op=6∨op=7∨op=8∨op=9∨op=10∨op=11∨op=12:=by omega
  have val:(op=1∨op=4∨op=6∨op=7∨op=9∨op=11)→Zaa s Γ (l+1) τ (.ok (l+1) σ (.mk op n nl1 ty nl2 ks) env):=fun hv =>
   .inr ⟨_,_,_,_,[],rfl,Nat.le_refl _,by omega,by simpa using w,by simpa using h,hv⟩
  rcases hop with rfl | rfl | rfl | rfl | rfl | rfl | rfl | rfl | rfl | rfl | rfl | rfl | rfl
  ·obtain ⟨n0,n1⟩:=nd.var rfl
   have hn:n.toNat < env.length:=by simp at n1;omega
   have hj:env.getD n.toNat 0 < Γ.length:=h.eb _ (by rw [List.getD_eq_getElem?_getD,List.getElem?_eq_getElem hn];exact List.getElem_mem _)
   have hj':env.getD n.toNat 0 < σ.length:=by rw [w.len];exact hj
   have hcell:=List.getElem?_eq_getElem hj'
   have c0:0≤n∧n.toNat < env.length:=⟨n0,hn⟩
   simp only [XA,GTerm.opc,GTerm.num,if_true,if_pos c0,hcell]
   obtain ⟨q1,q2,q3⟩:=w.cell _ _ hcell
   refine (ih (l+1) _ _ _ _ _ _ (w.book hcell (GSys.Gpl ts _ q)) q1 hq).same (by omega) ?_
   rw [h5]
   simp [QZ,List.getD_eq_getElem?_getD,hn]
  ·simpa [XA,GTerm.opc] using val (by simp)
  ·match ks,ds,(show ks.length=2 by simp [Xp] at hm;omega),(show ds.length=2 by simp [Xp] at hm;omega) with
   | [a,b],[x,y],_,_ =>
   have k0:=hk 0 (by simp)
   have k1:=hk 1 (by simp)
   simp [Qx,Qy,tyP] at k0 k1
   have f0:=(k.first (by simp)).2.1.1 (.inl rfl)
   have g1:=k.each 1 y rfl
   have hy0:hd y.ty=0:=by
    have o:=Yn g1.1.1
    have:=g1.2
    simp [QT,Jo] at this
    exact (JQ o.2.1 o.2.2.1).1.1 this
   simp only [XA,GTerm.opc,GTerm.kidn,GTerm.kid]
   simp
   refine Zaa.ok (ih (l+1) _ _ _ _ _ _ w ⟨h.eb,k0⟩ hq) ?_ |>.same (by omega) rfl
   intro l1 σ1 v e1 Δ1 q1 q2 w1 t1 v1
   have o1:=(ZcW hs (w1.cx t1.eb) t1.of v1).1 (by simpa [first,tyP] using f0)
   obtain ⟨op1,n1,w1_,w2_,w3_,w4_⟩:=v
   simp only [GTerm.opc] at o1
   subst o1
   obtain ⟨_,r1,r2,_⟩:=t1.of.numv hs (w1.cx t1.eb)
   have c1:0≤(GTerm.mk 1 n1 w1_ w2_ w3_ w4_).num∧(GTerm.mk 1 n1 w1_ w2_ w3_ w4_).num≤2:=⟨r1,r2⟩
   rw [if_pos c1]
   refine Zaa.same (l:=l1+1) (Zaa.ok (ih l1 _ _ _ _ _ _ w1 (HT.more ⟨h.eb,k1⟩ Δ1) hq) ?_) (by omega) rfl
   intro l2 σ2 v e2 Δ2 q3 q4 w2 t2 v2
   have o2:=(ZcW hs (w2.cx t2.eb) t2.of v2).1 hy0
   obtain ⟨op2,n2,w5_,w6_,w7_,w8_⟩:=v
   simp only [GTerm.opc] at o2
   subst o2
   obtain ⟨_,r3,r4,_⟩:=t2.of.numv hs (w2.cx t2.eb)
   have c2:0≤(GTerm.mk 1 n2 w5_ w6_ w7_ w8_).num∧(GTerm.mk 1 n2 w5_ w6_ w7_ w8_).num≤2:=⟨r3,r4⟩
   rw [if_pos c2]
   refine .inr ⟨_,_,_,_,[],rfl,by omega,by omega,by simpa using w2,⟨by simp,?_⟩,.inl rfl⟩
   rw [h5]
   simp only [QZ]
   exact of_numT (cx:=[]) hs (n:=(n1+n2) % 3) (by omega)
  ·match ks,ds,(show ks.length=3 by simp [Xp] at hm;omega),(show ds.length=3 by simp [Xp] at hm;omega) with
   | [a,b,c],[x,y,z],_,_ =>
   have k0:=hk 0 (by simp)
   have k1:=hk 1 (by simp)
   have k2:=hk 2 (by simp)
   simp [Qx,Qy,tyP] at k0 k1 k2
   simp only [XA,GTerm.opc,GTerm.kidn,GTerm.kid]
   simp
   have e12:y.ty=z.ty:=by
    by_cases e:y.ty=z.ty
    ·exact e
    ·simp [QZ,tyP,e] at h4
   simp [QZ,tyP,e12] at h5
   refine Zaa.ok (ih (l+1) _ _ _ _ _ _ w ⟨h.eb,k0⟩ hq) ?_ |>.same (by omega) rfl
   intro l1 σ1 v e1 Δ1 q1 q2 w1 t1 v1
   split
   ·exact (ih l1 _ _ _ _ _ _ w1 (HT.more ⟨h.eb,k1⟩ Δ1) hq).same (by omega) (by rw [h5,e12])
   ·exact (ih l1 _ _ _ _ _ _ w1 (HT.more ⟨h.eb,k2⟩ Δ1) hq).same (by omega) (by rw [h5])
  ·simpa [XA,GTerm.opc] using val (by simp)
  ·match ks,ds,(show ks.length=2 by simp [Xp] at hm;omega),(show ds.length=2 by simp [Xp] at hm;omega) with
   | [a,b],[x,y],_,_ =>
   have k0:=hk 0 (by simp)
   have k1:=hk 1 (by simp)
   simp [Qx,Qy,tyP,first] at k0 k1
   have f0:hd x.ty=1:=by simpa [first,tyP] using (k.first (by simp)).2.1.2.1 rfl
   have gn:=nd.grade (by simp [Yd,Qc])
   have hn:=GSys.has_of gn
   have e5:τ=y.ty:=by
    rw [h5]
    by_cases u:Wn s (usP 5 [x,y] 1) n=true
    ·simp [QZ,u,tyP]
    ·simp [QZ,u] at h4
   simp only [XA,GTerm.opc,GTerm.kidn,GTerm.kid,GTerm.num]
   simp [hn]
   refine Zaa.ok (ih (l+1) _ _ _ _ _ _ w ⟨h.eb,k0⟩ (tmG q n)) ?_ |>.same (by omega) rfl
   intro l1 σ1 v e1 Δ1 q1 q2 w1 t1 v1
   obtain ⟨n1,_,ty1,_,u1,u2,rfl,o1,o2⟩:=Zjh hs (w1.cx t1.eb) t1.of v1 f0
   have ok1:=o1.okL hs (w1.cx t1.eb)
   have ok2:=o2.okL hs (w1.cx t1.eb)
   simp only [GTerm.opc,GTerm.kidn,GTerm.kid,GTerm.num]
   simp
   have w2:=(w1.snoc (c:=⟨s.tm q n,0,u1,e1⟩) ok1 ⟨t1.eb,o1⟩ G0 (tmG _ _)).snoc (c:=⟨s.tm q n,0,u2,e1⟩) ok2 (HT.more ⟨t1.eb,o2⟩ _) G0 (tmG _ _)
   have w2:WT s (Γ++Δ1++[QJ x.ty,Wj x.ty]) (σ1++[⟨s.tm q n,0,u1,e1⟩,⟨s.tm q n,0,u2,e1⟩]):=by simpa [List.append_assoc] using w2
   refine (ih l1 _ _ _ _ _ _ w2 (HT.node (xs:=[Wj x.ty,QJ x.ty]) (js:=[σ1.length+1,σ1.length]) (fun j hj=>by have:=h.eb j hj;simp;omega) (by rw [ZbB Δ1 h.eb];simpa using k1) ?_ ?_) hq).lift (by omega) e5.symm
   ·rw [w1.len,show (Γ++Δ1).length+1=(Γ++Δ1).length+1 from rfl]
    simp only [List.map_cons,List.map_nil,Zcm]
    rw [show ((Γ++Δ1++[QJ x.ty,Wj x.ty]).getD (Γ++Δ1).length [])=[QJ x.ty,Wj x.ty].getD 0 [] from Zcm (Γ++Δ1) _ 0]
    rfl
   ·rw [w1.len]
    intro j hj
    simp only [List.mem_cons,List.not_mem_nil,or_false] at hj
    rw [List.length_append]
    simp only [List.length_cons,List.length_nil]
    omega
  ·simpa [XA,GTerm.opc] using val (by simp)
  ·simpa [XA,GTerm.opc] using val (by simp)
  ·match ks,ds,(show ks.length=3 by simp [Xp] at hm;omega),(show ds.length=3 by simp [Xp] at hm;omega) with
   | [a,b,c],[x,y,z],_,_ =>
   have k0:=hk 0 (by simp)
   have k1:=hk 1 (by simp)
   have k2:=hk 2 (by simp)
   simp [Qx,Qy,tyP,first] at k0 k1 k2
   have f0:hd x.ty=2:=by simpa [first,tyP] using (k.first (by simp)).2.1.2.2.1 rfl
   have gn:=nd.grade (by simp [Yd,Qc])
   have hn:=GSys.has_of gn
   have e12:y.ty=z.ty:=by
    by_cases e:y.ty=z.ty
    ·exact e
    ·simp [QZ,tyP,e] at h4
   have e5:τ=y.ty:=by
    rw [h5]
    by_cases u:Wn s (usP 8 [x,y,z] 1) n=true∧Wn s (usP 8 [x,y,z] 2) n=true
    ·simp [QZ,u,tyP,e12]
    ·simp [QZ,u,tyP,e12] at h4
   have p1:=had 1 (by simp) (QJ x.ty) (by simp [Qx,Qy,first,tyP])
   have p2:=had 2 (by simp) (Wj x.ty) (by simp [Qx,Qy,first,tyP])
   simp only [XA,GTerm.opc,GTerm.kidn,GTerm.kid,GTerm.num]
   simp [hn]
   refine Zaa.ok (ih (l+1) _ _ _ _ _ _ w ⟨h.eb,k0⟩ (tmG q n)) ?_ |>.same (by omega) rfl
   intro l1 σ1 v e1 Δ1 q1 q2 w1 t1 v1
   obtain ⟨op1,n1,_,ty1,_,u1,rfl,⟨rfl,o1⟩ | ⟨rfl,o1⟩⟩:=ZmR hs (w1.cx t1.eb) t1.of v1 f0
   ·simp only [GTerm.opc,GTerm.kidn,GTerm.kid,GTerm.num]
    simp
    have w2:=w1.snoc (c:=⟨s.tm q n,0,u1,e1⟩) p1 ⟨t1.eb,o1⟩ G0 (tmG _ _)
    refine (ih l1 _ _ _ _ _ _ w2 (HT.node (xs:=[QJ x.ty]) (js:=[σ1.length]) (fun j hj=>by have:=h.eb j hj;simp;omega) (by rw [ZbB Δ1 h.eb];simpa using k1) ?_ ?_) hq).lift (by omega) e5.symm
    ·rw [w1.len]
     simp [List.getD_eq_getElem?_getD,List.getElem?_append_right]
    ·rw [w1.len];simp
   ·simp only [GTerm.opc,GTerm.kidn,GTerm.kid,GTerm.num]
    simp
    have w2:=w1.snoc (c:=⟨s.tm q n,0,u1,e1⟩) p2 ⟨t1.eb,o1⟩ G0 (tmG _ _)
    refine (ih l1 _ _ _ _ _ _ w2 (HT.node (xs:=[Wj x.ty]) (js:=[σ1.length]) (fun j hj=>by have:=h.eb j hj;simp;omega) (by rw [ZbB Δ1 h.eb];simpa using k2) ?_ ?_) hq).lift (by omega) (by rw [e5,e12])
    ·rw [w1.len]
     simp [List.getD_eq_getElem?_getD,List.getElem?_append_right]
    ·rw [w1.len];simp
  ·simpa [XA,GTerm.opc] using val (by simp)
  ·match ks,ds,(show ks.length=2 by simp [Xp] at hm;omega),(show ds.length=2 by simp [Xp] at hm;omega) with
   | [a,b],[x,y],_,_ =>
   have k0:=hk 0 (by simp)
   have k1:=hk 1 (by simp)
   simp [Qx,Qy,tyP,first] at k0 k1
   have f0:QW (hd x.ty)=true:=by simpa [first,tyP] using (k.first (by simp)).2.1.2.2.2.1 rfl
   have ya:y.ty=QJ x.ty:=by simpa [first,tyP] using k.app rfl y rfl
   have e5:τ=Wj x.ty:=by rw [h5];simp [QZ,tyP]
   simp only [XA,GTerm.opc,GTerm.kidn,GTerm.kid,GTerm.num]
   simp
   refine Zaa.ok (ih (l+1) _ _ _ _ _ _ w ⟨h.eb,k0⟩ hq) ?_ |>.same (by omega) rfl
   intro l1 σ1 v e1 Δ1 q1 q2 w1 t1 v1
   obtain ⟨n1,_,ty1,_,u1,rfl,g1,rfl,okt,o1⟩:=val_fun hs (w1.cx t1.eb) t1.of v1 f0
   simp only [GTerm.opc,GTerm.kidn,GTerm.kid,GTerm.num]
   simp [GSys.has_of g1]
   have w2:=w1.snoc (c:=⟨s.tm q n1,0,b,env⟩) okt (HT.more ⟨h.eb,by rw [← ya];exact k1⟩ Δ1) G0 (tmG _ _)
   refine (ih l1 _ _ _ _ _ _ w2 (HT.node (xs:=[QJ x.ty]) (js:=[σ1.length]) t1.eb (by simpa using o1) ?_ ?_) hq).lift (by omega) e5.symm
   ·rw [w1.len]
    simp [List.getD_eq_getElem?_getD,List.getElem?_append_right]
   ·rw [w1.len];simp
  ·simpa [XA,GTerm.opc] using val (by simp)
  ·match ks,ds,(show ks.length=2 by simp [Xp] at hm;omega),(show ds.length=2 by simp [Xp] at hm;omega) with
   | [a,b],[x,y],_,_ =>
   have k0:=hk 0 (by simp)
   have k1:=hk 1 (by simp)
   simp [Qx,Qy,tyP,first] at k0 k1
   have f0:WW (hd x.ty)=true:=by simpa [first,tyP] using (k.first (by simp)).2.1.2.2.2.2 rfl
   have gn:=nd.grade (by simp [Yd,Qc])
   have hn:=GSys.has_of gn
   have e5:τ=y.ty:=by
    rw [h5]
    by_cases u:Wn s (usP 12 [x,y] 1) (s.tm n (QH (hd x.ty)).2)=true
    ·simp [QZ,tyP,u]
    ·simp [QZ,tyP,u] at h4
   simp only [XA,GTerm.opc,GTerm.kidn,GTerm.kid,GTerm.num]
   simp [hn]
   refine Zaa.ok (ih (l+1) _ _ _ _ _ _ w ⟨h.eb,k0⟩ (tmG q n)) ?_ |>.same (by omega) rfl
   intro l1 σ1 v e1 Δ1 q1 q2 w1 t1 v1
   obtain ⟨n1,_,ty1,_,u1,rfl,g1,o1⟩:=ZmW hs (w1.cx t1.eb) t1.of v1 f0
   have ok1:=o1.okL hs (w1.cx t1.eb)
   simp only [GTerm.opc,GTerm.kidn,GTerm.kid,GTerm.num]
   simp [GSys.has_of g1]
   have w2:=w1.snoc (c:=⟨s.tm (s.tm q n) n1,0,u1,e1⟩) ok1 ⟨t1.eb,o1⟩ G0 (tmG _ _)
   refine (ih l1 _ _ _ _ _ _ w2 (HT.node (xs:=[QJ x.ty]) (js:=[σ1.length]) (fun j hj=>by have:=h.eb j hj;simp;omega) (by rw [ZbB Δ1 h.eb];simpa using k1) ?_ ?_) hq).lift (by omega) e5.symm
   ·rw [w1.len]
    simp [List.getD_eq_getElem?_getD,List.getElem?_append_right]
   ·rw [w1.len];simp
theorem LR.bind_ok {r:LR} {f:Nat→List PC→GTerm→List Nat→LR} {l:Nat} {σ:List PC} {v:GTerm} {e:List Nat} (h:r.bind f=.ok l σ v e):∃ l1 σ1 v1 e1,r=.ok l1 σ1 v1 e1∧f l1 σ1 v1 e1=.ok l σ v e:=by
 cases r with
 | stuck=>simp [LR.bind] at h
 | fail=>simp [LR.bind] at h
 | ok l1 σ1 v1 e1=>exact ⟨_,_,_,_,rfl,h⟩
structure BD (s:GSys) (l:Nat) (σ:List PC):Prop where
 env:∀ c∈σ,c.e.length≤2 * l+8∧∀ j∈c.e,j < σ.length
 gk:∀ c∈σ,s.G c.k
def BE (l:Nat) (σ:List PC) (e:List Nat):Prop:=e.length≤2 * l+8∧∀ j∈e,j < σ.length
theorem BD.up {s:GSys} {l l':Nat} {σ:List PC} (b:BD s l σ) (h:l≤l'):BD s l' σ:=⟨fun c hc=>⟨by have:=(b.env c hc).1;omega,(b.env c hc).2⟩,b.gk⟩
theorem BE.up {l l':Nat} {σ σ':List PC} {e:List Nat} (b:BE l σ e) (h:l≤l') (h2:σ.length≤σ'.length):BE l' σ' e:=⟨by have:=b.1;omega,fun j hj=>by have:=b.2 j hj;omega⟩
theorem BD.snoc {s:GSys} {l:Nat} {σ:List PC} (b:BD s l σ) {c:PC} (hc:BE l σ c.e) (hk:s.G c.k):BD s l (σ++[c]):=⟨fun x hx=>by
 rcases List.mem_append.1 hx with hx | hx
 ·obtain ⟨h1,h2⟩:=b.env x hx
  exact ⟨h1,fun j hj=>by have:=h2 j hj;simp;omega⟩
 ·simp at hx;subst hx
  exact ⟨hc.1,fun j hj=>by have:=hc.2 j hj;simp;omega⟩,fun x hx=>by
 rcases List.mem_append.1 hx with hx | hx
 ·exact b.gk x hx
 ·simp at hx;subst hx;exact hk⟩
theorem BD.book {s:GSys} {l:Nat} {σ:List PC} (b:BD s l σ) (j:Nat) {c:PC} (hj:σ[j]?=some c) {k:Int} (hk:s.G k):BD s l (σ.set j { c with k:=k }):=⟨fun x hx=>by
 rw [List.length_set]
 rcases List.mem_or_eq_of_mem_set hx with hx | rfl
 ·exact b.env x hx
 ·exact b.env c (List.mem_of_getElem? hj),fun x hx=>by
 rcases List.mem_or_eq_of_mem_set hx with hx | rfl
 ·exact b.gk x hx
 ·exact hk⟩
theorem Jw {s:GSys} (ts:s.Tab):∀ (d l:Nat) (σ:List PC) (t:GTerm) (env:List Nat) (q:Int) (l':Nat) (σ':List PC) (v:GTerm) (e:List Nat),Q4 s d l σ t env q=.ok l' σ' v e→BD s l σ→BE l σ env →
  l+1≤l'∧l'≤3000∧σ.length≤σ'.length∧σ'.length+2 * l≤σ.length+2 * l'∧BD s l' σ'∧e.length≤2 * l'+6∧∀ j∈e,j < σ'.length:=by
 intro d
 induction d with
 | zero=>intro l σ t env q l' σ' v e h;simp [Q4] at h
 | succ d ih =>
  intro l σ t env q l' σ' v e h bd be
  rw [Q4] at h
  split at h
  ·simp at h
  rename_i h3
  have G0:s.G 0:=GSys.G0 ts
  have bd1:BD s (l+1) σ:=bd.up (by omega)
  have be1:BE (l+1) σ env:=be.up (by omega) (Nat.le_refl _)
  have beOf:∀ {l1:Nat} {σ1:List PC} {e1:List Nat},e1.length≤2 * l1+6→(∀ j∈e1,j < σ1.length)→BE l1 σ1 e1:=fun h1 h2=>⟨by omega,h2⟩
  have front:∀ {l1:Nat} {σ1 σ2:List PC} {e1:List Nat} (js:List Nat),e1.length≤2 * l1+6→(∀ j∈e1,j < σ1.length)→js.length≤2→(∀ j∈js,j < σ2.length)→σ1.length≤σ2.length→BE l1 σ2 (js++e1):=fun js h1 h2 h4 h5 h6 =>
   ⟨by rw [List.length_append];omega,fun j hj=>by
    rcases List.mem_append.1 hj with hj | hj
    ·exact h5 j hj
    ·have:=h2 j hj;omega⟩
  unfold XA at h
  split at h
  ·split at h
   ·split at h
    ·simp at h
    ·rename_i c hc
     have:=ih _ _ _ _ _ _ _ _ _ h (bd1.book _ hc (GSys.Gpl ts _ _)) (by
      obtain ⟨g1,g2⟩:=bd1.env c (List.mem_of_getElem? hc)
      exact ⟨g1,fun j hj=>by rw [List.length_set];exact g2 j hj⟩)
     simp only [List.length_set] at this
     obtain ⟨q1,q2,q3,q4,q5⟩:=this
     exact ⟨by omega,q2,q3,by omega,q5⟩
   ·simp at h
  split at h
  ·split at h
   ·obtain ⟨l1,σ1,v1,e1,h1,h⟩:=LR.bind_ok h
    obtain ⟨a1,a2,a3,a4,a5,a6,a7⟩:=ih _ _ _ _ _ _ _ _ _ h1 bd1 be1
    split at h
    ·obtain ⟨l2,σ2,v2,e2,h2,h⟩:=LR.bind_ok h
     obtain ⟨b1,b2,b3,b4,b5,b6,b7⟩:=ih _ _ _ _ _ _ _ _ _ h2 a5 (be1.up (by omega) a3)
     split at h
     ·simp only [LR.ok.injEq] at h
      obtain ⟨rfl,rfl,rfl,rfl⟩:=h
      exact ⟨by omega,b2,by omega,by omega,b5,by simp,by simp⟩
     ·simp at h
    ·simp at h
   ·simp at h
  split at h
  ·split at h
   ·obtain ⟨l1,σ1,v1,e1,h1,h⟩:=LR.bind_ok h
    obtain ⟨a1,a2,a3,a4,a5,a6,a7⟩:=ih _ _ _ _ _ _ _ _ _ h1 bd1 be1
    split at h
    all_goals
     obtain ⟨b1,b2,b3,b4,b5⟩:=ih _ _ _ _ _ _ _ _ _ h a5 (be1.up (by omega) a3)
     exact ⟨by omega,b2,by omega,by omega,b5⟩
   ·simp at h
  split at h
  ·split at h
   ·obtain ⟨l1,σ1,v1,e1,h1,h⟩:=LR.bind_ok h
    obtain ⟨a1,a2,a3,a4,a5,a6,a7⟩:=ih _ _ _ _ _ _ _ _ _ h1 bd1 be1
    split at h
    ·obtain ⟨b1,b2,b3,b4,b5⟩:=ih _ _ _ _ _ _ _ _ _ h (a5.snoc (be1.up (by omega) a3) G0) (front [_] a6 a7 (by simp) (by simp) (by simp))
     simp only [List.length_append,List.length_singleton] at b3 b4
     exact ⟨by omega,b2,by omega,by omega,b5⟩
    ·simp at h
   ·simp at h
  have e6:env.length≤2 * (l+1)+6:=by have:=be.1;omega
  split at h
  ·split at h
   ·obtain ⟨l1,σ1,v1,e1,h1,h⟩:=LR.bind_ok h
    obtain ⟨a1,a2,a3,a4,a5,a6,a7⟩:=ih _ _ _ _ _ _ _ _ _ h1 bd1 be1
    split at h
    ·have c1:=a5.snoc (c:=⟨s.tm q t.num,0,v1.kid 0,e1⟩) (beOf a6 a7) G0
     have c2:=c1.snoc (c:=⟨s.tm q t.num,0,v1.kid 1,e1⟩) ((beOf a6 a7).up (Nat.le_refl _) (by simp)) G0
     rw [List.append_assoc] at c2
     obtain ⟨b1,b2,b3,b4,b5⟩:=ih _ _ _ _ _ _ _ _ _ h c2 (front (σ1:=σ1) [_,_] (by omega) (fun j hj=>by have:=be.2 j hj;omega) (by simp) (by simp) (by simp))
     simp only [List.length_append,List.length_cons,List.length_nil] at b3 b4
     exact ⟨by omega,b2,by omega,by omega,b5⟩
    ·simp at h
   ·simp at h
  split at h
  ·split at h
   ·obtain ⟨l1,σ1,v1,e1,h1,h⟩:=LR.bind_ok h
    obtain ⟨a1,a2,a3,a4,a5,a6,a7⟩:=ih _ _ _ _ _ _ _ _ _ h1 bd1 be1
    split at h
    ·obtain ⟨b1,b2,b3,b4,b5⟩:=ih _ _ _ _ _ _ _ _ _ h (a5.snoc (beOf a6 a7) G0) (front (σ1:=σ1) [_] (by omega) (fun j hj=>by have:=be.2 j hj;omega) (by simp) (by simp) (by simp))
     simp only [List.length_append,List.length_singleton] at b3 b4
     exact ⟨by omega,b2,by omega,by omega,b5⟩
    ·simp at h
   ·simp at h
  split at h
  ·split at h
   ·obtain ⟨l1,σ1,v1,e1,h1,h⟩:=LR.bind_ok h
    obtain ⟨a1,a2,a3,a4,a5,a6,a7⟩:=ih _ _ _ _ _ _ _ _ _ h1 bd1 be1
    split at h
    ·obtain ⟨b1,b2,b3,b4,b5⟩:=ih _ _ _ _ _ _ _ _ _ h (a5.snoc (beOf a6 a7) G0) (front (σ1:=σ1) [_] (by omega) (fun j hj=>by have:=be.2 j hj;omega) (by simp) (by simp) (by simp))
     simp only [List.length_append,List.length_singleton] at b3 b4
     exact ⟨by omega,b2,by omega,by omega,b5⟩
    ·simp at h
   ·simp at h
  split at h
  ·simp only [LR.ok.injEq] at h
   obtain ⟨rfl,rfl,rfl,rfl⟩:=h
   exact ⟨by omega,by omega,by omega,by omega,bd1,e6,be.2⟩
  ·simp at h
def Zbk (τ:List Int):Prop:=∀ c∈τ,QW c=false
def SafeT (s:GSys) (Γ:List (List Int)) (r:TTold):Prop:=r=.fail∨∃ l σ v Δ,r=.ok l σ v∧WT s (Γ++Δ) σ
def SafeK (s:GSys) (Γ:List (List Int)) (r:KTold):Prop:=r=.fail∨∃ l σ vs Δ,r=.ok l σ vs∧WT s (Γ++Δ) σ
theorem Zhh {s:GSys} {f:Nat→List PC→GTerm→TTold} {e:List Nat} (hf:∀ (l:Nat) (σ:List PC) (k:GTerm) (Γ:List (List Int)) (τ:List Int),WT s Γ σ→HT s Γ k e τ→Zbk τ→SafeT s Γ (f l σ k)) :
  ∀ (ks:List GTerm) (l:Nat) (σ:List PC) (acc:List GTerm) (Γ:List (List Int)),WT s Γ σ→(∀ k∈ks,∃ τ,HT s Γ k e τ∧Zbk τ)→SafeK s Γ (XW f ks l σ acc)
 | [],l,σ,acc,Γ,w,h=>.inr ⟨l,σ,acc,[],rfl,by simpa using w⟩
 | k::ks,l,σ,acc,Γ,w,h=>by
  obtain ⟨τ,h1,h2⟩:=h k (by simp)
  rcases hf l σ k Γ τ w h1 h2 with g | ⟨l1,σ1,v,Δ,g,w1⟩
  ·left;simp [XW,g]
  ·rcases Zhh hf ks l1 σ1 (acc++[v]) (Γ++Δ) w1 (fun k hk=>by
    obtain ⟨τ,h3,h4⟩:=h k (by simp [hk])
    exact ⟨τ,h3.more Δ,h4⟩) with g2 | ⟨l2,σ2,vs,Δ2,g2,w2⟩
   ·left;simp [XW,g,g2]
   ·exact .inr ⟨l2,σ2,vs,Δ++Δ2,by simp [XW,g,g2],by rw [← List.append_assoc];exact w2⟩
theorem ZnZ {τ:List Int} (h:Zbk τ):Zbk (QJ τ)∧Zbk (Wj τ):=by
 have h1:∀ c∈Wj τ,c∈τ:=by
  intro c hc
  unfold Wj at hc
  cases e:Ty.skip 1 τ.tail with
  | none=>rw [e] at hc;simp at hc
  | some r =>
   rw [e] at hc
   obtain ⟨m,rfl,_⟩:=Ty.skip_drop _ _ _ e
   exact List.mem_of_mem_tail (List.mem_of_mem_drop (by simpa using hc))
 exact ⟨fun c hc=>h c (List.mem_of_mem_tail (List.mem_of_mem_take hc)),fun c hc=>h c (h1 c hc)⟩
theorem Zl3 {s:GSys} (hs:s.sys=true):∀ (d l:Nat) (σ:List PC) (t:GTerm) (env:List Nat) (q:Int) (Γ:List (List Int)) (τ:List Int),WT s Γ σ→HT s Γ t env τ→s.G q→Zbk τ→SafeT s Γ (Xk s d l σ t env q):=by
 intro d
 induction d with
 | zero=>intro l σ t env q Γ τ w h hq hd;exact .inl rfl
 | succ d ih =>
  intro l σ t env q Γ τ w h hq hdat
  rw [Xk]
  rcases Zlp hs (d+1) l σ t env q Γ τ w h hq with g | ⟨l1,σ1,v,e1,Δ,g,_,_,w1,t1,v1⟩
  ·left;rw [g]
  ·rw [g]
   have hc:=w1.cx t1.eb
   have ok:=t1.of.okL hs hc
   have oh:=Yn ok
   have tmG:∀ a b,s.G (s.tm a b):=GSys.Gtm (GSys.sys_of hs)
   have hmem:hd τ∈τ:=oh.2.2.2.2
   have na:=hdat _ hmem
   obtain ⟨d0,d1⟩:=ZnZ hdat
   have fin:∀ (op n:Int) (nl1:Bool) (ty:List Int) (nl2:Bool) (ks:List GTerm),(op=11→s.has n=true)→ks.length≤3→Of s (e1.map fun j=>(Γ++Δ).getD j []) (.mk op n nl1 ty nl2 ks) τ→(∀ k∈ks,∃ τ,HT s (Γ++Δ) k e1 τ∧Zbk τ) →
     SafeT s Γ (if okV s op n nl1 ty ks.length=false then .stuck else match XW (fun l σ k=>Xk s d l σ k e1 (if op=11 then s.tm q n else q)) ks l1 σ1 [] with
      | .stuck=>.stuck
      | .fail=>.fail
      | .ok l2 σ2 vs=>.ok l2 σ2 (.mk op n nl1 ty true vs)):=by
    intro op n nl1 ty nl2 ks h11 h3k hof hks
    have hty:ty.length≤40:=by
     have:=hof.fm
     simp only [Zk,Bool.and_eq_true] at this
     have:=this.1
     unfold Zeq at this
     simp only [Bool.and_eq_true] at this
     have:=this.2.2
     unfold tyB at this
     split at this
     ·rw [Bool.and_eq_true] at this
      exact (Znm this.1).2
     ·rw [Qc] at this;omega
    have hfl:nl1=true→ty=[]:=by
     have:=hof.fl
     simp only [GTerm.fl] at this
     exact this.1
    have hok:okV s op n nl1 ty ks.length=true:=by
     unfold okV
     have a1:(!decide (op=11) || s.has n)=true:=by
      by_cases h:op=11
      ·simp [h11 h]
      ·simp [h]
     have a2:(!nl1 || ty.isEmpty)=true:=by
      cases nl1 with
      | false=>rfl
      | true=>rw [hfl rfl];rfl
     rw [a1,a2]
     simp [h3k,hty]
    rw [if_neg (by rw [hok];simp)]
    have hq':s.G (if op=11 then s.tm q n else q):=by split;exact tmG _ _;exact hq
    rcases Zhh (fun l σ k Γ τ a b c=>ih l σ k e1 _ Γ τ a b hq' c) ks l1 σ1 [] (Γ++Δ) w1 hks with g2 | ⟨l2,σ2,vs,Δ2,g2,w2⟩
    ·left;rw [g2]
    ·right;rw [g2];exact ⟨l2,σ2,_,Δ++Δ2,rfl,by rw [← List.append_assoc];exact w2⟩
   have vh:=ZcW hs hc t1.of v1
   have hcases:hd τ=0∨hd τ=1∨hd τ=2∨WW (hd τ)=true:=by
    rw [← Bool.not_eq_true,Zm] at na
    rw [V0]
    omega
   rcases hcases with e | e | e | e
   ·obtain ⟨op,n,nl1,ty,nl2,ks⟩:=v
    have:=vh.1 e
    simp only [GTerm.opc] at this
    subst this
    obtain ⟨_,_,_,rfl⟩:=t1.of.numv hs hc
    exact fin 1 n nl1 ty nl2 [] (by simp) (by simp) t1.of (by simp)
   ·obtain ⟨n1,nl1,ty1,nl2,u1,u2,rfl,o1,o2⟩:=Zjh hs hc t1.of v1 e
    refine fin 4 n1 nl1 ty1 nl2 [u1,u2] (by simp) (by simp) t1.of fun k hk=>?_
    simp at hk
    rcases hk with rfl | rfl
    ·exact ⟨_,⟨t1.eb,o1⟩,d0⟩
    ·exact ⟨_,⟨t1.eb,o2⟩,d1⟩
   ·obtain ⟨op1,n1,nl1,ty1,nl2,u1,rfl,⟨rfl,o1⟩ | ⟨rfl,o1⟩⟩:=ZmR hs hc t1.of v1 e
    ·refine fin 6 n1 nl1 ty1 nl2 [u1] (by simp) (by simp) t1.of fun k hk=>?_
     simp at hk;subst hk
     exact ⟨_,⟨t1.eb,o1⟩,d0⟩
    ·refine fin 7 n1 nl1 ty1 nl2 [u1] (by simp) (by simp) t1.of fun k hk=>?_
     simp at hk;subst hk
     exact ⟨_,⟨t1.eb,o1⟩,d1⟩
   ·obtain ⟨n1,nl1,ty1,nl2,u1,rfl,g1,o1⟩:=ZmW hs hc t1.of v1 e
    refine fin 11 n1 nl1 ty1 nl2 [u1] (fun _=>GSys.has_of g1) (by simp) t1.of fun k hk=>?_
    simp at hk;subst hk
    exact ⟨_,⟨t1.eb,o1⟩,d0⟩
abbrev PL (u nl:Bool) (ps:List Nat):LV:=.sl u nl 1 (ps.map fun p=>[.ptr p 0])
theorem growP_ok (n:Int) (h0:0≤n) (h1:n≤1099511627776):Qe Tryz.prog W1 [.sl false true 1 [],N n] (·=.sl (ltB 0 n) (!ltB 0 n) 1 []):=by
 refine Qe.of_codeOf ZH Qz (by simp) ⟨_,rfl,by simp⟩ ?_
 have hm:n≤(WV:Nat):=by unfold WV;omega
 have hneg:ltB n 0=false:=by rw [Qd];omega
 simp (disch:=omega) [XL,Qg,hneg,ZA]
 (with_reducible first | refine Qm (fun h1=>?_) (fun h1=>?_) | refine Qn (fun h1=>?_) (fun h1=>?_))
 ·have hmm:(WV:Int)=1099511627776:=rfl
  have hp:0 < n:=by rw [Qf] at h1;exact h1
  have hc:ZA 1 (.sl false true 1 []) none (some 0) none=some (.sl false true 1 []):=by simp [ZA]
  simp (disch:=omega) [h1,hc,hp,hm]
 ·simp (disch:=omega) [h1]
abbrev catP (l:List Nat):LV:=PL (ltB 0 l.length) (!ltB 0 l.length) l
theorem Zo7 (n1 n2:Bool) (a b:List Nat) (hab:a.length+b.length≤1000000) (h:List Box) :
  QD Tryz.prog WP [.sl false false 1 [[PL false n1 a],[PL false n2 b]]] h (fun r h'=>h'=h∧r=catP (a++b)):=by
 refine QD.of_codeOf Zv Qz (by simp) ⟨_,_,rfl,rfl⟩ ?_
 simp (disch:=omega) [Xz]
 have i0:QS 1 (.sl false false 1 [[PL false n1 a],[PL false n2 b]]) 0=some (.rp [PL false n1 a]):=by simp [QS]
 have i1:QS 1 (.sl false false 1 [[PL false n1 a],[PL false n2 b]]) 1=some (.rp [PL false n2 b]):=by simp [QS]
 refine Xf 2 0 (fun i t h'=>h'=h∧t 11=N i∧t 3=N (if i=0 then (0:Nat) else if i=1 then a.length else a.length+b.length:Nat)) (fun t h'=>h'=h∧t 3=N (a.length+b.length:Nat)) (by simp) (by omega) ?_ ?_
 ·rintro i t1 hh hf hi ⟨rfl,e11,e3⟩
  (have e9:=hf 9 (by kernel_rfl);have e10:=hf 10 (by kernel_rfl);clear hf;simp [] at e9 e10)
  have hi3:i=0∨i=1∨i=2:=by omega
  rcases hi3 with rfl | rfl | rfl
  ·have hb:ltB 0 2=true:=rfl
   have hnb:ltB ((a.length:Int)) 0=false:=by rw [Qd];omega
   simp (disch:=omega) [e3,e9,e10,e11,hb,i0,Qg,hnb]
  ·have hb:ltB 1 2=true:=rfl
   have hnb:ltB ((a.length:Int)+b.length) 0=false:=by rw [Qd];omega
   simp (disch:=omega) [e3,e9,e10,e11,hb,i1,Qg,hnb]
  ·have hb:ltB 2 2=false:=rfl
   simp (disch:=omega) [e3,e9,e10,e11,hb]
 ·rintro t1 hh hf ⟨rfl,e3⟩
  (have e0:=hf 0 (by kernel_rfl);clear hf;simp [] at e0)
  simp (disch:=omega) [e3,e0]
  refine Qa (growP_ok _ (by omega) (by omega)) (by simp) ?_
  simp (disch:=omega) [e3,e0]
  have lab:((a++b).length:Int)=(a.length:Int)+b.length:=by simp
  have ap:∀ (m c:List Nat) (n:Bool),m.length+c.length≤a.length+b.length→WC 1 (PL (ltB 0 ((a.length:Int)+b.length)) (!ltB 0 ((a.length:Int)+b.length)) m) (PL false n c)=some (PL (ltB 0 ((a.length:Int)+b.length)) (!ltB 0 ((a.length:Int)+b.length)) (m++c)):=fun m c n hmc=>by
   have hmm:WV=1099511627776:=rfl
   cases hq:ltB 0 ((a.length:Int)+b.length)
   ·rw [Qd] at hq
    have c0:c=[]:=List.eq_nil_of_length_eq_zero (by omega)
    have m0:m=[]:=List.eq_nil_of_length_eq_zero (by omega)
    subst c0;subst m0
    simp [WC,hmm]
   ·simp only [WC]
    rw [if_pos ⟨by simp,.inl trivial,.inl trivial,by simp [hmm];omega⟩]
    simp
  refine Xf 2 0 (fun i t h'=>h'=hh∧t 27=N i∧t 6=PL (ltB 0 ((a.length:Int)+b.length)) (!ltB 0 ((a.length:Int)+b.length)) (if i=0 then [] else if i=1 then a else a++b)) (fun t h'=>h'=hh∧t 6=catP (a++b)) (by simp) (by omega) ?_ ?_
  ·rintro i t2 h2 hf2 hi ⟨rfl,e27,e6⟩
   have e25:=hf2 25 (by kernel_rfl);have e26:=hf2 26 (by kernel_rfl);clear hf2;simp at e25 e26
   have hi3:i=0∨i=1∨i=2:=by omega
   rcases hi3 with rfl | rfl | rfl
   ·have hb:ltB 0 2=true:=rfl
    have ap0:=ap [] a n1 (by simp)
    simp (disch:=omega) [e6,e25,e26,e27,hb,i0,Qg,ap0]
   ·have hb:ltB 1 2=true:=rfl
    have ap1:=ap a b n2 (by simp)
    simp (disch:=omega) [e6,e25,e26,e27,hb,i1,Qg,ap1]
   ·have hb:ltB 2 2=false:=rfl
    simp (disch:=omega) [e6,e25,e26,e27,hb]
  ·rintro t2 h2 hf2 ⟨rfl,e6⟩
   simp (disch:=omega) [e6]
   exact QK (by simp) (Nat.le_refl _) ⟨rfl,by simp⟩
def Y6 (ids:List Nat) (e:List Nat):List Nat:=e.map fun j=>ids.getD j 0
@[simp] theorem envP_length (ids e:List Nat):(Y6 ids e).length=e.length:=by simp [Y6]
theorem VI {ids e:List Nat} (new:List Nat) (h:∀ j∈e,j < ids.length):Y6 (ids++new) e=Y6 ids e:=by
 refine List.map_congr_left fun j hj=>?_
 rw [List.getD_eq_getElem?_getD,List.getElem?_append_left (h j hj),← List.getD_eq_getElem?_getD]
theorem JO {ids:List Nat} {j:Nat} (h:j < ids.length):ids.getD j 0∈ids:=by
 rw [List.getD_eq_getElem?_getD,List.getElem?_eq_getElem h];exact List.getElem_mem _
def K8 (ids:List Nat) (c:PC) (nl:Bool):List LV:=N c.b::N c.k::(c.t.cells++[PL false nl (Y6 ids c.e)])
structure MS (s:GSys) (M k0:Nat) (h:List Box) (l:Nat) (σ:List PC) (ids:List Nat):Prop where
 box:∃ nl,(nl=true→ids.drop k0=[])∧h[M]?=some (some (s.cells++[PL true nl (ids.drop k0),N l,B false]))
 len:ids.length=σ.length
 k0:k0≤ids.length
 cell:∀ (j:Nat) (c:PC),σ[j]?=some c→∃ nl,h[ids.getD j 0]?=some (some (K8 ids c nl))
 nd:ids.Nodup
 nM:M ∉ ids
 lM:M < h.length
 lt:∀ i∈ids,i < h.length
structure Fr (M:Nat) (ids:List Nat) (h h':List Box):Prop where
 len:h.length≤h'.length
 same:∀ i,i < h.length→i≠M→i ∉ ids→h'[i]?=h[i]?
theorem Fr.refl (M:Nat) (ids:List Nat) (h:List Box):Fr M ids h h:=⟨Nat.le_refl _,fun _ _ _ _=>rfl⟩
theorem Fr.trans {M:Nat} {ids new:List Nat} {h h1 h2:List Box} (a:Fr M ids h h1) (b:Fr M (ids++new) h1 h2) (hn:∀ i∈new,h.length≤i):Fr M ids h h2 :=
 ⟨Nat.le_trans a.len b.len,fun i hi h3 h4=>by
  rw [b.same i (Nat.lt_of_lt_of_le hi a.len) h3 (fun h5=>?_),a.same i hi h3 h4]
  rcases List.mem_append.1 h5 with h5 | h5
  ·exact h4 h5
  ·have:=hn i h5;omega⟩
theorem Fr.trans0 {M:Nat} {ids:List Nat} {h h1 h2:List Box} (a:Fr M ids h h1) (b:Fr M ids h1 h2):Fr M ids h h2 :=
 Fr.trans (new:=[]) a (by simpa using b) (by simp)
theorem Fr.weak {M:Nat} {ids:List Nat} {h h':List Box} (a:Fr M [] h h'):Fr M ids h h':=⟨a.len,fun i h1 h2 _=>a.same i h1 h2 (by simp)⟩
theorem Fr.app (M:Nat) (ids:List Nat) (h k:List Box):Fr M ids h (h++k):=⟨by simp,fun i hi _ _=>List.getElem?_append_left hi⟩
theorem Fr.set {M:Nat} {ids:List Nat} {h h':List Box} (a:Fr M ids h h') {O:Nat} (ho:h.length≤O) (x:Box):Fr M ids h (h'.set O x) :=
 ⟨by rw [List.length_set];exact a.len,fun i h1 h2 h3=>by rw [List.getElem?_set_ne (by omega)];exact a.same i h1 h2 h3⟩
theorem Fr.setM {M:Nat} {ids:List Nat} {h h':List Box} (a:Fr M ids h h') (x:Box):Fr M ids h (h'.set M x) :=
 ⟨by rw [List.length_set];exact a.len,fun i h1 h2 h3=>by rw [List.getElem?_set_ne (fun e=>h2 e.symm)];exact a.same i h1 h2 h3⟩
theorem Fr.setI {M:Nat} {ids:List Nat} {h h':List Box} (a:Fr M ids h h') {O:Nat} (ho:O∈ids) (x:Box):Fr M ids h (h'.set O x) :=
 ⟨by rw [List.length_set];exact a.len,fun i h1 h2 h3=>by rw [List.getElem?_set_ne (fun e=>h3 (by rw [← e];exact ho))];exact a.same i h1 h2 h3⟩
section
variable {s:GSys} {M k0:Nat} {h h':List Box} {l:Nat} {σ:List PC} {ids:List Nat}
theorem MS.other (m:MS s M k0 h l σ ids) (hl:h.length≤h'.length) (hs:∀ i,i=M∨i∈ids→h'[i]?=h[i]?):MS s M k0 h' l σ ids:=by
 obtain ⟨nl,h1,h2⟩:=m.box
 refine ⟨⟨nl,h1,by rw [hs M (.inl rfl)];exact h2⟩,m.len,m.k0,fun j c hj=>?_,m.nd,m.nM,by have:=m.lM;omega,fun i hi=>by have:=m.lt i hi;omega⟩
 obtain ⟨nl,h3⟩:=m.cell j c hj
 refine ⟨nl,?_⟩
 rw [hs _ (.inr (JO ?_))]
 ·exact h3
 ·rw [m.len]
  rcases Nat.lt_or_ge j σ.length with g | g
  ·exact g
  ·rw [List.getElem?_eq_none g] at hj;simp at hj
theorem MS.app (m:MS s M k0 h l σ ids) (k:List Box):MS s M k0 (h++k) l σ ids :=
 m.other (by simp) fun i hi=>List.getElem?_append_left (by rcases hi with rfl | hi;exact m.lM;exact m.lt i hi)
theorem MS.set (m:MS s M k0 h l σ ids) {O:Nat} (h1:O≠M) (h2:O ∉ ids) (x:Box):MS s M k0 (h.set O x) l σ ids :=
 m.other (by simp) fun i hi=>List.getElem?_set_ne (by rcases hi with rfl | hi;exact h1;rintro rfl;exact h2 hi)
theorem MS.fr {ids':List Nat} (m:MS s M k0 h l σ ids) {O:Nat} (h1:O ∉ ids) (x:Box):O≠M→MS s M k0 (h.set O x) l σ ids:=fun h2=>m.set h2 h1 x
theorem MS.tick (m:MS s M k0 h l σ ids) {l':Nat} {x:Box} (hx:∃ nl,(nl=true→ids.drop k0=[])∧x=some (s.cells++[PL true nl (ids.drop k0),N l',B false])):MS s M k0 (h.set M x) l' σ ids:=by
 obtain ⟨nl,h1,rfl⟩:=hx
 refine ⟨⟨nl,h1,by rw [List.getElem?_set_self m.lM]⟩,m.len,m.k0,fun j c hj=>?_,m.nd,m.nM,by rw [List.length_set];exact m.lM,fun i hi=>by rw [List.length_set];exact m.lt i hi⟩
 obtain ⟨nl,h3⟩:=m.cell j c hj
 have hj':j < ids.length:=by
  rw [m.len]
  rcases Nat.lt_or_ge j σ.length with g | g
  ·exact g
  ·rw [List.getElem?_eq_none g] at hj;simp at hj
 refine ⟨nl,?_⟩
 rw [List.getElem?_set_ne (fun e=>m.nM (by rw [e];exact JO hj'))];exact h3
theorem MS.book (m:MS s M k0 h l σ ids) {j:Nat} {c:PC} (hj:σ[j]?=some c) {k:Int} {x:Box} (hx:∃ nl,x=some (K8 ids { c with k:=k } nl)):MS s M k0 (h.set (ids.getD j 0) x) l (σ.set j { c with k:=k }) ids:=by
 have hj':j < ids.length:=by
  rw [m.len]
  rcases Nat.lt_or_ge j σ.length with g | g
  ·exact g
  ·rw [List.getElem?_eq_none g] at hj;simp at hj
 obtain ⟨nl,h1,h2⟩:=m.box
 have hne:ids.getD j 0≠M:=fun e=>m.nM (e ▸ JO hj')
 refine ⟨⟨nl,h1,by rw [List.getElem?_set_ne hne];exact h2⟩,by rw [List.length_set];exact m.len,m.k0,fun i c' hi=>?_,m.nd,m.nM,by rw [List.length_set];exact m.lM,fun i hi=>by rw [List.length_set];exact m.lt i hi⟩
 by_cases e:i=j
 ·subst e
  rw [List.getElem?_set_self (by rw [← m.len];exact hj')] at hi
  simp only [Option.some.injEq] at hi
  subst hi
  obtain ⟨nl,rfl⟩:=hx
  exact ⟨nl,by rw [List.getElem?_set_self (m.lt _ (JO hj'))]⟩
 ·rw [List.getElem?_set_ne (fun h=>e h.symm)] at hi
  obtain ⟨nl,h3⟩:=m.cell i c' hi
  have hi':i < ids.length:=by
   rw [m.len]
   rcases Nat.lt_or_ge i σ.length with g | g
   ·exact g
   ·rw [List.getElem?_eq_none g] at hi;simp at hi
  refine ⟨nl,?_⟩
  rw [List.getElem?_set_ne ?_];exact h3
  intro e2
  rw [List.getD_eq_getElem?_getD,List.getD_eq_getElem?_getD,List.getElem?_eq_getElem hj',List.getElem?_eq_getElem hi'] at e2
  exact e ((List.getElem_inj m.nd).1 (by simpa using e2.symm))
theorem MS.snoc (m:MS s M k0 h l σ ids) {c:PC} {p:Nat} (hp:∃ nl,h[p]?=some (some (K8 ids c nl))) (h1:p ∉ ids) (h2:p≠M) (hp2:p < h.length) (hb:BD s l σ) (hc:∀ j∈c.e,j < σ.length)
  {x:Box} (hx:x=some (s.cells++[PL true false (ids.drop k0++[p]),N l,B false])):MS s M k0 (h.set M x) l (σ++[c]) (ids++[p]):=by
 subst hx
 have hd:(ids++[p]).drop k0=ids.drop k0++[p]:=by rw [List.drop_append_of_le_length m.k0]
 refine ⟨⟨false,by simp,by rw [List.getElem?_set_self m.lM,hd]⟩,by simp [m.len],by have:=m.k0;simp;omega,fun j c' hj=>?_,?_,by simp only [List.mem_append,List.mem_singleton,not_or];exact ⟨m.nM,fun e=>h2 e.symm⟩,by rw [List.length_set];exact m.lM,fun i hi=>by
  rw [List.length_set]
  rcases List.mem_append.1 hi with hi | hi
  ·exact m.lt i hi
  ·simp at hi;subst hi;exact hp2⟩
 ·have hce:∀ (c':PC) (nl:Bool),(∀ j∈c'.e,j < ids.length)→K8 (ids++[p]) c' nl=K8 ids c' nl:=fun c' nl h=>by unfold K8;rw [VI [p] h]
  rcases Nat.lt_trichotomy j σ.length with g | rfl | g
  ·rw [List.getElem?_append_left g] at hj
   obtain ⟨nl,h3⟩:=m.cell j c' hj
   have g':j < ids.length:=by rw [m.len];exact g
   refine ⟨nl,?_⟩
   rw [hce c' nl (by rw [m.len];exact (hb.env c' (List.mem_of_getElem? hj)).2),List.getD_eq_getElem?_getD,List.getElem?_append_left g',← List.getD_eq_getElem?_getD,List.getElem?_set_ne (fun e=>m.nM (by rw [e];exact JO g'))]
   exact h3
  ·simp at hj;subst hj
   have e1:(ids++[p]).getD σ.length 0=p:=by rw [← m.len];simp [List.getD_eq_getElem?_getD]
   obtain ⟨nl,h4⟩:=hp
   refine ⟨nl,?_⟩
   rw [e1,hce c nl (by rw [m.len];exact hc),List.getElem?_set_ne (fun e=>h2 e.symm)];exact h4
  ·rw [List.getElem?_eq_none (by simp;omega)] at hj;simp at hj
 ·rw [List.nodup_append]
  exact ⟨m.nd,by simp,fun a ha b hb=>by simp at hb;subst hb;rintro rfl;exact h1 ha⟩
end
theorem MS.ex {s:GSys} {M k0:Nat} {h:List Box} {l:Nat} {σ:List PC} {ids:List Nat} (m:MS s M k0 h l σ ids) (l':Nat) (σ':List PC) (hl:σ.length≤σ'.length):∃ h' new,MS s M k0 h' l' σ' (ids++new)∧(∀ i∈new,h.length≤i)∧Fr M ids h h':=by
 have e0:∃ n,σ'.length=σ.length+n:=⟨σ'.length - σ.length,by omega⟩
 obtain ⟨n,hn⟩:=e0
 have hmem:∀ i,i∈List.range' h.length n ↔ h.length≤i∧i < h.length+n:=fun i=>by rw [List.mem_range'_1]
 have nd:(ids++List.range' h.length n).Nodup:=by
  rw [List.nodup_append]
  exact ⟨m.nd,List.nodup_range',fun a ha b hb e=>by have:=m.lt a ha;have:=(hmem b).1 hb;omega⟩
 have lids:(ids++List.range' h.length n).length=σ'.length:=by simp [m.len,hn]
 have hM:M ∉ ids++List.range' h.length n:=fun hi=>by
  rcases List.mem_append.1 hi with hi | hi
  ·exact m.nM hi
  ·have:=(hmem M).1 hi;have:=m.lM;omega
 generalize hids:ids++List.range' h.length n=ids' at nd lids hM
 have hget:∀ (f:Nat→Box) (i:Nat),i < h.length+n→((List.range (h.length+n)).map f)[i]?=some (f i):=fun f i hi=>by simp [hi]
 have l1:∀ i∈ids',i < h.length+n:=fun i hi=>by
  rw [← hids] at hi
  rcases List.mem_append.1 hi with hi | hi
  ·have:=m.lt i hi;omega
  ·exact ((hmem i).1 hi).2
 refine ⟨(List.range (h.length+n)).map (fun i=>if i=M then some (s.cells++[PL true false (ids'.drop k0),N l',B false]) else if i∈ids' then some (K8 ids' (σ'.getD (ids'.idxOf i) ⟨0,0,JV 0,[]⟩) false) else h.getD i none),List.range' h.length n,?_,fun i hi=>((hmem i).1 hi).1,⟨by simp,fun i h1 h2 h3=>?_⟩⟩
 ·rw [hids]
  have:=m.lM
  refine ⟨⟨false,by simp,by rw [hget _ M (by omega),if_pos rfl]⟩,lids,by rw [← hids];have:=m.k0;simp;omega,fun j c hj=>⟨false,?_⟩,nd,hM,by simp;omega,fun i hi=>by simpa using l1 i hi⟩
  have hj':j < ids'.length:=by
   rw [lids]
   rcases Nat.lt_or_ge j σ'.length with g | g
   ·exact g
   ·rw [List.getElem?_eq_none g] at hj;simp at hj
  have hm:=JO hj'
  have hne:ids'.getD j 0≠M:=fun e=>hM (e ▸ hm)
  rw [hget _ _ (l1 _ hm),if_neg hne,if_pos hm]
  have:ids'.idxOf (ids'.getD j 0)=j:=by
   rw [List.getD_eq_getElem?_getD,List.getElem?_eq_getElem hj',Option.getD_some]
   exact nd.idxOf_getElem j hj'
  rw [this,List.getD_eq_getElem?_getD,hj];rfl
 ·have h4:i ∉ ids':=fun hi=>by
   rw [← hids] at hi
   rcases List.mem_append.1 hi with hi | hi
   ·exact h3 hi
   ·have:=(hmem i).1 hi;omega
  rw [hget _ i (by omega),if_neg h2,if_neg h4,List.getD_eq_getElem?_getD,List.getElem?_eq_getElem h1];rfl
def Kl (M:Nat) (h:List Box):Prop:=∃ a b c d cs l,h[M]?=some (some [a,b,c,d,cs,N l,B true])
def failV (r:LV):Prop:=∃ a b x y e,r=.tup [.agg [N a,N b,x,y],e]
theorem VH {O m:Nat} {vs:List LV} {R:LV→List Box→Prop} {e:Exit} {s:St} (he:e=.normal∨e=.ret) (h8:s.t 8=.ptr O 0) (hb:s.h[O]?=some (some vs)) (h4:vs.length=4) (hm:m≤s.h.length) (hR:R (.tup [.agg vs,s.t 9]) (s.h.set O (some (shareAll vs)))) :
  J2 [.cell 8 true 4,.tmp 9] m R e s:=by
 refine ⟨he,[.agg vs,s.t 9],⟨upd s.t 9 (share (s.t 9)),s.h.set O (some (shareAll vs))⟩,(s.h.set O (some (shareAll vs))).length,?_,by rw [List.length_set];exact hm,Nat.le_refl _,.inl rfl,?_⟩
 ·simp [Yh,Zfh,h8,hb,h4,Wm]
 ·rw [List.take_of_length_le (Nat.le_refl _)];exact hR
def Vs (e:List Nat):List Int:=e.map fun (j:Nat)=>(j:Int)
@[simp] theorem envN_length (e:List Nat):(Vs e).length=e.length:=by simp [Vs]
def ZaS (c:PC) (nl:Bool):List LV:=N c.b::N c.k::(c.t.cells++[L nl (Vs c.e)])
theorem Zhj (c:PC) (nl:Bool):(ZaS c nl).length=7:=by simp [ZaS]
def ZcT:List PC→List LV→Prop
 | [],xs=>xs=[]
 | c::σ,xs=>∃ nl ys,xs=ZaS c nl++ys∧ZcT σ ys
theorem ZcT.len:∀ {σ:List PC} {xs:List LV},ZcT σ xs→xs.length=σ.length * 7
 | [],xs,h=>by subst h;rfl
 | c::σ,xs,h=>by
  obtain ⟨nl,ys,rfl,h2⟩:=h
  rw [List.length_append,Zhj,h2.len,List.length_cons];omega
theorem ZcT.snoc:∀ {σ:List PC} {xs:List LV} {c:PC} {nl:Bool},ZcT σ xs→ZcT (σ++[c]) (xs++ZaS c nl)
 | [],xs,c,nl,h=>by subst h;exact ⟨nl,[],by simp,rfl⟩
 | c'::σ,xs,c,nl,h=>by
  obtain ⟨nl',ys,rfl,h2⟩:=h
  exact ⟨nl',ys++ZaS c nl,by simp,h2.snoc⟩
theorem ZcT.at:∀ {σ:List PC} {xs:List LV} {j:Nat} {c:PC},ZcT σ xs→σ[j]?=some c→∃ nl a b,xs=a++(ZaS c nl++b)∧a.length=j * 7∧∀ (k:Int),ZcT (σ.set j { c with k:=k }) (a++(ZaS { c with k:=k } nl++b))
 | [],xs,j,c,h,hj=>by simp at hj
 | c'::σ,xs,0,c,h,hj=>by
  simp at hj;subst hj
  obtain ⟨nl,ys,rfl,h2⟩:=h
  exact ⟨nl,[],ys,by simp,by simp,fun k=>⟨nl,ys,by simp,h2⟩⟩
 | c'::σ,xs,j+1,c,h,hj=>by
  obtain ⟨nl',ys,rfl,h2⟩:=h
  obtain ⟨nl,a,b,rfl,h3,h4⟩:=h2.at (j:=j) (c:=c) (by simpa using hj)
  exact ⟨nl,ZaS c' nl'++a,b,by simp,by rw [List.length_append,Zhj,h3];omega,fun k=>⟨nl',a++(ZaS { c with k:=k } nl++b),by simp,by simpa using h4 k⟩⟩
structure RS (s:GSys) (M:Nat) (hbs:List Nat) (h:List Box) (l:Nat) (σ:List PC):Prop where
 lM:M < h.length
 main:(∃ z:Nat,σ=[]∧hbs=[]∧h[M]?=some (some (s.cells++[.sl true true z [],N l]))) ∨
  (∃ b cap sl xs,hbs=[b]∧b≠M∧b < h.length∧σ≠[]∧h[M]?=some (some (s.cells++[.ha b 7 0 σ.length cap,N l]))∧h[b]?=some (some (xs++List.replicate sl .dead))∧ZcT σ xs∧σ.length * 7+sl=cap * 7)
section
variable {s:GSys} {M:Nat} {hbs:List Nat} {h h':List Box} {l:Nat} {σ:List PC}
theorem RS.nM (m:RS s M hbs h l σ):M ∉ hbs:=by
 rcases m.main with ⟨_,_,rfl,_⟩ | ⟨b,cap,sl,xs,rfl,h1,_⟩
 ·simp
 ·simpa using h1.symm
theorem RS.lt (m:RS s M hbs h l σ):∀ i∈hbs,i < h.length:=by
 rcases m.main with ⟨_,_,rfl,_⟩ | ⟨b,cap,sl,xs,rfl,h1,h2,_⟩
 ·simp
 ·intro i hi;simp at hi;subst hi;exact h2
theorem RS.other (m:RS s M hbs h l σ) (hl:h.length≤h'.length) (hs:∀ i,i=M∨i∈hbs→h'[i]?=h[i]?):RS s M hbs h' l σ:=by
 refine ⟨by have:=m.lM;omega,?_⟩
 rcases m.main with ⟨z,h1,h2,h3⟩ | ⟨b,cap,sl,xs,h1,h2,h3,h4,h5,h6,h7,h8⟩
 ·exact .inl ⟨z,h1,h2,by rw [hs M (.inl rfl)];exact h3⟩
 ·exact .inr ⟨b,cap,sl,xs,h1,h2,by omega,h4,by rw [hs M (.inl rfl)];exact h5,by rw [hs b (.inr (by simp [h1]))];exact h6,h7,h8⟩
theorem RS.app (m:RS s M hbs h l σ) (k:List Box):RS s M hbs (h++k) l σ :=
 m.other (by simp) fun i hi=>List.getElem?_append_left (by rcases hi with rfl | hi;exact m.lM;exact m.lt i hi)
theorem RS.set (m:RS s M hbs h l σ) {O:Nat} (h1:O≠M) (h2:O ∉ hbs) (x:Box):RS s M hbs (h.set O x) l σ :=
 m.other (by simp) fun i hi=>List.getElem?_set_ne (by rcases hi with rfl | hi;exact h1;rintro rfl;exact h2 hi)
theorem RS.ex (m:RS s M hbs h l σ) (l':Nat) (σ':List PC) (hl:σ.length≤σ'.length):∃ hbs' h',RS s M hbs' h' l' σ'∧Fr M hbs h h'∧∀ i∈hbs',i∈hbs∨h.length≤i:=by
 have hr:∀ τ:List PC,∃ xs,ZcT τ xs:=fun τ=>by
  induction τ with
  | nil=>exact ⟨[],rfl⟩
  | cons c τ ih=>obtain ⟨xs,hx⟩:=ih;exact ⟨_,false,xs,rfl,hx⟩
 obtain ⟨xs,hx⟩:=hr σ'
 have lM:=m.lM
 by_cases h0:σ'=[]
 ·subst h0
  refine ⟨[],h.set M (some (s.cells++[.sl true true 7 [],N l'])),⟨by rw [List.length_set];exact lM,.inl ⟨7,rfl,rfl,by rw [List.getElem?_set_self lM]⟩⟩,(Fr.refl M hbs h).setM _,by simp⟩
 ·refine ⟨[h.length],(h++[some xs]).set M (some (s.cells++[.ha h.length 7 0 σ'.length σ'.length,N l'])),⟨by simp;omega,.inr ⟨h.length,σ'.length,0,xs,rfl,by omega,by simp,h0,?_,?_,hx,by omega⟩⟩,(Fr.app M hbs h _).setM _,by simp⟩
  ·rw [List.getElem?_set_self (by simp;omega)]
  ·rw [List.getElem?_set_ne (by omega)];simp
end
theorem KA (nl:Bool) (c:Nat) (e:List Nat) (he:e.length≤1000000):Qe Tryz.prog Yi [N c,L nl (Vs e)] (·=OU true false (Vs (c::e))):=by
 refine Qe.of_codeOf ZiO Qz (by simp) ⟨_,rfl,by simp⟩ ?_
 have hm:1+e.length≤WV:=by have:WV=1099511627776:=rfl;omega
 simp (disch:=omega) [Zdu,Ql,WC,hm]
 simp [Vs]
theorem with_ok (n1 n2:Bool) (env fr:List Nat) (hab:fr.length+env.length≤1000000) (h:List Box) :
  QD Tryz.prog ZE [PL false n1 env,PL false n2 fr] h (fun r h'=>h'=h∧r=catP (fr++env)):=by
 refine QD.of_codeOf ZnA Qz (by simp) ⟨_,_,rfl,rfl⟩ ?_
 simp (disch:=omega) [ZgV,Ql]
 refine Qk (Zo7 n2 n1 fr env hab h) ?_
 rintro r h' ⟨rfl,rfl⟩
 simp (disch:=omega)
 exact QK (by simp) (Nat.le_refl _) ⟨rfl,by simp⟩
section
variable {s:GSys} {M k0:Nat} {h:List Box} {l:Nat} {σ:List PC} {ids:List Nat}
theorem Q5 {h k:List Box} {i:Nat} (hi:i < h.length):(h++k)[i]?=h[i]?:=List.getElem?_append_left hi
theorem QN {h k:List Box}:(h++k)[h.length]?=k[0]?:=by rw [List.getElem?_append_right (Nat.le_refl _)];simp
theorem XQ {h k:List Box}:(h++k)[h.length+1]?=k[1]?:=by rw [List.getElem?_append_right (by omega)];simp
theorem Zgm (m:MS s M k0 h l σ ids) (bd:BD s l σ) (b:Int) (t:GTerm) (e:List Nat) (nl:Bool) (he:BE l σ e) (hm:σ.length≤100000) (G0:s.G 0) :
  QD Tryz.prog WQ [.ptr M 0,N b,t.lv,PL false nl (Y6 ids e)] h (fun r h'=>∃ p,r=.ptr p 0∧h.length≤p∧MS s M k0 h' l (σ++[⟨b,0,t,e⟩]) (ids++[p])∧Fr M ids h h'):=by
 obtain ⟨nm,hnm,hb⟩:=m.box
 have lM:=m.lM
 have lids:(ids.drop k0).length≤100000:=by have:=m.len;simp;omega
 have hne:h.length+1≠M:=by omega
 have hni:h.length+1 ∉ ids:=fun hi=>by have:=m.lt _ hi;omega
 have m1:=m.app [none,some (K8 ids ⟨b,0,t,e⟩ nl)]
 have f1:MS s M k0 ((h++[none,some (K8 ids ⟨b,0,t,e⟩ nl)]).set M (some (s.cells++[PL true false (ids.drop k0++[h.length+1]),N l,B false]))) l (σ++[⟨b,0,t,e⟩]) (ids++[h.length+1]) :=
  m1.snoc ⟨nl,by rw [List.getElem?_append_right (by omega)];simp⟩ hni hne (by simp) bd he.2 rfl
 have f2:Fr M ids h ((h++[none,some (K8 ids ⟨b,0,t,e⟩ nl)]).set M (some (s.cells++[PL true false (ids.drop k0++[h.length+1]),N l,B false]))):=(Fr.app M ids h _).setM _
 have hF:∃ (r:LV) (h':List Box),∃ p,r=LV.ptr p 0∧h.length≤p∧MS s M k0 h' l (σ++[⟨b,0,t,e⟩]) (ids++[p])∧Fr M ids h h':=⟨_,_,h.length+1,rfl,by omega,f1,f2⟩
 refine QD.of_codeOf ZcC Qz (by simp) hF ?_
 simp only [GSys.cells,List.cons_append,List.nil_append] at hb f1 f2
 have ga:∀ k:List Box,(h++k)[M]?=h[M]?:=fun k=>Q5 lM
 have gs:∀ (k:List Box) (x:Box),(h++k).set M x=h.set M x++k:=fun k x=>List.set_append_left _ _ lM
 have gt:∀ (k:List Box) (x:Box),(h.set M x++k)[M]?=some x:=fun k x=>by rw [List.getElem?_append_left (by rw [List.length_set];exact lM),List.getElem?_set_self lM]
 have gu:∀ (k:List Box) (x y:Box),(h.set M x++k).set M y=h.set M y++k:=fun k x y=>by rw [List.set_append_left _ _ (by rw [List.length_set];exact lM),List.set_set]
 obtain ⟨op,n,nl1,ty,nl2,ks⟩:=t
 simp only [K8,GTerm.cells,List.cons_append,List.nil_append] at f1 f2
 rw [gs] at f1 f2
 have hmm:WV=1099511627776:=rfl
 have hlen:(ids.drop k0).length+1≤WV:=by omega
 generalize ids.drop k0=dr at *
 clear lM m1 hne
 simp (disch:=omega) [Km,ga,gs,gt,gu,QN,XQ,hb,Qu,Qo,Y5,Ql,WC,GTerm.cells]
 refine ⟨by omega,QK (by simp) (by simp) ⟨h.length+1,by simp,by omega,?_,?_⟩⟩
 ·simpa [PL] using f1
 ·simpa [PL] using f2
end
theorem Zgf {M:Nat} {h:List Box} (hf:Kl M h) (x0 x1 x2 x3 ev qv:LV):QD Tryz.prog QF [.ptr M 0,.agg [x0,x1,x2,x3],ev,qv] h (fun r h'=>Kl M h'∧Fr M [] h h'∧failV r):=by
 obtain ⟨a,b,c,d,cs,l,hb⟩:=hf
 have lM:M < h.length:=by
  rcases Nat.lt_or_ge M h.length with g | g
  ·exact g
  ·rw [List.getElem?_eq_none g] at hb;simp at hb
 refine QD.of_codeOf JY Qz (by simp) ⟨.tup [.agg [N 0,N 0,N 0,N 0],N 0],h,⟨a,b,c,d,cs,l,hb⟩,Fr.refl _ _ _,⟨0,0,N 0,N 0,N 0,rfl⟩⟩ ?_
 have ga:∀ k:List Box,(h++k)[M]?=h[M]?:=fun k=>Q5 lM
 have gs:∀ (k:List Box) (x:Box),(h++k).set M x=h.set M x++k:=fun k x=>List.set_append_left _ _ lM
 have gt:∀ (k:List Box) (x:Box),(h.set M x++k)[M]?=some x:=fun k x=>by rw [List.getElem?_append_left (by rw [List.length_set];exact lM),List.getElem?_set_self lM]
 have gu:∀ (k:List Box) (x y:Box),(h.set M x++k).set M y=h.set M y++k:=fun k x y=>by rw [List.set_append_left _ _ (by rw [List.length_set];exact lM),List.set_set]
 have gl:∀ (k:List Box) (x:Box),(h.set M x++k)[h.length]?=k[0]?:=fun k x=>by rw [List.getElem?_append_right (by simp)];simp
 have gl1:∀ (k:List Box) (x:Box),(h.set M x++k)[h.length+1]?=k[1]?:=fun k x=>by rw [List.getElem?_append_right (by simp)];simp
 have gw1:∀ (k:List Box) (x y:Box),(h.set M x++k).set (h.length+1) y=h.set M x++k.set 1 y:=fun k x y=>by rw [List.set_append_right _ _ (by simp)];simp
 have f0:∀ (k:List Box) (n:Int),Kl M (h.set M (some [a,b,c,d,cs,N n,B true])++k):=fun k n=>⟨a,b,c,d,cs,n,gt _ _⟩
 have f1:∀ (k:List Box) (x:Box),Fr M [] h (h.set M x++k):=fun k x=>by rw [← gs];exact (Fr.app M [] h k).setM x
 clear lM
 simp (disch:=omega) [Za,ga,gs,gt,gu,QN,XQ,hb,Qu,Qo]
 (with_reducible first | refine Qm (fun c0=>?_) (fun c0=>?_) | refine Qn (fun c0=>?_) (fun c0=>?_))
 all_goals
  simp (disch:=omega) [ga,gs,gt,gu,gl,gl1,gw1,hb,Qu,Qo]
  refine VH (O:=h.length+1) (by simp) (by simp) (by simp [gl1];rfl) (by simp) (by simp) ?_
  simp [gw1]
  exact ⟨f0 _ _,f1 _ _,⟨0,0,_,_,_,rfl⟩⟩
def JL (v:GTerm) (vs:List LV):Prop:=vs=v.cells∨∃ n u,v=JV n∧vs=[N 1,N n,.sl u true 1 [],.sl u true 1 []]
theorem JL.len {v:GTerm} {vs:List LV} (h:JL v vs):vs.length=4:=by
 rcases h with rfl | ⟨n,u,rfl,rfl⟩
 ·simp
 ·rfl
theorem JL.num {v:GTerm} {vs:List LV} (h:JL v vs):∃ x y,vs=[N v.opc,N v.num,x,y]:=by
 rcases h with rfl | ⟨n,u,rfl,rfl⟩
 ·cases v;exact ⟨_,_,rfl⟩
 ·exact ⟨_,_,rfl⟩
theorem JL.kids {v:GTerm} {vs:List LV} (h:JL v vs) (hk:0 < v.kidn):vs=v.cells:=by
 rcases h with rfl | ⟨n,u,rfl,rfl⟩
 ·rfl
 ·simp [JV,GTerm.kidn] at hk
theorem JL.share {v:GTerm} {vs:List LV} (h:JL v vs):JL v (shareAll vs):=by
 rcases h with rfl | ⟨n,u,rfl,rfl⟩
 ·left;simp
 ·right;exact ⟨n,false,rfl,by simp⟩
def Jm (s:GSys) (M k0:Nat) (h:List Box) (ids:List Nat) (res:LR) (r:LV) (h':List Box):Prop:=match res with
 | .stuck=>True
 | .fail=>Kl M h'∧Fr M ids h h'∧failV r
 | .ok l σ v e=>∃ new u nl vs,(∀ i∈new,h.length≤i)∧MS s M k0 h' l σ (ids++new)∧Fr M ids h h'∧JL v vs∧r=.tup [.agg vs,PL u nl (Y6 (ids++new) e)]
section
variable {s:GSys} {M k0:Nat} {h H H1:List Box} {ids new:List Nat} {res:LR} {r:LV}
theorem Jm.el (hr:Jm s M k0 H ids res r H1) (hs:res≠.stuck):(∃ vs e,r=.tup [.agg vs,e]∧vs.length=4)∧Fr M ids H H1:=by
 cases res with
 | stuck=>exact absurd rfl hs
 | fail =>
  obtain ⟨_,h2,a,b,x,y,e,rfl⟩:=hr
  exact ⟨⟨_,_,rfl,rfl⟩,h2⟩
 | ok l σ v e =>
  obtain ⟨new,u,nl,vs,h1,h2,h3,h4,rfl⟩:=hr
  exact ⟨⟨_,_,rfl,h4.len⟩,h3⟩
theorem Jm.up {vs:List LV} {e:LV} (hr:Jm s M k0 H (ids++new) res (.tup [.agg vs,e]) H1) (hn:∀ i∈new,h.length≤i) (f:Fr M ids h H) {O:Nat} (o1:h.length≤O) (o2:O < H.length) (o3:O≠M) (o4:O ∉ ids++new) (x:Box) :
  Jm s M k0 h ids res (.tup [.agg vs,e]) (H1.set O x):=by
 cases res with
 | stuck=>trivial
 | fail =>
  obtain ⟨⟨a,b,c,d,cs,l,h1⟩,h2,h3⟩:=hr
  exact ⟨⟨a,b,c,d,cs,l,by rw [List.getElem?_set_ne o3];exact h1⟩,(f.trans h2 hn).set o1 x,h3⟩
 | ok l σ v e' =>
  obtain ⟨new2,u,nl,vs',h1,h2,h3,h4,h5⟩:=hr
  refine ⟨new++new2,u,nl,vs',fun i hi=>?_,?_,(f.trans h3 hn).set o1 x,h4,by rw [h5,List.append_assoc]⟩
  ·rcases List.mem_append.1 hi with hi | hi
   ·exact hn i hi
   ·have:=h1 i hi;have:=f.len;omega
  ·rw [← List.append_assoc]
   refine h2.set o3 (fun hi=>?_) x
   rcases List.mem_append.1 hi with hi | hi
   ·exact o4 hi
   ·have:=h1 O hi;omega
end
theorem Jm.ex {s:GSys} {M k0:Nat} {h:List Box} {l:Nat} {σ:List PC} {ids:List Nat} (m:MS s M k0 h l σ ids) {res:LR} (hs:res≠.stuck) (hl:∀ l' σ' v e,res=.ok l' σ' v e→σ.length≤σ'.length):∃ r h',Jm s M k0 h ids res r h':=by
 cases res with
 | stuck=>exact absurd rfl hs
 | fail =>
  refine ⟨.tup [.agg [N 0,N 0,N 0,N 0],N 0],h.set M (some [N 0,N 0,N 0,N 0,N 0,N 0,B true]),⟨_,_,_,_,_,0,by rw [List.getElem?_set_self m.lM]⟩,(Fr.refl _ _ _).setM _,⟨0,0,N 0,N 0,N 0,rfl⟩⟩
 | ok l' σ' v e =>
  obtain ⟨h',new,h1,h2,h3⟩:=m.ex l' σ' (hl _ _ _ _ rfl)
  exact ⟨_,h',new,true,false,v.cells,h2,h1,h3,.inl rfl,rfl⟩
theorem ZlC {s:GSys} {M k0:Nat} {h H H1:List Box} {ids new:List Nat} {res:LR} {vs:List LV} {e:LV} {O:Nat} {st:St} (hr:Jm s M k0 H (ids++new) res (.tup [.agg vs,e]) H1) (f1:Fr M (ids++new) H H1) (v4:vs.length=4) (hn:∀ i∈new,h.length≤i) (f:Fr M ids h H)
  (o1:h.length≤O) (o2:O < H.length) (o3:O≠M) (o4:O ∉ ids++new) (h8:st.t 8=.ptr O 0) (h9:st.t 9=e) (hh:st.h=H1.set O (some vs)):J2 [.cell 8 true 4,.tmp 9] h.length (Jm s M k0 h ids res) .ret st:=by
 have l1:=f1.len
 have l0:=f.len
 refine VH (.inr rfl) h8 (by rw [hh,List.getElem?_set_self (by omega)]) v4 (by rw [hh,List.length_set];omega) ?_
 rw [hh,List.set_set,h9]
 exact hr.up hn f o1 o2 o3 o4 _
theorem Zo8 {s:GSys} {M k0:Nat} {h H H1:List Box} {ids:List Nat} {res:LR} {vs:List LV} {e:LV} {O:Nat} {st:St} (hr:Jm s M k0 H ids res (.tup [.agg vs,e]) H1) (f1:Fr M ids H H1) (v4:vs.length=4) (f:Fr M ids h H)
  (o1:h.length≤O) (o2:O < H.length) (o3:O≠M) (o4:O ∉ ids) (h8:st.t 8=.ptr O 0) (h9:st.t 9=e) (hh:st.h=H1.set O (some vs)):J2 [.cell 8 true 4,.tmp 9] h.length (Jm s M k0 h ids res) .ret st :=
 ZlC (new:=[]) (by rw [List.append_nil];exact hr) (by rw [List.append_nil];exact f1) v4 (by simp) f o1 o2 o3 (by rw [List.append_nil];exact o4) h8 h9 hh
theorem val_post {s:GSys} {M k0:Nat} {h H:List Box} {ids:List Nat} {l:Nat} {σ:List PC} {v:GTerm} {e:List Nat} {vs:List LV} {u nl:Bool} {O:Nat} {st:St} (m:MS s M k0 H l σ ids) (f:Fr M ids h H) (hv:JL v vs)
  (o1:h.length≤O) (o2:O < H.length) (o3:O≠M) (o4:O ∉ ids) (h8:st.t 8=.ptr O 0) (h9:st.t 9=PL u nl (Y6 ids e)) (hh:st.h=H.set O (some vs)):J2 [.cell 8 true 4,.tmp 9] h.length (Jm s M k0 h ids (.ok l σ v e)) .ret st:=by
 have l0:=f.len
 refine VH (.inr rfl) h8 (by rw [hh,List.getElem?_set_self o2]) hv.len (by rw [hh,List.length_set];omega) ?_
 rw [hh,List.set_set,h9]
 refine ⟨[],u,nl,vs,by simp,?_,f.set o1 _,hv,by rw [List.append_nil]⟩
 rw [List.append_nil]
 exact m.set o3 o4 _
theorem Ks {s:GSys} {M k0:Nat} {h H:List Box} {ids:List Nat} {O:Nat} {st:St} {ex:Exit} (he:ex=.normal∨ex=.ret) (hf:Kl M H) (f:Fr M ids h H)
  (o1:h.length≤O) (o2:O < H.length) (o3:O≠M) (h8:st.t 8=.ptr O 0) (hh:∃ a b x y,st.h=H.set O (some [N a,N b,x,y])):J2 [.cell 8 true 4,.tmp 9] h.length (Jm s M k0 h ids .fail) ex st:=by
 obtain ⟨a,b,x,y,hh⟩:=hh
 have l0:=f.len
 refine VH he h8 (by rw [hh,List.getElem?_set_self o2]) rfl (by rw [hh,List.length_set];omega) ?_
 rw [hh,List.set_set]
 obtain ⟨a',b',c,d,cs,l,h1⟩:=hf
 exact ⟨⟨a',b',c,d,cs,l,by rw [List.getElem?_set_ne o3];exact h1⟩,f.set o1 _,⟨a,b,x,y,_,rfl⟩⟩
theorem Kl.app {M:Nat} {h:List Box} (hf:Kl M h) (k:List Box):Kl M (h++k):=by
 obtain ⟨a,b,c,d,cs,l,h1⟩:=hf
 refine ⟨a,b,c,d,cs,l,?_⟩
 rw [List.getElem?_append_left ?_];exact h1
 rcases Nat.lt_or_ge M h.length with g | g
 ·exact g
 ·rw [List.getElem?_eq_none g] at h1;simp at h1
theorem Fr.mono {M:Nat} {ids new:List Nat} {h h':List Box} (f:Fr M ids h h'):Fr M (ids++new) h h':=⟨f.len,fun i h1 h2 h3=>f.same i h1 h2 fun h4=>h3 (List.mem_append_left _ h4)⟩
theorem Fr.appR {M:Nat} {ids:List Nat} {h h':List Box} (f:Fr M ids h h') (k:List Box):Fr M ids h (h'++k):=f.trans0 (Fr.app M ids h' k)
theorem twoG {l:List GTerm} (h:l.length=2):∃ a b,l=[a,b]:=by
 match l,h with
 | [a,b],_=>exact ⟨a,b,rfl⟩
theorem Zmn {l:List GTerm} (h:l.length=3):∃ a b c,l=[a,b,c]:=by
 match l,h with
 | [a,b,c],_=>exact ⟨a,b,c,rfl⟩
theorem oneG {l:List GTerm} (h:l.length=1):∃ a,l=[a]:=by
 match l,h with
 | [a],_=>exact ⟨a,rfl⟩
section
variable {s:GSys} {f:Nat→List PC→GTerm→List Nat→Int→LR} {l:Nat} {σ:List PC} {n:Int} {nl1 nl2:Bool} {ty:List Int} {ks:List GTerm} {env:List Nat} {q:Int}
theorem ZlZ:XA s f l σ (.mk 2 n nl1 ty nl2 ks) env q=if ks.length=2 then (f l σ (ks.getD 0 (JV 0)) env q).bind fun l1 σ1 v _=>if 0≤v.num∧v.num≤2 then (f l1 σ1 (ks.getD 1 (JV 0)) env q).bind fun l2 σ2 w _=>if 0≤w.num∧w.num≤2 then .ok l2 σ2 (JV ((v.num+w.num) % 3)) [] else .stuck else .stuck else .stuck:=rfl
theorem Zoh:XA s f l σ (.mk 3 n nl1 ty nl2 ks) env q=if ks.length=3 then (f l σ (ks.getD 0 (JV 0)) env q).bind fun l1 σ1 v _=>if v.num=0 then f l1 σ1 (ks.getD 1 (JV 0)) env q else f l1 σ1 (ks.getD 2 (JV 0)) env q else .stuck:=rfl
theorem Zlu:XA s f l σ (.mk 10 n nl1 ty nl2 ks) env q=if ks.length=2 then (f l σ (ks.getD 0 (JV 0)) env q).bind fun l1 σ1 v e=>if v.kidn=1∧s.has v.num=true then f l1 (σ1++[⟨s.tm q v.num,0,ks.getD 1 (JV 0),env⟩]) (v.kid 0) (σ1.length::e) q else .stuck else .stuck:=rfl
theorem Zhm:XA s f l σ (.mk 5 n nl1 ty nl2 ks) env q=if ks.length=2∧s.has n=true then (f l σ (ks.getD 0 (JV 0)) env (s.tm q n)).bind fun l1 σ1 v e=>if v.kidn=2 then f l1 (σ1++[⟨s.tm q n,0,v.kid 0,e⟩,⟨s.tm q n,0,v.kid 1,e⟩]) (ks.getD 1 (JV 0)) ((σ1.length+1)::σ1.length::env) q else .stuck else .stuck:=rfl
theorem Zjk:XA s f l σ (.mk 8 n nl1 ty nl2 ks) env q=if ks.length=3∧s.has n=true then (f l σ (ks.getD 0 (JV 0)) env (s.tm q n)).bind fun l1 σ1 v e=>if v.kidn=1∧(v.opc=6∨v.opc=7) then f l1 (σ1++[⟨s.tm q n,0,v.kid 0,e⟩]) (if v.opc=7 then ks.getD 2 (JV 0) else ks.getD 1 (JV 0)) (σ1.length::env) q else .stuck else .stuck:=rfl
theorem Zi1:XA s f l σ (.mk 12 n nl1 ty nl2 ks) env q=if ks.length=2∧s.has n=true then (f l σ (ks.getD 0 (JV 0)) env (s.tm q n)).bind fun l1 σ1 v e=>if v.kidn=1∧s.has v.num=true then f l1 (σ1++[⟨s.tm (s.tm q n) v.num,0,v.kid 0,e⟩]) (ks.getD 1 (JV 0)) (σ1.length::env) q else .stuck else .stuck:=rfl
end
theorem JS:eqB 2 0=false∧eqB 2 2=true∧eqB 3 0=false∧eqB 3 2=false∧eqB 3 3=true∧eqB 10 0=false∧eqB 10 2=false∧eqB 10 3=false∧eqB 10 10=true∧eqB 5 0=false∧eqB 5 2=false∧eqB 5 3=false∧eqB 5 10=false∧eqB 5 5=true∧eqB 8 0=false∧eqB 8 2=false∧eqB 8 3=false∧eqB 8 10=false∧eqB 8 5=false∧eqB 8 8=true∧eqB 12 0=false∧eqB 12 2=false∧eqB 12 3=false∧eqB 12 10=false∧eqB 12 5=false∧eqB 12 8=false∧eqB 12 12=true:=by decide
structure LkN (s:GSys) (M k0:Nat) (h H:List Box) (l:Nat) (σ:List PC) (ids new:List Nat) (O:Nat):Prop where
 ms:MS s M k0 H l σ (ids++new)
 fr:Fr M ids h H
 hn:∀ i∈new,h.length≤i
 o1:h.length≤O
 o2:O < H.length
 o3:O≠M
 o4:O ∉ ids++new
 box:H[O]?=some (some [N 0,N 0,.sl true true 1 [],.sl true true 1 []])
section
variable {s:GSys} {M k0:Nat} {h H H1:List Box} {l l1:Nat} {σ σ1:List PC} {ids new:List Nat} {O:Nat} {r:LV} {v:GTerm} {e:List Nat}
theorem LkN.next (A:LkN s M k0 h H l σ ids new O) (hr:Jm s M k0 H (ids++new) (.ok l1 σ1 v e) r H1):∃ new' u nl vs,JL v vs∧r=.tup [.agg vs,PL u nl (Y6 (ids++new') e)]∧LkN s M k0 h H1 l1 σ1 ids new' O:=by
 obtain ⟨n2,u,nl,vs,h1,h2,h3,h4,rfl⟩:=hr
 have l0:=A.fr.len
 have o2:=A.o2
 refine ⟨new++n2,u,nl,vs,h4,by rw [List.append_assoc],by rw [← List.append_assoc];exact h2,A.fr.trans h3 A.hn,fun i hi=>?_,A.o1,by have:=h3.len;omega,A.o3,?_,by rw [h3.same O A.o2 A.o3 A.o4];exact A.box⟩
 ·rcases List.mem_append.1 hi with hi | hi
  ·exact A.hn i hi
  ·have:=h1 i hi;omega
 ·rw [← List.append_assoc]
  intro hi
  rcases List.mem_append.1 hi with hi | hi
  ·exact A.o4 hi
  ·have:=h1 O hi;omega
theorem LkN.app (A:LkN s M k0 h H l σ ids new O) (k:List Box):LkN s M k0 h (H++k) l σ ids new O :=
 ⟨A.ms.app k,A.fr.appR k,A.hn,A.o1,by have:=A.o2;simp;omega,A.o3,A.o4,by rw [Q5 A.o2];exact A.box⟩
theorem LkN.fails (A:LkN s M k0 h H l σ ids new O) (hr:Jm s M k0 H (ids++new) .fail r H1):Kl M H1∧Fr M ids h H1∧O < H1.length∧H1[O]?=some (some [N 0,N 0,.sl true true 1 [],.sl true true 1 []])∧failV r:=by
 obtain ⟨h1,h2,h3⟩:=hr
 exact ⟨h1,A.fr.trans h2 A.hn,by have:=h2.len;have:=A.o2;omega,by rw [h2.same O A.o2 A.o3 A.o4];exact A.box,h3⟩
theorem LkN.tail (A:LkN s M k0 h H l σ ids new O) {res:LR} (hs:res≠.stuck) (hr:Jm s M k0 H (ids++new) res r H1):∃ vs e,r=.tup [.agg vs,e]∧vs.length=4∧H1[O]?=some (some [N 0,N 0,.sl true true 1 [],.sl true true 1 []]) ∧
  ∀ st:St,st.t 8=.ptr O 0→st.t 9=e→st.h=H1.set O (some vs)→J2 [.cell 8 true 4,.tmp 9] h.length (Jm s M k0 h ids res) .ret st:=by
 obtain ⟨⟨vs,e',rfl,v4⟩,f3⟩:=hr.el hs
 exact ⟨vs,e',rfl,v4,by rw [f3.same O A.o2 A.o3 A.o4];exact A.box,fun st a b c=>ZlC hr f3 v4 A.hn A.fr A.o1 A.o2 A.o3 A.o4 a b c⟩
theorem LkN.val (A:LkN s M k0 h H l σ ids new O) {vs:List LV} (hv:JL v vs) {u nl:Bool} {st:St} (h8:st.t 8=.ptr O 0) (h9:st.t 9=PL u nl (Y6 (ids++new) e)) (hh:st.h=H.set O (some vs)):J2 [.cell 8 true 4,.tmp 9] h.length (Jm s M k0 h ids (.ok l σ v e)) .ret st:=by
 have l0:=A.fr.len
 refine VH (.inr rfl) h8 (by rw [hh,List.getElem?_set_self A.o2]) hv.len (by rw [hh,List.length_set];omega) ?_
 rw [hh,List.set_set,h9]
 exact ⟨new,u,nl,vs,A.hn,A.ms.set A.o3 A.o4 _,A.fr.set A.o1 _,hv,rfl⟩
theorem LkN.env (A:LkN s M k0 h H l σ ids new O) (hb:∀ j∈e,j < ids.length):Y6 ids e=Y6 (ids++new) e:=(VI new hb).symm
theorem LkN.cell (A:LkN s M k0 h H l σ ids new O) {c:PC} {p:Nat} (hp:H.length≤p) (hms:MS s M k0 H1 l (σ++[c]) (ids++new++[p])) (hf:Fr M (ids++new) H H1):LkN s M k0 h H1 l (σ++[c]) ids (new++[p]) O∧H1[O]?=some (some [N 0,N 0,.sl true true 1 [],.sl true true 1 []]):=by
 have l0:=A.fr.len
 have o2:=A.o2
 have hb:H1[O]?=some (some [N 0,N 0,.sl true true 1 [],.sl true true 1 []]):=by rw [hf.same O A.o2 A.o3 A.o4];exact A.box
 refine ⟨⟨by rw [← List.append_assoc];exact hms,A.fr.trans hf A.hn,fun i hi=>?_,A.o1,by have:=hf.len;omega,A.o3,?_,hb⟩,hb⟩
 ·rcases List.mem_append.1 hi with hi | hi
  ·exact A.hn i hi
  ·simp at hi;omega
 ·rw [← List.append_assoc]
  intro hi
  rcases List.mem_append.1 hi with hi | hi
  ·exact A.o4 hi
  ·simp at hi;omega
end
theorem ZcS (n1 n2:Bool) (env fr:List Nat) (hab:fr.length+env.length≤1000000) (h:List Box):QD Tryz.prog ZE [PL false n1 env,PL false n2 fr] h (fun r h'=>h'=h∧∃ u nl,r=PL u nl (fr++env)) :=
 (with_ok n1 n2 env fr hab h).mono fun r h' ⟨h1,h2⟩=>⟨h1,_,_,h2⟩
theorem Zf9 {ids new e:List Nat} {p n:Nat} (hl:(ids++new).length=n) (he:∀ j∈e,j < n):[p]++Y6 (ids++new) e=Y6 (ids++(new++[p])) (n::e):=by
 have h1:Y6 (ids++(new++[p])) e=Y6 (ids++new) e:=by rw [← List.append_assoc];exact VI [p] (by rw [hl];exact he)
 have h2:(ids++(new++[p])).getD n 0=p:=by rw [← List.append_assoc,← hl];simp [List.getD_eq_getElem?_getD]
 show _=(ids++(new++[p])).getD n 0::Y6 (ids++(new++[p])) e
 rw [h1,h2];rfl
theorem front2 {ids new e:List Nat} {p p2 n:Nat} (hl:(ids++new).length=n) (he:∀ j∈e,j < n):[p2,p]++Y6 (ids++new) e=Y6 (ids++(new++[p,p2])) ((n+1)::n::e):=by
 have e13:new++[p,p2]=new++[p]++[p2]:=by simp
 rw [e13]
 have h1:=Zf9 (p:=p) hl he
 have h3:=Zf9 (ids:=ids) (new:=new++[p]) (p:=p2) (n:=n+1) (e:=n::e) (by rw [← List.append_assoc,List.length_append,hl];rfl) (fun j hj=>by
  rcases List.mem_cons.1 hj with rfl | hj
  ·omega
  ·have:=he j hj;omega)
 rw [← h3,← h1];rfl
theorem ZmZ (a b c d e:Nat):(LV.ha a b c d e).flat=true∧(LV.ha a b c d e).cells=[LV.ha a b c d e]∧(LV.ha a b c d e).alive=true∧share (LV.ha a b c d e)=LV.ha a b c d e:=⟨rfl,rfl,rfl,by simp [share]⟩
theorem get_more {h k:List Box} {M:Nat} {x:Box}:(h.set M x++k)[h.length+1]?=k[1]?:=by rw [List.getElem?_append_right (by simp)];simp
def NewR (s:GSys) (M:Nat) (hbs:List Nat) (h:List Box) (l:Nat) (σ:List PC) (c:PC) (r:LV) (h':List Box):Prop :=
 r=N σ.length∧∃ hbs',RS s M hbs' h' l (σ++[c])∧Fr M hbs h h'∧∀ i∈hbs',i∈hbs∨h.length≤i
theorem Zbc {s:GSys} {M:Nat} {hbs:List Nat} {h:List Box} {l:Nat} {σ:List PC} (m:RS s M hbs h l σ) (b:Int) (t:GTerm) (e:List Nat) (nl:Bool) (hm:σ.length≤100000) :
  QD Tryz.prog Ze [.ptr M 0,N b,t.lv,L nl (Vs e)] h (NewR s M hbs h l σ ⟨b,0,t,e⟩):=by
 have hex:∃ (r:LV) (h':List Box),NewR s M hbs h l σ ⟨b,0,t,e⟩ r h':=by
  obtain ⟨hbs',h',h1,h2,h3⟩:=m.ex l (σ++[⟨b,0,t,e⟩]) (by simp)
  exact ⟨_,h',rfl,hbs',h1,h2,h3⟩
 refine QD.of_codeOf Zng Qz (by simp) hex ?_
 have lM:=m.lM
 have hmm:WV=1099511627776:=rfl
 obtain ⟨op,n,nl1,ty,nl2,ks⟩:=t
 rcases m.main with ⟨z,rfl,rfl,hb⟩ | ⟨hB,cap,sl,xs,rfl,h1,h2,h3,hb,hx,hR,hc⟩
 ·simp only [GSys.cells,List.cons_append,List.nil_append] at hb
  have ga:∀ k:List Box,(h++k)[M]?=h[M]?:=fun k=>Q5 lM
  have gs:∀ (k:List Box) (x:Box),(h++k).set M x=h.set M x++k:=fun k x=>List.set_append_left _ _ lM
  have gt:∀ (k:List Box) (x:Box),(h.set M x++k)[M]?=some x:=fun k x=>by rw [List.getElem?_append_left (by rw [List.length_set];exact lM),List.getElem?_set_self lM]
  have gu:∀ (k:List Box) (x y:Box),(h.set M x++k).set M y=h.set M y++k:=fun k x y=>by rw [List.set_append_left _ _ (by rw [List.length_set];exact lM),List.set_set]
  have lM':∀ _:Unit,M < h.length:=fun _=>lM
  clear lM
  simp (disch:=omega) [ZbF,ga,gs,gt,gu,QN,XQ,hb,Qu,Qo,Y5,Ql,GTerm.cells]
  refine ZpP (by simp) (by simp [hmm]) ?_
  intro cap slack q1 q2
  simp (disch:=omega) [ga,gs,gt,gu,Qg,ZmZ]
  refine QK (R:=NewR s M [] h l [] ⟨b,0,.mk op n nl1 ty nl2 ks,e⟩) ?_ ?_ ⟨?_,[h.length+1],?_,?_,?_⟩
  ·simp
  ·simp
  ·simp
  ·refine ⟨by have:=lM' ();simp;omega,.inr ⟨h.length+1,cap,slack,ZaS ⟨b,0,.mk op n nl1 ty nl2 ks,e⟩ nl,rfl,by have:=lM' ();omega,by simp,by simp,?_,?_,⟨nl,[],by simp,rfl⟩,by simpa using q2⟩⟩
   ·simp only [gt]
    simp
   ·simp only [get_more]
    simp [ZaS,GTerm.cells]
  ·simp only [← gs]
   exact (Fr.app M [] h _).setM _
  ·simp
 ·simp only [GSys.cells,List.cons_append,List.nil_append] at hb
  have ga:∀ k:List Box,(h++k)[M]?=h[M]?:=fun k=>Q5 lM
  have gs:∀ (k:List Box) (x:Box),(h++k).set M x=h.set M x++k:=fun k x=>List.set_append_left _ _ lM
  have gt:∀ (k:List Box) (x:Box),(h.set M x++k)[M]?=some x:=fun k x=>by rw [List.getElem?_append_left (by rw [List.length_set];exact lM),List.getElem?_set_self lM]
  have gu:∀ (k:List Box) (x y:Box),(h.set M x++k).set M y=h.set M y++k:=fun k x y=>by rw [List.set_append_left _ _ (by rw [List.length_set];exact lM),List.set_set]
  have lM':∀ _:Unit,M < h.length:=fun _=>lM
  clear lM
  simp (disch:=omega) [ZbF,ga,gs,gt,gu,QN,XQ,hb,Qu,Qo,Y5,Ql,GTerm.cells]
  have hBs:∀ _:Unit,hB < h.length:=fun _=>h2
  have gx:∀ (k:List Box) (x:Box),(h.set M x++k)[hB]?=some (some (xs++List.replicate sl .dead)):=fun k x=>by rw [List.getElem?_append_left (by rw [List.length_set];exact h2),List.getElem?_set_ne (fun e=>h1 e.symm)];exact hx
  have gy:∀ (k:List Box) (x y:Box),(h.set M x++k).set hB y=(h.set M x).set hB y++k:=fun k x y=>List.set_append_left _ _ (by rw [List.length_set];exact h2)
  have gz:∀ (k:List Box) (x y:Box),((h.set M x).set hB y++k)[M]?=some x:=fun k x y=>by rw [List.getElem?_append_left (by rw [List.length_set,List.length_set];exact lM' ()),List.getElem?_set_ne h1,List.getElem?_set_self (lM' ())]
  have gv:∀ (k:List Box) (x y z:Box),((h.set M x).set hB y++k).set M z=(h.set M z).set hB y++k:=fun k x y z=>by rw [List.set_append_left _ _ (by rw [List.length_set,List.length_set];exact lM' ()),List.set_comm _ _ h1,List.set_set]
  have gq:∀ (k:List Box) (x y:Box),((h.set M x).set hB y++k)[hB]?=some y:=fun k x y=>by rw [List.getElem?_append_left (by rw [List.length_set,List.length_set];exact h2),List.getElem?_set_self (by rw [List.length_set];exact h2)]
  have xl:=hR.len
  clear h2
  refine Zp9 (by simp) (gx _ _) (by simp;omega) (by omega) (by simp [hmm];omega) ?_ ?_
  ·intro hin
   simp (disch:=omega) [ga,gs,gt,gu,gx,gy,gz,gv,Qg,ZmZ]
   have hin':σ.length+1≤cap:=by simpa using hin
   have ed:List.drop (σ.length * 7+7) (xs++List.replicate sl LV.dead)=List.replicate (sl - 7) .dead:=by
    rw [List.drop_append,List.drop_of_length_le (by omega),xl,show σ.length * 7+7 - σ.length * 7=7 by omega]
    simp
   rw [ed]
   refine QK (R:=NewR s M [hB] h l σ ⟨b,0,.mk op n nl1 ty nl2 ks,e⟩) ?_ ?_ ⟨?_,[hB],?_,?_,?_⟩
   ·simp
   ·simp
   ·simp
   ·refine ⟨by have:=lM' ();simp;omega,.inr ⟨hB,cap,sl - 7,xs++ZaS ⟨b,0,.mk op n nl1 ty nl2 ks,e⟩ nl,rfl,h1,by have:=hBs ();simp;omega,by simp,?_,?_,hR.snoc,by simp;omega⟩⟩
    ·simp only [gz]
     simp
    ·simp only [gq]
     simp [ZaS,GTerm.cells]
   ·exact (((Fr.refl M [hB] h).setM _).setI (by simp) _).appR _
   ·simp
  ·intro hout cap' slack q1 q2
   simp (disch:=omega) [ga,gs,gt,gu,gx,gy,gz,gv,Qg,ZmZ]
   refine QK (R:=NewR s M [hB] h l σ ⟨b,0,.mk op n nl1 ty nl2 ks,e⟩) ?_ ?_ ⟨?_,[h.length+1],?_,?_,?_⟩
   ·simp
   ·simp
   ·simp
   ·refine ⟨by have:=lM' ();simp;omega,.inr ⟨h.length+1,cap',slack,xs++ZaS ⟨b,0,.mk op n nl1 ty nl2 ks,e⟩ nl,rfl,by have:=lM' ();omega,by simp,by simp,?_,?_,hR.snoc,by simpa using q2⟩⟩
    ·simp only [gz]
     simp
    ·rw [List.getElem?_append_right (by simp)]
     simp [ZaS,GTerm.cells]
   ·exact (((Fr.refl M [hB] h).setM _).setI (by simp) _).appR _
   ·simp
def JJ (s:GSys) (M:Nat) (h:List Box) (hbs:List Nat) (res:LR) (r:LV) (h':List Box):Prop:=match res with
 | .stuck=>True
 | .fail=>Fr M hbs h h'∧∃ a b x y e,r=.tup [.agg [N a,N b,x,y],e,B false]
 | .ok l σ v e=>∃ hbs' u nl vs,(∀ i∈hbs',i∈hbs∨h.length≤i)∧RS s M hbs' h' l σ∧Fr M hbs h h'∧JL v vs∧r=.tup [.agg vs,OU u nl (Vs e),B true]
theorem Ze2 {O m:Nat} {vs:List LV} {R:LV→List Box→Prop} {e:Exit} {s:St} {b:Bool} (he:e=.normal∨e=.ret) (h8:s.t 8=.ptr O 0) (h10:s.t 10=B b) (hb:s.h[O]?=some (some vs)) (h4:vs.length=4) (hm:m≤s.h.length) (hR:R (.tup [.agg vs,s.t 9,B b]) (s.h.set O (some (shareAll vs)))) :
  J2 [.cell 8 true 4,.tmp 9,.tmp 10] m R e s:=by
 refine ⟨he,[.agg vs,s.t 9,B b],⟨upd (upd s.t 9 (share (s.t 9))) 10 (B b),s.h.set O (some (shareAll vs))⟩,(s.h.set O (some (shareAll vs))).length,?_,by rw [List.length_set];exact hm,Nat.le_refl _,.inl rfl,?_⟩
 ·simp [Yh,Zfh,h8,hb,h4,Wm,h10]
 ·rw [List.take_of_length_le (Nat.le_refl _)];exact hR
section
variable {s:GSys} {M:Nat} {h H H1:List Box} {l l1:Nat} {σ σ1:List PC} {h0 hbs:List Nat} {O:Nat} {r:LV} {v:GTerm} {e:List Nat} {res:LR}
theorem Fr.transH {h1 h2:List Box} (a:Fr M h0 h h1) (b:Fr M hbs h1 h2) (hn:∀ i∈hbs,i∈h0∨h.length≤i):Fr M h0 h h2 :=
 ⟨Nat.le_trans a.len b.len,fun i hi h3 h4=>by
  rw [b.same i (Nat.lt_of_lt_of_le hi a.len) h3 (fun h5=>?_),a.same i hi h3 h4]
  rcases hn i h5 with h5 | h5
  ·exact h4 h5
  ·omega⟩
theorem RS.tick (m:RS s M hbs h l σ) (l':Nat):∃ cs,h[M]?=some (some (s.cells++[cs,N l]))∧cs.flat=true∧cs.alive=true∧share cs=share cs∧RS s M hbs (h.set M (some (s.cells++[cs,N l']))) l' σ:=by
 have lM:=m.lM
 rcases m.main with ⟨z,rfl,rfl,h3⟩ | ⟨b,cap,sl,xs,rfl,h2,h3,h4,h5,h6,h7,h8⟩
 ·exact ⟨_,h3,rfl,rfl,rfl,by rw [List.length_set];exact lM,.inl ⟨z,rfl,rfl,by rw [List.getElem?_set_self lM]⟩⟩
 ·exact ⟨_,h5,rfl,rfl,rfl,by rw [List.length_set];exact lM,.inr ⟨b,cap,sl,xs,rfl,h2,by rw [List.length_set];exact h3,h4,by rw [List.getElem?_set_self lM],by rw [List.getElem?_set_ne (fun e=>h2 e.symm)];exact h6,h7,h8⟩⟩
theorem RS.cellAt (m:RS s M hbs h l σ) {j:Nat} {c:PC} (hj:σ[j]?=some c):∃ b cap nl a z,hbs=[b]∧b≠M∧b < h.length∧h[M]?=some (some (s.cells++[.ha b 7 0 σ.length cap,N l]))∧h[b]?=some (some (a++(ZaS c nl++z)))∧a.length=j * 7 ∧
  ∀ k:Int,RS s M hbs (h.set b (some (a++(ZaS { c with k:=k } nl++z)))) l (σ.set j { c with k:=k }):=by
 have lM:=m.lM
 rcases m.main with ⟨z,rfl,rfl,h3⟩ | ⟨b,cap,sl,xs,rfl,h2,h3,h4,h5,h6,h7,h8⟩
 ·simp at hj
 ·obtain ⟨nl,a,z,rfl,ha,hk⟩:=h7.at hj
  refine ⟨b,cap,nl,a,z++List.replicate sl .dead,rfl,h2,h3,h5,by rw [h6];simp,ha,fun k=>⟨by rw [List.length_set];exact lM,.inr ⟨b,cap,sl,_,rfl,h2,by rw [List.length_set];exact h3,?_,?_,?_,hk k,by rw [List.length_set];exact h8⟩⟩⟩
  ·intro e
   have:=congrArg List.length e
   rw [List.length_set] at this
   exact h4 (List.length_eq_zero_iff.1 this)
  ·rw [List.getElem?_set_ne h2,List.length_set];exact h5
  ·rw [List.getElem?_set_self h3];simp
structure RkN (s:GSys) (M:Nat) (h H:List Box) (l:Nat) (σ:List PC) (h0 hbs:List Nat) (O:Nat):Prop where
 ms:RS s M hbs H l σ
 fr:Fr M h0 h H
 hn:∀ i∈hbs,i∈h0∨h.length≤i
 o1:h.length≤O
 o2:O < H.length
 o3:O≠M
 o4:O ∉ hbs
 box:H[O]?=some (some [N 0,N 0,.sl true true 1 [],.sl true true 1 []])
theorem RkN.step (A:RkN s M h H l σ h0 hbs O) {hbs':List Nat} (h1:∀ i∈hbs',i∈hbs∨H.length≤i) (ms:RS s M hbs' H1 l1 σ1) (f:Fr M hbs H H1):RkN s M h H1 l1 σ1 h0 hbs' O:=by
 have l0:=A.fr.len
 have o2:=A.o2
 have o4:=A.o4
 refine ⟨ms,A.fr.transH f A.hn,fun i hi=>?_,A.o1,by have:=f.len;omega,A.o3,fun hi=>?_,by rw [f.same O A.o2 A.o3 A.o4];exact A.box⟩
 ·rcases h1 i hi with hi | hi
  ·exact A.hn i hi
  ·exact .inr (by omega)
 ·rcases h1 O hi with hi | hi
  ·exact o4 hi
  ·omega
theorem RkN.next (A:RkN s M h H l σ h0 hbs O) (hr:JJ s M H hbs (.ok l1 σ1 v e) r H1):∃ hbs' u nl vs,JL v vs∧r=.tup [.agg vs,OU u nl (Vs e),B true]∧RkN s M h H1 l1 σ1 h0 hbs' O:=by
 obtain ⟨hbs',u,nl,vs,h1,h2,h3,h4,rfl⟩:=hr
 exact ⟨hbs',u,nl,vs,h4,rfl,A.step h1 h2 h3⟩
theorem RkN.app (A:RkN s M h H l σ h0 hbs O) (k:List Box):RkN s M h (H++k) l σ h0 hbs O :=
 ⟨A.ms.app k,A.fr.appR k,A.hn,A.o1,by have:=A.o2;simp;omega,A.o3,A.o4,by rw [Q5 A.o2];exact A.box⟩
theorem RkN.fails (A:RkN s M h H l σ h0 hbs O) (hr:JJ s M H hbs .fail r H1):Fr M h0 h H1∧O < H1.length∧H1[O]?=some (some [N 0,N 0,.sl true true 1 [],.sl true true 1 []])∧∃ a b x y e,r=.tup [.agg [N a,N b,x,y],e,B false]:=by
 obtain ⟨h2,h3⟩:=hr
 exact ⟨A.fr.transH h2 A.hn,by have:=h2.len;have:=A.o2;omega,by rw [h2.same O A.o2 A.o3 A.o4];exact A.box,h3⟩
theorem Zai {st:St} (f:Fr M h0 h H) (o1:h.length≤O) (o2:O < H.length) (h8:st.t 8=.ptr O 0) (h10:st.t 10=B false) (hh:∃ a b x y,st.h=H.set O (some [N a,N b,x,y])):J2 [.cell 8 true 4,.tmp 9,.tmp 10] h.length (JJ s M h h0 .fail) .ret st:=by
 obtain ⟨a,b,x,y,hh⟩:=hh
 have l0:=f.len
 refine Ze2 (.inr rfl) h8 h10 (by rw [hh,List.getElem?_set_self (by omega)]) rfl (by rw [hh,List.length_set];omega) ?_
 rw [hh,List.set_set]
 exact ⟨f.set o1 _,⟨a,b,x,y,_,rfl⟩⟩
theorem RkN.tail (A:RkN s M h H l σ h0 hbs O) (hs:res≠.stuck) (hr:JJ s M H hbs res r H1):∃ vs e b,r=.tup [.agg vs,e,B b]∧vs.length=4∧H1[O]?=some (some [N 0,N 0,.sl true true 1 [],.sl true true 1 []]) ∧
  ∀ st:St,st.t 8=.ptr O 0→st.t 9=e→st.t 10=B b→st.h=H1.set O (some vs)→J2 [.cell 8 true 4,.tmp 9,.tmp 10] h.length (JJ s M h h0 res) .ret st:=by
 cases res with
 | stuck=>exact absurd rfl hs
 | fail =>
  obtain ⟨fr1,o2,hO,a,b,x,y,e,rfl⟩:=A.fails hr
  exact ⟨_,e,false,rfl,rfl,hO,fun st q1 q2 q3 q4=>Zai fr1 A.o1 o2 q1 q3 ⟨_,_,_,_,q4⟩⟩
 | ok l σ v e =>
  obtain ⟨hbs',u,nl,vs,hv,rfl,A1⟩:=A.next hr
  refine ⟨vs,_,true,rfl,hv.len,A1.box,fun st h8 h9 h10 hh=>?_⟩
  have l1:=A1.fr.len
  refine Ze2 (.inr rfl) h8 h10 (by rw [hh,List.getElem?_set_self A1.o2]) hv.len (by rw [hh,List.length_set];omega) ?_
  rw [hh,List.set_set,h9]
  exact ⟨hbs',u,nl,vs,A1.hn,A1.ms.set A1.o3 A1.o4 _,A1.fr.set A1.o1 _,hv,rfl⟩
theorem RkN.val (A:RkN s M h H l σ h0 hbs O) {vs:List LV} (hv:JL v vs) {u nl:Bool} {st:St} (h8:st.t 8=.ptr O 0) (h9:st.t 9=OU u nl (Vs e)) (h10:st.t 10=B true) (hh:st.h=H.set O (some vs)):J2 [.cell 8 true 4,.tmp 9,.tmp 10] h.length (JJ s M h h0 (.ok l σ v e)) .ret st:=by
 have l0:=A.fr.len
 refine Ze2 (.inr rfl) h8 h10 (by rw [hh,List.getElem?_set_self A.o2]) hv.len (by rw [hh,List.length_set];omega) ?_
 rw [hh,List.set_set,h9]
 exact ⟨hbs,u,nl,vs,A.hn,A.ms.set A.o3 A.o4 _,A.fr.set A.o1 _,hv,rfl⟩
theorem RkN.cell (A:RkN s M h H l σ h0 hbs O) {c:PC} (hr:NewR s M hbs H l σ c r H1):∃ hbs',r=N σ.length∧RkN s M h H1 l (σ++[c]) h0 hbs' O:=by
 obtain ⟨h1,hbs',h2,h3,h4⟩:=hr
 exact ⟨hbs',h1,A.step h4 h2 h3⟩
end
theorem JJ.ex {s:GSys} {M:Nat} {h:List Box} {l:Nat} {σ:List PC} {hbs:List Nat} (m:RS s M hbs h l σ) {res:LR} (hs:res≠.stuck) (hl:∀ l' σ' v e,res=.ok l' σ' v e→σ.length≤σ'.length):∃ r h',JJ s M h hbs res r h':=by
 cases res with
 | stuck=>exact absurd rfl hs
 | fail=>exact ⟨.tup [.agg [N 0,N 0,N 0,N 0],N 0,B false],h,Fr.refl _ _ _,⟨0,0,N 0,N 0,N 0,rfl⟩⟩
 | ok l' σ' v e =>
  obtain ⟨hbs',h',h1,h2,h3⟩:=m.ex l' σ' (hl _ _ _ _ rfl)
  exact ⟨_,h',hbs',true,false,v.cells,h3,h1,h2,.inl rfl,rfl⟩
theorem get_at {a z:List LV} {n:Nat} (ha:a.length=n) (k m:Nat):((a++z).drop (n+k)).take m=(z.drop k).take m:=by
 rw [List.drop_append,List.drop_of_length_le (by omega),List.nil_append,show n+k - a.length=k by omega]
theorem one_of {s:GSys} (hs:s.sys=true) {a:Int} (ha:s.G a):s.pl 0 a=a∧s.tm 1 a=a:=by
 unfold GSys.sys at hs
 rw [Bool.and_eq_true,YV] at hs
 have h:=hs.2 a.toNat (by have:=ha.1;have:=ha.2;omega)
 unfold GSys.sysB at h
 rw [Bool.and_eq_true] at h
 have h:=h.1
 unfold GSys.one at h
 simp only [Bool.and_eq_true,Qc] at h
 have e1:((a.toNat:Nat):Int)=a:=by have:=ha.1;omega
 rw [e1] at h
 exact ⟨h.1.1.1.1.1,h.1.1.1.1.2⟩
theorem ZaE {s:GSys} (hs:s.sys=true):∀ (a b:List Int),(∀ u∈b,s.G u)→ZeG s a 1 b=YL s a b
 | [],b,_=>by simp [ZeG,YL]
 | x::a,[],_=>by simp [ZeG,YL]
 | x::a,y::b,h=>by
  have:=ZaE hs a b fun u hu=>h u (by simp [hu])
  simp only [ZeG,YL,List.zipWith_cons_cons] at this ⊢
  rw [this,(one_of hs (h y (by simp))).2]
theorem Zdt {s:GSys} (hs:s.sys=true) (g:Int):∀ (a:List Int),ZeG s (zeros a.length) g a=Wa s g a
 | []=>by simp [ZeG,Wa]
 | x::a=>by
  have:=Zdt hs g a
  simp only [ZeG,Wa,zeros,List.length_cons,List.replicate_succ,List.zipWith_cons_cons,List.map_cons] at this ⊢
  rw [this,(one_of hs (GSys.Gtm (GSys.sys_of hs) g x)).1]
theorem Wy {s:GSys} {cx:List (List Int)} {g:GTerm} (h:g.size≤1000000):(Qr s cx g).fine:=by
 cases e:Qr s cx g with
 | ok x=>exact trivial
 | bad f p=>exact ⟨Zp g cx f p e,by have:=VY g cx f p e;omega⟩
abbrev aLV (x:TT) (n4:Bool):LV:=.agg [L false x.ty,L false x.needs,N 0,.sl false n4 1 []]
section
variable {s:GSys} (hsy:s.sys=true) (nlc:Bool) (ctx:WZ) (hcl:ctx.length≤100000)
include hsy hcl
theorem ZjX (n:Int) (nl1:Bool) (gty:List Int) (nl2:Bool) (a b:GTerm) (x:TT) (n4:Bool) (hxg:x.good s ctx.length) (hA:Qr s (ctx.map Prod.snd) a=.ok x) (h0:hd x.ty=0) (hbs:b.size≤1000000)
  (hb:Qe Tryz.prog WL [s.lv,LC nlc ctx,b.lv] (Qr s (ctx.map Prod.snd) b).told) (hbg:∀ y,Qr s (ctx.map Prod.snd) b=.ok y→y.good s ctx.length) :
  Qe Tryz.prog ZT [s.lv,LC nlc ctx,(GTerm.mk 2 n nl1 gty nl2 [a,b]).lv,aLV x n4] (Qr s (ctx.map Prod.snd) (GTerm.mk 2 n nl1 gty nl2 [a,b])).told:=by
 have t:=GSys.sys_of hsy
 have T:=tell_add (n:=n) (nl1:=nl1) (nl2:=nl2) (gty:=gty) hA hxg.1 h0 (fun y h=>(hbg y h).1)
 refine Qe.of_codeOf Zbq Qz (by simp) (ZaB _ fun f p h=>Zp _ _ f p h) ?_
 have of:=XT s 2 n nl1 gty nl2 [a,b] 1 (by simp) nlc ctx _ (Wy hbs) hb
 simp only [GTerm.lv,GTerm.cells] at of
 simp (disch:=omega) [KF,Qu,Qo,GTerm.cells]
 refine Qp (Qe.low of) (by simp) ?_
 rintro r ⟨hr,lo⟩
 rw [T]
 cases hB:Qr s (ctx.map Prod.snd) b with
 | bad f p =>
  rw [hB] at hr
  simp only [ofR] at hr
  obtain ⟨hf,u1,u2,u4,n4',rfl⟩:=hr
  have hf0:eqB f 0=false:=by rw [Qb];exact hf
  simp (disch:=omega) [Qu,Qo,hf0]
  exact ⟨hf,false,false,false,n4',by simp⟩
 | ok y =>
  have hyg:=hbg y hB
  rw [hB] at hr
  simp only [ofR] at hr
  obtain ⟨u1,u2,u4,n4',rfl⟩:=hr
  have hz:eqB 0 0=true:=by rw [Qc]
  have hy:=Yn hyg.1
  have hyi:QS 1 (L false y.ty) 0=some (.rp [N (hd y.ty)]):=Je hy.2.2.2.1
  by_cases q:hd y.ty=0
  ·have hn:=okL_none hyg.1 (by rw [q];decide)
   rw [q] at hn
   have hq0:eqB (hd y.ty) 0=true:=by rw [Qc];exact q
   simp (disch:=omega) [Qu,Qo,hz,hyi,hq0]
   refine Qa (Zg t false false x.needs 1 (GSys.G1 t) y.needs (by rw [hxg.2.1];omega) (by rw [hxg.2.1,hyg.2.1]) hxg.2.2 hyg.2.2) (by simp) ?_
   rw [ZaE hsy _ _ hyg.2.2]
   simp (disch:=omega) [q,hn]
   exact ⟨false,true,true,true,by simp⟩
  ·have hq0:eqB (hd y.ty) 0=false:=by rw [Qb];exact q
   simp (disch:=omega) [Qu,Qo,hz,hyi,hq0]
   refine Qp (Qe.low (Xn 2 (by omega))) (by simp) ?_
   rintro r ⟨⟨h3,v1,v2,v4,m4,rfl⟩,lo⟩
   simp (disch:=omega) [q]
   exact ⟨by omega,v1,v2,v4,m4,by simp⟩
theorem ZmJ (n:Int) (nl1:Bool) (gty:List Int) (nl2:Bool) (a b c:GTerm) (x:TT) (n4:Bool) (hxg:x.good s ctx.length) (hA:Qr s (ctx.map Prod.snd) a=.ok x) (h0:hd x.ty=0) (hbs:b.size≤1000000) (hcs:c.size≤1000000)
  (hb:Qe Tryz.prog WL [s.lv,LC nlc ctx,b.lv] (Qr s (ctx.map Prod.snd) b).told) (hbg:∀ y,Qr s (ctx.map Prod.snd) b=.ok y→y.good s ctx.length)
  (hc:Qe Tryz.prog WL [s.lv,LC nlc ctx,c.lv] (Qr s (ctx.map Prod.snd) c).told) (hcg:∀ y,Qr s (ctx.map Prod.snd) c=.ok y→y.good s ctx.length) :
  Qe Tryz.prog ZT [s.lv,LC nlc ctx,(GTerm.mk 3 n nl1 gty nl2 [a,b,c]).lv,aLV x n4] (Qr s (ctx.map Prod.snd) (GTerm.mk 3 n nl1 gty nl2 [a,b,c])).told:=by
 have t:=GSys.sys_of hsy
 have T:=tell_if (n:=n) (nl1:=nl1) (nl2:=nl2) (gty:=gty) (b:=b) (c:=c) hA hxg.1 h0
 refine Qe.of_codeOf Zbq Qz (by simp) (ZaB _ fun f p h=>Zp _ _ f p h) ?_
 have of:=XT s 3 n nl1 gty nl2 [a,b,c] 1 (by simp) nlc ctx _ (Wy hbs) hb
 have of2:=XT s 3 n nl1 gty nl2 [a,b,c] 2 (by simp) nlc ctx _ (Wy hcs) hc
 simp only [GTerm.lv,GTerm.cells] at of of2
 have hz:eqB 0 0=true:=by rw [Qc]
 have e32:eqB 3 2=false:=by rw [Qb];omega
 simp (disch:=omega) [KF,Qu,Qo,GTerm.cells]
 refine Qp (Qe.low of) (by simp) ?_
 rintro r ⟨hr,lo⟩
 rw [T]
 cases hB:Qr s (ctx.map Prod.snd) b with
 | bad f p =>
  rw [hB] at hr
  simp only [ofR] at hr
  obtain ⟨hf,u1,u2,u4,n4',rfl⟩:=hr
  have hf0:eqB f 0=false:=by rw [Qb];exact hf
  simp (disch:=omega) [Qu,Qo,hf0]
  exact ⟨hf,false,false,false,n4',by simp⟩
 | ok y =>
  have hyg:=hbg y hB
  rw [hB] at hr
  simp only [ofR] at hr
  obtain ⟨u1,u2,u4,n4',rfl⟩:=hr
  simp (disch:=omega) [Qu,Qo,hz,e32]
  refine Qp (Qe.low of2) (by simp) ?_
  rintro r ⟨hr,lo⟩
  cases hC:Qr s (ctx.map Prod.snd) c with
  | bad f p =>
   rw [hC] at hr
   simp only [ofR] at hr
   obtain ⟨hf,v1,v2,v4,m4',rfl⟩:=hr
   have hf0:eqB f 0=false:=by rw [Qb];exact hf
   simp (disch:=omega) [Qu,Qo,hf0]
   exact ⟨hf,false,false,false,m4',by simp⟩
  | ok z =>
   have hzg:=hcg z hC
   rw [hC] at hr
   simp only [ofR] at hr
   obtain ⟨v1,v2,v4,m4',rfl⟩:=hr
   simp (disch:=omega) [Qu,Qo,hz]
   have ly:=QV hyg.1
   have sm:=Zgy false false y.ty z.ty (by omega)
   refine Qa sm (by simp) ?_
   cases he:(y.ty == z.ty)
   ·have he':y.ty≠z.ty:=by simpa using he
    simp (disch:=omega)
    refine Qp (Qe.low (Xn 3 (by omega))) (by simp) ?_
    rintro r ⟨⟨h3,w1,w2,w4,k4,rfl⟩,lo⟩
    simp (disch:=omega) [he']
    exact ⟨by omega,w1,w2,w4,k4,by simp⟩
   ·have he':y.ty=z.ty:=by simpa using he
    simp (disch:=omega)
    have jn:=Zl2 t false false y.needs z.needs (by rw [hyg.2.1];omega) (by rw [hyg.2.1,hzg.2.1]) hyg.2.2 hzg.2.2
    refine Qa jn (by simp) ?_
    have jl:=Zcc (s:=s) hyg.2.1 hzg.2.1
    have jg:∀ u∈Yl s y.needs z.needs,s.G u:=fun u hu=>Zip hsy u hu hyg.2.2 hzg.2.2
    simp (disch:=omega)
    have sm:=Zg t false false x.needs 1 (GSys.G1 t) (Yl s y.needs z.needs) (by rw [hxg.2.1];omega) (by rw [hxg.2.1,jl]) hxg.2.2 jg
    refine Qa sm (by simp) ?_
    rw [ZaE hsy _ _ jg]
    simp (disch:=omega) [he']
    exact ⟨false,true,true,true,by simp [he']⟩
end
theorem used1 {s:GSys} {l:List Int} {g:Int} (h:1≤l.length):Wn s (l.take 1) g=s.le (l.getD 0 0) g:=by
 cases l with
 | nil=>simp at h
 | cons a l=>simp [Wn]
theorem used2 {s:GSys} {l:List Int} {g:Int} (h:2≤l.length):Wn s (l.take 2) g=(s.le (l.getD 0 0) g && s.le (l.getD 1 0) g):=by
 match l,h with
 | [],h=>simp at h
 | [_],h=>simp at h
 | a::b::l,_=>simp [Wn]
theorem Zgi {s:GSys} {l:List Int} {i:Nat} (h:∀ u∈l,s.G u) (hi:i < l.length):s.G (l.getD i 0):=by
 rw [List.getD_eq_getElem?_getD,List.getElem?_eq_getElem hi];exact h _ (List.getElem_mem _)
theorem ZlJ {l:List Int} {i:Nat} (hi:i < l.length):QS 1 (L false l) (i:Int)=some (.rp [N (l.getD i 0)]):=by
 have:=Xq l false false i (by omega) (by omega)
 simpa using this
section
variable {s:GSys} (hsy:s.sys=true) (nlc:Bool) (ctx:WZ) (hcl:ctx.length≤100000)
include hsy hcl
theorem Zkt (n:Int) (nl1:Bool) (gty:List Int) (nl2:Bool) (a b:GTerm) (x:TT) (n4:Bool) (hn:s.G n) (hxg:x.good s ctx.length) (hA:Qr s (ctx.map Prod.snd) a=.ok x) (hbs:b.size≤1000000)
  (hb:hd x.ty=1→Qe Tryz.prog WL [s.lv,LC false ((false,Wj x.ty)::(false,QJ x.ty)::ctx),b.lv] (Qr s (Wj x.ty::QJ x.ty::ctx.map Prod.snd) b).told)
  (hbg:hd x.ty=1→∀ y,Qr s (Wj x.ty::QJ x.ty::ctx.map Prod.snd) b=.ok y→y.good s (ctx.length+2)) :
  Qe Tryz.prog ZO [s.lv,LC nlc ctx,(GTerm.mk 5 n nl1 gty nl2 [a,b]).lv,aLV x n4] (Qr s (ctx.map Prod.snd) (GTerm.mk 5 n nl1 gty nl2 [a,b])).told:=by
 have t:=GSys.sys_of hsy
 have T:=Zpv (n:=n) (nl1:=nl1) (nl2:=nl2) (gty:=gty) (b:=b) hA hxg.1
 refine Qe.of_codeOf Zaj Qz (by simp) (ZaB _ fun f p h=>Zp _ _ f p h) ?_
 rw [T]
 have hx:=Yn hxg.1
 have hxi:QS 1 (L false x.ty) 0=some (.rp [N (hd x.ty)]):=Je hx.2.2.2.1
 have e55:eqB 5 5=true:=by rw [Qc]
 have e58:eqB 5 8=false:=by rw [Qb];omega
 have e512:eqB 5 12=false:=by rw [Qb];omega
 have hz:eqB 0 0=true:=by rw [Qc]
 by_cases q:hd x.ty=1
 ·have hq:eqB (hd x.ty) 1=true:=by rw [Qc];exact q
  have hk:W2 (hd x.ty)=some 2:=by rw [q];exact Yr.1
  simp (disch:=omega) [Yg,Qu,Qo,GTerm.cells,hxi,hq,e55,e58,e512]
  refine Qa (Zb t (GSys.G1 t) hn) (by simp) ?_
  rw [if_pos q]
  cases hl:s.le 1 n
  ·simp (disch:=omega)
   refine Qp (Qe.low (Xn 8 (by omega))) (by simp) ?_
   rintro r ⟨⟨h3,w1,w2,w4,k4,rfl⟩,lo⟩
   simp (disch:=omega)
   exact ⟨by omega,w1,w2,w4,k4,by simp⟩
  ·have p0:=KI hxg.1 0 (.inr hk)
   have p1:=KI hxg.1 1 (.inr hk)
   simp (disch:=omega)
   refine Qa p0 (by simp) ?_
   simp (disch:=omega) [Ql]
   refine Qa p1 (by simp) ?_
   simp (disch:=omega) [Ql]
   refine Qa p0 (by simp) ?_
   simp (disch:=omega) [Ql]
   have w:=Zbn nlc false ctx [(false,Wj x.ty),(false,QJ x.ty)] (by omega) (by simp)
   simp only [List.map_cons,List.map_nil,List.cons_append,List.nil_append] at w
   refine Qa w (by simp) ?_
   have of:=XT s 5 n nl1 gty nl2 [a,b] 1 (by simp) false ((false,Wj x.ty)::(false,QJ x.ty)::ctx) _ (Wy hbs) (hb q)
   simp only [GTerm.lv,GTerm.cells,List.map_cons] at of
   simp (disch:=omega) [Ql]
   refine Qp (Qe.low of) (by simp) ?_
   rintro r ⟨hr,lo⟩
   cases hB:Qr s (Wj x.ty::QJ x.ty::ctx.map Prod.snd) b with
   | bad f p =>
    rw [hB] at hr
    simp only [ofR] at hr
    obtain ⟨hf,u1,u2,u4,n4',rfl⟩:=hr
    have hf0:eqB f 0=false:=by rw [Qb];exact hf
    simp (disch:=omega) [Qu,Qo,hf0]
    exact ⟨hf,false,false,false,n4',by simp⟩
   | ok y =>
    have hyg:=hbg q y hB
    rw [hB] at hr
    simp only [ofR] at hr
    obtain ⟨u1,u2,u4,n4',rfl⟩:=hr
    have hyl:=hyg.2.1
    have c2:ZA 1 (L false y.needs) (some 2) none none=some (L false (y.needs.drop 2)):=Zj (k:=2) (by omega)
    have i0:QS 1 (L false y.needs) 0=some (.rp [N (y.needs.getD 0 0)]):=ZlJ (i:=0) (by omega)
    have i1:QS 1 (L false y.needs) 1=some (.rp [N (y.needs.getD 1 0)]):=ZlJ (i:=1) (by omega)
    have g0:=Zgi hyg.2.2 (show 0 < y.needs.length by omega)
    have g1:=Zgi hyg.2.2 (show 1 < y.needs.length by omega)
    have cp:=JN false (y.needs.drop 2) (by simp;omega)
    have dl:(y.needs.drop 2).length=ctx.length:=by simp;omega
    have dg:∀ u∈y.needs.drop 2,s.G u:=fun u hu=>hyg.2.2 u (List.mem_of_mem_drop hu)
    have us:=used2 (s:=s) (l:=y.needs) (g:=n) (by omega)
    generalize y.needs.getD 0 0=y0 at *
    generalize y.needs.getD 1 0=y1 at *
    obtain ⟨yr,hyr⟩:∃ yr,yr=y.needs.drop 2:=⟨_,rfl⟩
    rw [← hyr] at c2 cp dl dg
    simp (disch:=omega) [Qu,Qo,hz,c2]
    refine Qa cp (by simp) ?_
    simp (disch:=omega) [e512,e55,i1]
    refine Qa (Zb t g1 hn) (by simp) ?_
    cases hu1:s.le y1 n
    ·simp (disch:=omega) [i0]
     refine Qp (Qe.low (Xn 9 (by omega))) (by simp) ?_
     rintro r ⟨⟨h3,w1,w2,w4,k4,rfl⟩,lo⟩
     simp (disch:=omega) [us,hu1]
     exact ⟨by omega,w1,w2,w4,k4,by simp⟩
    ·simp (disch:=omega) [i0]
     refine Qa (Zb t g0 hn) (by simp) ?_
     cases hu0:s.le y0 n
     ·simp (disch:=omega)
      refine Qp (Qe.low (Xn 9 (by omega))) (by simp) ?_
      rintro r ⟨⟨h3,w1,w2,w4,k4,rfl⟩,lo⟩
      simp (disch:=omega) [us,hu1,hu0]
      exact ⟨by omega,w1,w2,w4,k4,by simp⟩
     ·have zr:=VL ctx.length (by omega)
      have sc:=Zg t false false (zeros ctx.length) n hn x.needs (by simp [zeros];omega) (by rw [hxg.2.1];simp [zeros]) (V1 t _).2 hxg.2.2
      have e1:=Zdt hsy n x.needs
      rw [hxg.2.1] at e1
      rw [e1] at sc
      have so:=Yc t (g:=n) hxg.2.1
      have s2:=Zg t false false (Wa s n x.needs) 1 (GSys.G1 t) yr (by rw [so.1];omega) (by rw [so.1,dl]) so.2 dg
      rw [ZaE hsy _ _ dg] at s2
      simp (disch:=omega)
      refine Qa zr (by simp) ?_
      simp (disch:=omega)
      refine Qa sc (by simp) ?_
      simp (disch:=omega)
      refine Qa s2 (by simp) ?_
      simp (disch:=omega) [us,hu1,hu0]
      exact ⟨false,true,true,true,by simp [hyr]⟩
 ·have hq:eqB (hd x.ty) 1=false:=by rw [Qb];exact q
  rw [if_neg q]
  simp (disch:=omega) [Yg,Qu,Qo,GTerm.cells,hxi,hq,e55,e58,e512]
  refine Qp (Qe.low (Xn 4 (by omega))) (by simp) ?_
  rintro r ⟨⟨h3,w1,w2,w4,k4,rfl⟩,lo⟩
  simp (disch:=omega)
  exact ⟨by omega,w1,w2,w4,k4,by simp⟩
theorem Zma (n:Int) (nl1:Bool) (gty:List Int) (nl2:Bool) (a b:GTerm) (x:TT) (n4:Bool) (hn:s.G n) (hxg:x.good s ctx.length) (hA:Qr s (ctx.map Prod.snd) a=.ok x) (hbs:b.size≤1000000)
  (hb:WW (hd x.ty)=true→Qe Tryz.prog WL [s.lv,LC false ((false,QJ x.ty)::ctx),b.lv] (Qr s (QJ x.ty::ctx.map Prod.snd) b).told)
  (hbg:WW (hd x.ty)=true→∀ y,Qr s (QJ x.ty::ctx.map Prod.snd) b=.ok y→y.good s (ctx.length+1)) :
  Qe Tryz.prog ZO [s.lv,LC nlc ctx,(GTerm.mk 12 n nl1 gty nl2 [a,b]).lv,aLV x n4] (Qr s (ctx.map Prod.snd) (GTerm.mk 12 n nl1 gty nl2 [a,b])).told:=by
 have t:=GSys.sys_of hsy
 have T:=ZqX (n:=n) (nl1:=nl1) (nl2:=nl2) (gty:=gty) (b:=b) hA hxg.1
 refine Qe.of_codeOf Zaj Qz (by simp) (ZaB _ fun f p h=>Zp _ _ f p h) ?_
 rw [T]
 have hx:=Yn hxg.1
 have hxi:QS 1 (L false x.ty) 0=some (.rp [N (hd x.ty)]):=Je hx.2.2.2.1
 have e55:eqB 12 5=false:=by rw [Qb];omega
 have e58:eqB 12 8=false:=by rw [Qb];omega
 have e512:eqB 12 12=true:=by rw [Qc]
 have hz:eqB 0 0=true:=by rw [Qc]
 by_cases q:WW (hd x.ty)=true
 ·have hk:W2 (hd x.ty)=some 1:=ZfK q
  have hsg:(QH (hd x.ty)).2=XO (hd x.ty):=(JQ hx.2.1 hx.2.2.1).2.2.2.2.2 (.inr q)
  have hgc:=ZdP hx.1 (.inr q)
  have hgG:s.G (XO (hd x.ty)):=hgc
  rw [hsg]
  simp (disch:=omega) [Yg,Qu,Qo,GTerm.cells,hxi,e55,e58,e512]
  refine Qa (Zpq (hd x.ty)) (by simp) ?_
  simp (disch:=omega) [q]
  refine Qa (Zb t (GSys.G1 t) hn) (by simp) ?_
  cases hl:s.le 1 n
  ·simp (disch:=omega)
   refine Qp (Qe.low (Xn 8 (by omega))) (by simp) ?_
   rintro r ⟨⟨h3,w1,w2,w4,k4,rfl⟩,lo⟩
   simp (disch:=omega)
   exact ⟨by omega,w1,w2,w4,k4,by simp⟩
  ·have p0:=KI hxg.1 0 (.inl hk)
   simp (disch:=omega)
   refine Qa p0 (by simp) ?_
   simp (disch:=omega) [Ql,e55]
   have w:=Zbn nlc false ctx [(false,QJ x.ty)] (by omega) (by simp)
   simp only [List.map_cons,List.map_nil,List.cons_append,List.nil_append] at w
   refine Qa w (by simp) ?_
   have of:=XT s 12 n nl1 gty nl2 [a,b] 1 (by simp) false ((false,QJ x.ty)::ctx) _ (Wy hbs) (hb q)
   simp only [GTerm.lv,GTerm.cells,List.map_cons] at of
   simp (disch:=omega) [Ql]
   refine Qp (Qe.low of) (by simp) ?_
   rintro r ⟨hr,lo⟩
   cases hB:Qr s (QJ x.ty::ctx.map Prod.snd) b with
   | bad f p =>
    rw [hB] at hr
    simp only [ofR] at hr
    obtain ⟨hf,u1,u2,u4,n4',rfl⟩:=hr
    have hf0:eqB f 0=false:=by rw [Qb];exact hf
    simp (disch:=omega) [Qu,Qo,hf0]
    exact ⟨hf,false,false,false,n4',by simp⟩
   | ok y =>
    have hyg:=hbg q y hB
    rw [hB] at hr
    simp only [ofR] at hr
    obtain ⟨u1,u2,u4,n4',rfl⟩:=hr
    have hyl:=hyg.2.1
    have c2:ZA 1 (L false y.needs) (some 1) none none=some (L false (y.needs.drop 1)):=Zj (k:=1) (by omega)
    have i0:QS 1 (L false y.needs) 0=some (.rp [N (y.needs.getD 0 0)]):=ZlJ (i:=0) (by omega)
    have g0:=Zgi hyg.2.2 (show 0 < y.needs.length by omega)
    have cp:=JN false (y.needs.drop 1) (by simp;omega)
    have dl:(y.needs.drop 1).length=ctx.length:=by simp;omega
    have dg:∀ u∈y.needs.drop 1,s.G u:=fun u hu=>hyg.2.2 u (List.mem_of_mem_drop hu)
    have us:=used1 (s:=s) (l:=y.needs) (g:=s.tm n (XO (hd x.ty))) (by omega)
    generalize y.needs.getD 0 0=y0 at *
    obtain ⟨yr,hyr⟩:∃ yr,yr=y.needs.drop 1:=⟨_,rfl⟩
    rw [← hyr] at c2 cp dl dg
    simp (disch:=omega) [Qu,Qo,hz,c2]
    refine Qa cp (by simp) ?_
    simp (disch:=omega) [e512]
    refine Qa (ZiP (hd x.ty) (by unfold I64;omega) hx.2.1) (by simp) ?_
    simp (disch:=omega)
    refine Qa (Kf t hn hgG) (by simp) ?_
    simp (disch:=omega) [i0]
    refine Qa (Zb t g0 (GSys.Gtm t _ _)) (by simp) ?_
    cases hu0:s.le y0 (s.tm n (XO (hd x.ty)))
    ·simp (disch:=omega)
     refine Qp (Qe.low (Xn 9 (by omega))) (by simp) ?_
     rintro r ⟨⟨h3,w1,w2,w4,k4,rfl⟩,lo⟩
     simp (disch:=omega) [us,hu0]
     exact ⟨by omega,w1,w2,w4,k4,by simp⟩
    ·have zr:=VL ctx.length (by omega)
     have sc:=Zg t false false (zeros ctx.length) n hn x.needs (by simp [zeros];omega) (by rw [hxg.2.1];simp [zeros]) (V1 t _).2 hxg.2.2
     have e1:=Zdt hsy n x.needs
     rw [hxg.2.1] at e1
     rw [e1] at sc
     have so:=Yc t (g:=n) hxg.2.1
     have s2:=Zg t false false (Wa s n x.needs) 1 (GSys.G1 t) yr (by rw [so.1];omega) (by rw [so.1,dl]) so.2 dg
     rw [ZaE hsy _ _ dg] at s2
     simp (disch:=omega)
     refine Qa zr (by simp) ?_
     simp (disch:=omega)
     refine Qa sc (by simp) ?_
     simp (disch:=omega)
     refine Qa s2 (by simp) ?_
     simp (disch:=omega) [us,hu0]
     exact ⟨false,true,true,true,by simp [hyr]⟩
 ·have q':WW (hd x.ty)=false:=by simpa using q
  rw [if_neg q]
  simp (disch:=omega) [Yg,Qu,Qo,GTerm.cells,hxi,e55,e58,e512]
  refine Qa (Zpq (hd x.ty)) (by simp) ?_
  simp (disch:=omega) [q']
  refine Qp (Qe.low (Xn 7 (by omega))) (by simp) ?_
  rintro r ⟨⟨h3,w1,w2,w4,k4,rfl⟩,lo⟩
  simp (disch:=omega)
  exact ⟨by omega,w1,w2,w4,k4,by simp⟩
theorem Znq (n:Int) (nl1:Bool) (gty:List Int) (nl2:Bool) (a b c:GTerm) (x:TT) (n4:Bool) (hn:s.G n) (hxg:x.good s ctx.length) (hA:Qr s (ctx.map Prod.snd) a=.ok x) (hbs:b.size≤1000000) (hcs:c.size≤1000000)
  (hb:hd x.ty=2→Qe Tryz.prog WL [s.lv,LC false ((false,QJ x.ty)::ctx),b.lv] (Qr s (QJ x.ty::ctx.map Prod.snd) b).told)
  (hbg:hd x.ty=2→∀ y,Qr s (QJ x.ty::ctx.map Prod.snd) b=.ok y→y.good s (ctx.length+1))
  (hc:hd x.ty=2→Qe Tryz.prog WL [s.lv,LC false ((false,Wj x.ty)::ctx),c.lv] (Qr s (Wj x.ty::ctx.map Prod.snd) c).told)
  (hcg:hd x.ty=2→∀ y,Qr s (Wj x.ty::ctx.map Prod.snd) c=.ok y→y.good s (ctx.length+1)) :
  Qe Tryz.prog ZO [s.lv,LC nlc ctx,(GTerm.mk 8 n nl1 gty nl2 [a,b,c]).lv,aLV x n4] (Qr s (ctx.map Prod.snd) (GTerm.mk 8 n nl1 gty nl2 [a,b,c])).told:=by
 have t:=GSys.sys_of hsy
 have T:=Zri (n:=n) (nl1:=nl1) (nl2:=nl2) (gty:=gty) (b:=b) (c:=c) hA hxg.1
 refine Qe.of_codeOf Zaj Qz (by simp) (ZaB _ fun f p h=>Zp _ _ f p h) ?_
 rw [T]
 have hx:=Yn hxg.1
 have hxi:QS 1 (L false x.ty) 0=some (.rp [N (hd x.ty)]):=Je hx.2.2.2.1
 have e55:eqB 8 5=false:=by rw [Qb];omega
 have e58:eqB 8 8=true:=by rw [Qc]
 have e512:eqB 8 12=false:=by rw [Qb];omega
 have hz:eqB 0 0=true:=by rw [Qc]
 by_cases q:hd x.ty=2
 ·have hq:eqB (hd x.ty) 2=true:=by rw [Qc];exact q
  have hk:W2 (hd x.ty)=some 2:=by rw [q];exact Yr.2
  simp (disch:=omega) [Yg,Qu,Qo,GTerm.cells,hxi,hq,e55,e58,e512]
  refine Qa (Zb t (GSys.G1 t) hn) (by simp) ?_
  rw [if_pos q]
  cases hl:s.le 1 n
  ·simp (disch:=omega)
   refine Qp (Qe.low (Xn 8 (by omega))) (by simp) ?_
   rintro r ⟨⟨h3,w1,w2,w4,k4,rfl⟩,lo⟩
   simp (disch:=omega)
   exact ⟨by omega,w1,w2,w4,k4,by simp⟩
  ·have p0:=KI hxg.1 0 (.inr hk)
   have p1:=KI hxg.1 1 (.inr hk)
   simp (disch:=omega)
   refine Qa p0 (by simp) ?_
   simp (disch:=omega) [Ql,e55]
   have w:=Zbn nlc false ctx [(false,QJ x.ty)] (by omega) (by simp)
   have w2:=Zbn nlc false ctx [(false,Wj x.ty)] (by omega) (by simp)
   simp only [List.map_cons,List.map_nil,List.cons_append,List.nil_append] at w w2
   refine Qa w (by simp) ?_
   have of:=XT s 8 n nl1 gty nl2 [a,b,c] 1 (by simp) false ((false,QJ x.ty)::ctx) _ (Wy hbs) (hb q)
   have of2:=XT s 8 n nl1 gty nl2 [a,b,c] 2 (by simp) false ((false,Wj x.ty)::ctx) _ (Wy hcs) (hc q)
   simp only [GTerm.lv,GTerm.cells,List.map_cons] at of of2
   simp (disch:=omega) [Ql]
   refine Qp (Qe.low of) (by simp) ?_
   rintro r ⟨hr,lo⟩
   cases hB:Qr s (QJ x.ty::ctx.map Prod.snd) b with
   | bad f p =>
    rw [hB] at hr
    simp only [ofR] at hr
    obtain ⟨hf,u1,u2,u4,n4',rfl⟩:=hr
    have hf0:eqB f 0=false:=by rw [Qb];exact hf
    simp (disch:=omega) [Qu,Qo,hf0]
    exact ⟨hf,false,false,false,n4',by simp⟩
   | ok y =>
    have hyg:=hbg q y hB
    rw [hB] at hr
    simp only [ofR] at hr
    obtain ⟨u1,u2,u4,n4',rfl⟩:=hr
    have hyl:=hyg.2.1
    have c2:ZA 1 (L false y.needs) (some 1) none none=some (L false (y.needs.drop 1)):=Zj (k:=1) (by omega)
    have i0:QS 1 (L false y.needs) 0=some (.rp [N (y.needs.getD 0 0)]):=ZlJ (i:=0) (by omega)
    have g0:=Zgi hyg.2.2 (show 0 < y.needs.length by omega)
    have cp:=JN false (y.needs.drop 1) (by simp;omega)
    have dl:(y.needs.drop 1).length=ctx.length:=by simp;omega
    have dg:∀ u∈y.needs.drop 1,s.G u:=fun u hu=>hyg.2.2 u (List.mem_of_mem_drop hu)
    have us:=used1 (s:=s) (l:=y.needs) (g:=n) (by omega)
    generalize y.needs.getD 0 0=y0 at *
    obtain ⟨yr,hyr⟩:∃ yr,yr=y.needs.drop 1:=⟨_,rfl⟩
    rw [← hyr] at c2 cp dl dg
    simp (disch:=omega) [Qu,Qo,hz,c2]
    refine Qa cp (by simp) ?_
    simp (disch:=omega) [e512,e55,e58]
    refine Qa p1 (by simp) ?_
    simp (disch:=omega) [Ql]
    refine Qa w2 (by simp) ?_
    simp (disch:=omega) [Ql]
    refine Qp (Qe.low of2) (by simp) ?_
    rintro r ⟨hr,lo⟩
    cases hC:Qr s (Wj x.ty::ctx.map Prod.snd) c with
    | bad f p =>
     rw [hC] at hr
     simp only [ofR] at hr
     obtain ⟨hf,v1,v2,v4,m4',rfl⟩:=hr
     have hf0:eqB f 0=false:=by rw [Qb];exact hf
     simp (disch:=omega) [Qu,Qo,hf0]
     exact ⟨hf,false,false,false,m4',by simp⟩
    | ok z =>
     have hzg:=hcg q z hC
     rw [hC] at hr
     simp only [ofR] at hr
     obtain ⟨v1,v2,v4,m4',rfl⟩:=hr
     have hzl:=hzg.2.1
     have d2:ZA 1 (L false z.needs) (some 1) none none=some (L false (z.needs.drop 1)):=Zj (k:=1) (by omega)
     have j0:QS 1 (L false z.needs) 0=some (.rp [N (z.needs.getD 0 0)]):=ZlJ (i:=0) (by omega)
     have k0:=Zgi hzg.2.2 (show 0 < z.needs.length by omega)
     have el:(z.needs.drop 1).length=ctx.length:=by simp;omega
     have eg:∀ u∈z.needs.drop 1,s.G u:=fun u hu=>hzg.2.2 u (List.mem_of_mem_drop hu)
     have vs:=used1 (s:=s) (l:=z.needs) (g:=n) (by omega)
     generalize z.needs.getD 0 0=z0 at *
     obtain ⟨zr,hzr⟩:∃ zr,zr=z.needs.drop 1:=⟨_,rfl⟩
     rw [← hzr] at d2 el eg
     have ly:=QV hyg.1
     simp (disch:=omega) [Qu,Qo,hz]
     have sm:=Zgy false false y.ty z.ty (by omega)
     refine Qa sm (by simp) ?_
     cases he:(y.ty == z.ty)
     ·have he':y.ty≠z.ty:=by simpa using he
      simp (disch:=omega)
      refine Qp (Qe.low (Xn 3 (by omega))) (by simp) ?_
      rintro r ⟨⟨h3,w1,w2,w4,k4,rfl⟩,lo⟩
      simp (disch:=omega) [he']
      exact ⟨by omega,w1,w2,w4,k4,by simp⟩
     ·have he':y.ty=z.ty:=by simpa using he
      simp (disch:=omega) [j0]
      refine Qa (Zb t k0 hn) (by simp) ?_
      simp (disch:=omega) [d2]
      have jn:=Zl2 t false false yr zr (by omega) (by omega) dg eg
      refine Qa jn (by simp) ?_
      have jl:=Zcc (s:=s) dl el
      have jg:∀ u∈Yl s yr zr,s.G u:=fun u hu=>Zip hsy u hu dg eg
      cases hv0:s.le z0 n
      ·simp (disch:=omega)
       refine Qp (Qe.low (Xn 9 (by omega))) (by simp) ?_
       rintro r ⟨⟨h3,w1,w2,w4,k4,rfl⟩,lo⟩
       simp (disch:=omega) [us,vs,hv0,he']
       exact ⟨by omega,w1,w2,w4,k4,by simp⟩
      ·simp (disch:=omega) [i0]
       refine Qa (Zb t g0 hn) (by simp) ?_
       cases hu0:s.le y0 n
       ·simp (disch:=omega)
        refine Qp (Qe.low (Xn 9 (by omega))) (by simp) ?_
        rintro r ⟨⟨h3,w1,w2,w4,k4,rfl⟩,lo⟩
        simp (disch:=omega) [us,vs,hu0,hv0,he']
        exact ⟨by omega,w1,w2,w4,k4,by simp⟩
       ·have zz:=VL ctx.length (by omega)
        have sc:=Zg t false false (zeros ctx.length) n hn x.needs (by simp [zeros];omega) (by rw [hxg.2.1];simp [zeros]) (V1 t _).2 hxg.2.2
        have e1:=Zdt hsy n x.needs
        rw [hxg.2.1] at e1
        rw [e1] at sc
        have so:=Yc t (g:=n) hxg.2.1
        have s2:=Zg t false false (Wa s n x.needs) 1 (GSys.G1 t) (Yl s yr zr) (by rw [so.1];omega) (by rw [so.1,jl]) so.2 jg
        rw [ZaE hsy _ _ jg] at s2
        simp (disch:=omega)
        refine Qa zz (by simp) ?_
        simp (disch:=omega)
        refine Qa sc (by simp) ?_
        simp (disch:=omega)
        refine Qa s2 (by simp) ?_
        simp (disch:=omega) [us,vs,hu0,hv0,he']
        exact ⟨false,true,true,true,by simp [hyr,hzr,he']⟩
 ·have hq:eqB (hd x.ty) 2=false:=by rw [Qb];exact q
  rw [if_neg q]
  simp (disch:=omega) [Yg,Qu,Qo,GTerm.cells,hxi,hq,e55,e58,e512]
  refine Qp (Qe.low (Xn 5 (by omega))) (by simp) ?_
  rintro r ⟨⟨h3,w1,w2,w4,k4,rfl⟩,lo⟩
  simp (disch:=omega)
  exact ⟨by omega,w1,w2,w4,k4,by simp⟩
end
end Go.Proofs.YtbmepminmpjlcaaGreat