/- Part 6 of the proof of the row of the text YthdkhhebanogbaaGreatZRowWeakened: texts joined. No conditions. -/
import Derived.Test.YthdkhhebanogbaaGreatZeRowWeakened
set_option linter.unusedSimpArgs false
set_option linter.unusedVariables false
set_option linter.unusedSectionVars false
namespace Go.Proofs.YthdkhhebanogbaaGreat
open Go Go.TL
open Go.Proofs.YthdkhhebanogbaaGreat.Ty
set_option linter.unusedSimpArgs false
set_option linter.unusedVariables false
set_option maxRecDepth 20000
set_option maxHeartbeats 4000000
theorem Zq6 (u u' nl:Bool) (sz sz':Nat) (xs:List (List LV)):Xq .slc .eql (.sl u nl sz xs) (.sl u' true sz' [])=some (B nl):=rfl
theorem ZcQ (nl:Bool) (l:List Int) (hl:l.length≤1099511627776):Qf Tryz.prog Wv [L nl l] (·=cl nl l):=by
 refine Qf.of_codeOf Zae Qz (by simp) ⟨_,rfl,by unfold cl;split<;>simp⟩ ?_
 have hm:l.length≤most:=hl
 cases nl
 ·simp (disch:=omega) [Ym,Zq6,Qo,WS,hm,cl]
 ·simp (disch:=omega) [Ym,Zq6,cl]
theorem Znu (n1 n2:Bool) (a b:List Int) (ha:a.length≤1099511627776):Qf Tryz.prog W7 [L n1 a,L n2 b] (·=B (a == b)):=by
 generalize hq:(a == b)=q
 refine Qf.of_codeOf Zad Qz (by simp) ⟨_,rfl,by simp⟩ ?_
 simp (disch:=omega) [Z5]
 (with_reducible first | refine Qn (fun h1=>?_) (fun h1=>?_) | refine Qm (fun h1=>?_) (fun h1=>?_))
 ·simp (disch:=omega) [h1]
  simp only [Qi,Qg,Ql,Qj,Qe,Qc,Bool.not_true,Bool.not_false] at h1
  refine XH a.length 0 (fun i t _=>t 13=N i∧q=(a.drop i == b.drop i)) (by simp [hq]) (by omega) ?_
  rintro i t1 hh hf hi ⟨e13,hj⟩
  (have e0:=hf 0 (by kernel_rfl);have e1:=hf 1 (by kernel_rfl);have e12:=hf 12 (by kernel_rfl);clear hf;simp [] at e0 e1 e12)
  simp (disch:=omega) [e0,e1,e12,e13]
  (with_reducible first | refine Qn (fun h6=>?_) (fun h6=>?_) | refine Qm (fun h6=>?_) (fun h6=>?_))
  ·simp only [Qi,Qg,Ql,Qj,Qe,Qc,Bool.not_true,Bool.not_false] at h6
   have hd1:=List.drop_eq_getElem_cons (l:=a) (i:=i) (by omega)
   have hd2:=List.drop_eq_getElem_cons (l:=b) (i:=i) (by omega)
   have hq2:q=(a[i]'(by omega) == b[i]'(by omega) && (a.drop (i+1) == b.drop (i+1))):=by rw [hj,hd1,hd2];rfl
   clear hd1 hd2 hj
   simp (disch:=omega) [e0,e1,e12,e13,Xu]
   repeat' (first
  | (with_reducible (first | refine Qn (fun hb_=>?_) (fun hb_=>?_) | refine Qm (fun hb_=>?_) (fun hb_=>?_))<;>simp (disch:=omega) [hb_,e0,e1,e12,e13,Qd])
  | simp (disch:=omega) [e0,e1,e12,e13,Qd])
   all_goals simp only [Qi,Qg,Ql,Qj,Qe,Qc,Bool.not_true,Bool.not_false] at hb_
   ·exact ⟨by omega,by simp [hq2,hb_]⟩
   ·simp [hq2,hb_]
  ·simp only [Qi,Qg,Ql,Qj,Qe,Qc,Bool.not_true,Bool.not_false] at h6
   simp (disch:=omega)
   rw [hj,List.drop_of_length_le (by omega),List.drop_of_length_le (by omega)];simp
 ·simp (disch:=omega) [h1]
  simp only [Qi,Qg,Ql,Qj,Qe,Qc,Bool.not_true,Bool.not_false] at h1
  rw [← hq];simp;intro h;exact h1 (by rw [h])
def Ve (l:List Int):List (List Int):=match WD (hd l) with
 | some 2=>[QK l,WC l]
 | some 1=>[QK l]
 | _=>[]
theorem ZbL {l:List Int} (h:WD (hd l)=some 2):Ve l=[QK l,WC l]:=by simp [Ve,h]
theorem Zpr {l:List Int} (h:WD (hd l)=some 1):Ve l=[QK l]:=by simp [Ve,h]
theorem Zgb {l:List Int} (h:wty l=true):Qf Tryz.prog ZY [L false l] (·=.sl (!(Ve l).isEmpty) (Ve l).isEmpty 1 ((Ve l).map fun p=>[L false p])):=by
 obtain ⟨⟨c,ks⟩,h3,rfl,h5⟩:=ZnH h
 have:=parts_ok c ks h3 (by omega) (fun n hn=>by have:=ZqW h n hn;unfold I64;omega)
 simp only [RT.ok] at h3
 have e:Qh ks=(Ve (RT.nd c ks).flat).map (fun p=>[L false p])∧(Ve (RT.nd c ks).flat).isEmpty=ks.isEmpty:=by
  match ks,h3 with
  | [],h3=>simp [Ve,RT.flat,h3.1,Qh]
  | [a],h3 =>
   simp only [oks] at h3
   have q:=Zb5 (c:=c) (r:=[]) h3.2.1
   rw [List.append_nil] at q
   simp [Ve,RT.flat,WP,h3.1,Qh,q]
  | [a,b],h3 =>
   simp only [oks] at h3
   have q:=Zb5 (c:=c) (r:=b.flat) h3.2.1
   have q1:=ZbJ (c:=c) (r:=b.flat) h3.2.1
   simp [Ve,RT.flat,WP,h3.1,Qh,q,q1]
  | _::_::_::_,h3 =>
   have:=Zov h3.1
   simp at this
 rw [e.1,← e.2] at this
 exact this
theorem Zc9 {s:GSys} (t:s.Tab) (g:GTerm) (op n:Int) (nl1:Bool) (gty:List Int) (nl2:Bool) (ks:List GTerm) (hg:g=.mk op n nl1 gty nl2 ks) (i:Nat) (hi:i≤3) (ty:List Int) (hty:okL s.size ty=true) (hop:0≤op∧op≤12) (hn:op=5∨op=8∨op=12→s.G n) :
  Qf Tryz.prog Zb [s.lv,g.lv,N i,L false ty] (·=N (QO s op n i (hd ty))):=by
 subst hg
 have hh:=Yj hty
 obtain ⟨c,tl,rfl⟩:∃ c tl,ty=c::tl:=by
  cases ty with
  | nil=>exact absurd rfl hh.2.2.2.1
  | cons c tl=>exact ⟨c,tl,rfl⟩
 have hc:I64 c:=by unfold I64;simp at hh;omega
 have hid:QU 1 (L false (c::tl)) 0=some (.rp [N c]):=by
  have:=Xu (c::tl) false false 0 (by omega) (by simp)
  simpa using this
 have hbl:op=5∨op=8∨op=12→Qf Tryz.prog QB [s.lv,N 1,N n] (·=B (s.le 1 n)):=fun h=>KY t (GSys.G1 t) (hn h)
 refine Qf.of_codeOf Zb2 Qz (by simp) ⟨_,rfl,by simp⟩ ?_
 have run:∀ (q:Int),q=QO s op n i c→wpC Tryz.prog X3 (fun e s=>(e=Exit.normal∨e=Exit.ret)∧Low 0 (s.t 8)∧s.t 8=N q) { t:=env [s.lv,(GTerm.mk op n nl1 gty nl2 ks).lv,N i,L false (c::tl)],h:=[] }:=by
  intro q hq
  have h13:op=0∨op=1∨op=2∨op=3∨op=4∨op=5∨op=6∨op=7∨op=8∨op=9∨op=10∨op=11∨op=12:=by omega
  subst hq
  rcases h13 with rfl | rfl | rfl | rfl | rfl | rfl | rfl | rfl | rfl | rfl | rfl | rfl | rfl
  all_goals
   rcases Nat.eq_zero_or_pos i with rfl | hp
   ·simp (disch:=omega) [X3,Qw,Qs,GTerm.cells,hid]
    refine Qa (Zbj c hc) (by simp) ?_
    repeat' (first
  | with_reducible refine Qa (hbl (by omega)) (by simp) ?_
  | (with_reducible (first | refine Qn (fun hb_=>?_) (fun hb_=>?_) | refine Qm (fun hb_=>?_) (fun hb_=>?_))<;>simp (disch:=omega) [hb_,eqB,leB])
  | simp (disch:=omega) [eqB,leB])
    all_goals (try simp_all [QO,JB])
   ·have hz:¬ (i:Int)=0:=by omega
    have hz2:¬ i=0:=by omega
    simp (disch:=omega) [X3,Qw,Qs,GTerm.cells,hid]
    refine Qa (Zbj c hc) (by simp) ?_
    repeat' (first
  | with_reducible refine Qa (hbl (by omega)) (by simp) ?_
  | (with_reducible (first | refine Qn (fun hb_=>?_) (fun hb_=>?_) | refine Qm (fun hb_=>?_) (fun hb_=>?_))<;>simp (disch:=omega) [hb_,eqB,leB,hz])
  | simp (disch:=omega) [eqB,leB,hz])
    all_goals (try simp_all [QO,JB])
 have:=run _ rfl
 simpa using this
def Jx (op:Int) (nl1:Bool) (ty:List Int) (i:Nat) (f:List Int):Wz:=if op=9 then [(nl1,ty)] else (QC op ty i f).map fun l=>(false,l)
theorem Zpo (op:Int) (nl1:Bool) (ty:List Int) (i:Nat) (f:List Int):(Jx op nl1 ty i f).map Prod.snd=QC op ty i f:=by
 unfold Jx
 split
 ·rename_i h;simp [QC,h]
 ·simp [Function.comp_def]
abbrev Zav (c:Wz):LV:=.sl (!c.isEmpty) c.isEmpty 1 (c.map fun x=>[eC x])
theorem Zk2 (g:GTerm) (op n:Int) (nl1:Bool) (gty:List Int) (nl2:Bool) (ks:List GTerm) (hg:g=.mk op n nl1 gty nl2 ks) (hop:0≤op∧op≤12) (i:Nat) (hi:i≤2) (nf:Bool) (f:List Int) {size:Int}
  (hf:i≠0→nf=false∧okL size f=true∧ZeZ op (hd f)):Qf Tryz.prog Zby [g.lv,N i,L nf f] (·=Zav (Jx op nl1 gty i f)):=by
 subst hg
 refine Qf.of_codeOf ZmL Qz (by simp) ⟨_,rfl,by simp⟩ ?_
 by_cases h9:op=9
 ·subst h9
  simp (disch:=omega) [Vu,Qw,Qs,GTerm.cells,Jx,eqB,Qo]
 ·by_cases h0:Qr op i=0
  ·have e:Jx op nl1 gty i f=[]:=by simp [Jx,h9,QC,h0]
   have h9':eqB op 9=false:=by rw [Qc];exact h9
   simp (disch:=omega) [Vu,Qw,Qs,GTerm.cells,e,h9']
   refine Qa (ZhQ op i) (by simp) ?_
   rw [h0]
   simp (disch:=omega) [eqB]
  ·have hi0:i≠0:=by rintro rfl;apply h0;unfold Qr;rw [if_neg (by omega),if_neg (by omega)]
   obtain ⟨rfl,hf1,hf2⟩:=hf hi0
   have h9':eqB op 9=false:=by rw [Qc];exact h9
   have h0':eqB (Qr op i) 0=false:=by rw [Qc];exact h0
   have hp:=Zgb (JJ hf1)
   have h3:op=5∧i=1∨op=8∨op=12∧i=1:=by
    unfold Qr at h0
    by_cases g:op=5∧(i:Int)=1
    ·omega
    ·rw [if_neg g] at h0
     by_cases g:(op=8∧0 < (i:Int))∨op=9∨(op=12∧(i:Int)=1)
     ·omega
     ·rw [if_neg g] at h0;omega
   simp (disch:=omega) [Vu,Qw,Qs,GTerm.cells,h9']
   refine Qa (ZhQ op i) (by simp) ?_
   simp (disch:=omega) [h0']
   refine Qa hp (by simp) ?_
   rcases h3 with ⟨rfl,rfl⟩ | rfl | ⟨rfl,rfl⟩
   ·rw [ZbL (by rw [hf2.2.1 rfl];exact Xt.1)]
    simp (disch:=omega) [eqB,Jx,QC,Qr,Qo,QU]
   ·rw [ZbL (by rw [hf2.2.2.1 rfl];exact Xt.2)]
    have:i=1∨i=2:=by omega
    rcases this with rfl | rfl
    ·simp (disch:=omega) [eqB,Jx,QC,Qr,Qo,QU,show IntKind.i64.wrap 0=0 by decide]
    ·simp (disch:=omega) [eqB,Jx,QC,Qr,Qo,QU,show IntKind.i64.wrap 1=1 by decide]
   ·rw [Zpr (Zdr (hf2.2.2.2.2 rfl))]
    simp (disch:=omega) [eqB,Jx,QC,Qr,Qo]
mutual
def TT.is:TT→LV→Prop
 | .mk ty nd ks,r=>∃ n3 n4 Qh,r=.rp [L false ty,L false nd,.sl false n3 1 Qh,N 0,.sl false n4 1 []]∧TT.are ks Qh
def TT.are:List TT→List (List LV)→Prop
 | [],Qh=>Qh=[]
 | k::ks,Qh=>∃ r rest,Qh=[r]::rest∧k.is r∧TT.are ks rest
end
def Res.is:Res→LV→Prop
 | .ok x,r=>x.is r
 | .bad f p,r=>f≠0∧∃ n4,r=.rp [.sl false true 1 [],.sl false true 1 [],.sl false true 1 [],N f,L n4 p]
mutual
theorem Zot:∀ (x:TT) (r:LV),x.is r→share r=r∧∀ k,Low k r
 | .mk ty nd ks,r,h=>by
  simp only [TT.is] at h
  obtain ⟨n3,n4,Qh,rfl,hr⟩:=h
  obtain ⟨h1,h2⟩:=XB ks Qh hr
  exact ⟨by simp [h1],fun k=>by simp [h2 k]⟩
theorem XB:∀ (xs:List TT) (Qh:List (List LV)),TT.are xs Qh→Qq Qh=Qh∧∀ k,We k Qh
 | [],Qh,h=>by simp only [TT.are] at h;subst h;simp
 | x::xs,Qh,h=>by
  simp only [TT.are] at h
  obtain ⟨r,rest,rfl,h1,h2⟩:=h
  obtain ⟨q1,q2⟩:=Zot x r h1
  obtain ⟨q3,q4⟩:=XB xs rest h2
  exact ⟨by simp [q1,q3],fun k=>by simp [q2 k,q4 k]⟩
end
theorem Zma:∀ (xs:List TT) (Qh:List (List LV)),TT.are xs Qh→Qh.length=xs.length
 | [],Qh,h=>by simp only [TT.are] at h;subst h;rfl
 | x::xs,Qh,h=>by
  simp only [TT.are] at h
  obtain ⟨r,rest,rfl,h1,h2⟩:=h
  simp [Zma xs rest h2]
theorem VD:∀ (xs:List TT) (Qh:List (List LV)) (x:TT) (r:LV),TT.are xs Qh→x.is r→TT.are (xs++[x]) (Qh++[[r]])
 | [],Qh,x,r,h,hx=>by simp only [TT.are] at h;subst h;simp only [List.nil_append,TT.are];exact ⟨r,[],rfl,hx,rfl⟩
 | y::xs,Qh,x,r,h,hx=>by
  simp only [TT.are] at h
  obtain ⟨q,rest,rfl,h1,h2⟩:=h
  simp only [List.cons_append,TT.are]
  exact ⟨q,rest++[[r]],rfl,h1,VD xs rest x r h2 hx⟩
theorem are_at:∀ (xs:List TT) (Qh:List (List LV)) (i:Nat) (h:i < xs.length),TT.are xs Qh→∃ r,Qh[i]?=some [r]∧(xs[i]).is r
 | [],Qh,i,hi,h=>by simp at hi
 | x::xs,Qh,i,hi,h=>by
  simp only [TT.are] at h
  obtain ⟨r,rest,rfl,h1,h2⟩:=h
  cases i with
  | zero=>exact ⟨r,rfl,h1⟩
  | succ i =>
   obtain ⟨q,h3,h4⟩:=are_at xs rest i (by simpa using hi) h2
   exact ⟨q,by simpa using h3,by simpa using h4⟩
theorem Zqv {xs:List TT} {Qh:List (List LV)} (h:TT.are xs Qh) (u nl:Bool) (i:Nat) (hi:i < xs.length):∃ n3 n4 rws,QU 1 (.sl u nl 1 Qh) (i:Int)=some (.rp [.rp [L false (tyP xs i),L false (xs[i]).needs,.sl false n3 1 rws,N 0,.sl false n4 1 []]])∧TT.are (xs[i]).kids rws:=by
 obtain ⟨r,h1,h2⟩:=are_at xs Qh i hi h
 have hl:=Zma xs Qh h
 have e:tyP xs i=(xs[i]).ty:=by unfold tyP;rw [List.getD_eq_getElem?_getD,List.getElem?_eq_getElem hi];rfl
 rw [e]
 generalize xs[i]=x at *
 obtain ⟨ty,nd,ks⟩:=x
 simp only [TT.is] at h2
 obtain ⟨n3,n4,rws,rfl,h3⟩:=h2
 refine ⟨n3,n4,rws,?_,h3⟩
 simp only [QU]
 rw [if_pos ⟨trivial,by omega,by omega⟩]
 have hs:=(XB ks rws h3).1
 simp [List.getD_eq_getElem?_getD,h1,hs]
abbrev ZgU (T nd:LV) (u3 n3:Bool) (Qh:List (List LV)):Box:=some [T,nd,.sl u3 n3 1 Qh,N 0,.sl true true 1 []]
theorem ZoB {ds:List TT} {Qh:List (List LV)} (h:TT.are ds Qh) (T nd:LV) (u3 n3:Bool) (b0 b1 b2:Box) (hr:List Box) (i:Nat) (hi:i < ds.length) :
  QN Tryz.prog XO [N i,.rp [.ptr 3 0]] (b0::b1::b2::ZgU T nd u3 n3 Qh::hr) (fun r h'=>r=L false (tyP ds i)∧h'=b0::b1::b2::ZgU T nd u3 n3 Qh::hr):=by
 refine QN.of_codeOf Za1 Qz (by simp) ⟨_,_,rfl,rfl⟩ ?_
 obtain ⟨n3',n4,rws,hix,hrw⟩:=Zqv h false n3 i hi
 have hs:=(XB ds Qh h).1
 have hs2:=(XB _ rws hrw).1
 simp (disch:=omega) [JD,hs,hix,hs2]
 refine Wd (.inr rfl) (by simp) ⟨by simp,rfl⟩
theorem ZdY (p:Int→Bool):∀ (n g:Nat),Yk p g n=-1∨((g:Int)≤Yk p g n∧Yk p g n < g+n)
 | 0,g=>.inl rfl
 | n+1,g=>by
  unfold Yk
  split
  ·right;omega
  ·rcases ZdY p n (g+1) with h | h
   ·exact .inl h
   ·right;omega
theorem Vp {s:GSys} (hs:s.sys=true) {a b:Int} (ha:s.G a) (hb:s.G b):s.G (s.join a b):=by
 have t:=GSys.sys_of hs
 have h2:leB 0 (s.join a b)=true:=by
  unfold GSys.sys at hs
  rw [Bool.and_eq_true,Yc] at hs
  have h:=hs.2 a.toNat (by have:=ha.1;have:=ha.2;omega)
  unfold GSys.sysB at h
  rw [Bool.and_eq_true,Yc] at h
  have h:=h.2 b.toNat (by have:=hb.1;have:=hb.2;omega)
  unfold GSys.sysC at h
  rw [Bool.and_eq_true] at h
  have h:=h.1
  unfold GSys.two at h
  simp only [Bool.and_eq_true] at h
  have e1:((a.toNat:Nat):Int)=a:=by have:=ha.1;omega
  have e2:((b.toNat:Nat):Int)=b:=by have:=hb.1;omega
  rw [e1,e2] at h
  exact h.2
 rw [Ql] at h2
 have:=ZdY (s.isJoin a b) s.size.toNat 0
 unfold GSys.join at h2 ⊢
 have:=t.lo
 exact ⟨h2,by omega⟩
theorem Zi4 {s:GSys} (hs:s.sys=true) {a b:List Int} (u:Int) (hu:u∈XU s a b) (ha:∀ u∈a,s.G u) (hb:∀ u∈b,s.G u):s.G u:=by
 unfold XU at hu
 rw [List.mem_iff_getElem] at hu
 obtain ⟨i,hi,rfl⟩:=hu
 simp only [List.length_zipWith] at hi
 rw [List.getElem_zipWith]
 exact Vp hs (ha _ (List.getElem_mem _)) (hb _ (List.getElem_mem _))
theorem Jb {l:List Int} (h:l≠[]):QU 1 (L false l) 0=some (.rp [N (hd l)]):=by
 cases l with
 | nil=>exact absurd rfl h
 | cons c l =>
  have:=Xu (c::l) false false 0 (by omega) (by simp)
  simpa using this
theorem cat3 (x:Int) (na nb:Bool) (a b:List Int) (ha:a.length≤1000) (hb:b.length≤1000) :
  Qf Tryz.prog QZ [.sl false false 1 [[.sl false false 1 [[N x]]],[L na a],[L nb b]]] (·=OU true false (x::(a++b))):=by
 have h:=ZiU [(false,[x]),(na,a),(nb,b)] (by simp) (by simp [lnI];omega)
 have e:flI [(false,[x]),(na,a),(nb,b)]=x::(a++b):=by simp [flI]
 have e2:ltB 0 ((x::(a++b)).length:Int)=true:=by rw [Qi];simp<;>omega
 rw [e] at h
 unfold catI at h
 rw [e2] at h
 exact h
theorem cat2 (x:Int) (na:Bool) (a:List Int) (ha:a.length≤1000) :
  Qf Tryz.prog QZ [.sl false false 1 [[.sl false false 1 [[N x]]],[L na a]]] (·=OU true false (x::a)):=by
 have h:=ZiU [(false,[x]),(na,a)] (by simp) (by simp [lnI];omega)
 have e:flI [(false,[x]),(na,a)]=x::a:=by simp [flI]
 have e2:ltB 0 ((x::a).length:Int)=true:=by rw [Qi];simp<;>omega
 rw [e] at h
 unfold catI at h
 rw [e2] at h
 exact h
def FinR (q:Int×List Int×List Int) (m:Nat) (u3 n3:Bool) (Qh:List (List LV)) (r:LV) (h':List Box):Prop:=r=N q.1∧∃ T nd c2 hr',h'=none::none::c2::ZgU T nd u3 n3 Qh::hr' ∧
 (q.1=0→(∃ u,T=OU u false q.2.1)∧((∃ u,nd=OU u false q.2.2)∨(nd=.ha 2 1 0 m m∧c2=some (q.2.2.map N)∧q.2.2.length=m)))
theorem Zql {s:GSys} (hsy:s.sys=true) (nlc:Bool) (ctx:Wz) (hcl:ctx.length≤100000) (hc:∀ c∈ctx,okL s.size c.2=true) (hcf:∀ c∈ctx,c.1=false) (op n:Int) (nl1:Bool) (gty:List Int) (nl2:Bool) (ks:List GTerm) (ds:List TT)
  (no:NodeOk s ctx.length op n gty ds.length) (k:KidsOk s ctx.length op n ds) (Qh:List (List LV)) (hrw:TT.are ds Qh) (u3 n3 nn nu:Bool) (nds uds:Wz)
  (hnd:∀ i,i < ds.length→QU 1 (LC nn nds) (i:Int)=some (.rp [L false (ndP op ds i)])) (hud:∀ i,i < ds.length→∃ f,QU 1 (LC nu uds) (i:Int)=some (.rp [L f (usP op ds i)])) (hr:List Box) (m:Nat) (hm:ctx.length=m) :
  QN Tryz.prog ZC [s.lv,.ptr 3 0,LC nlc ctx,(GTerm.mk op n nl1 gty nl2 ks).lv,LC nn nds,LC nu uds] (none::none::some ((zeros m).map N)::ZgU (.sl true true 1 []) (.ha 2 1 0 m m) u3 n3 Qh::hr)
   (FinR (Wi s (ctx.map Prod.snd) op n gty ds) m u3 n3 Qh):=by
 subst hm
 have t:=GSys.sys_of hsy
 have h16:=t.hi
 obtain ⟨many,hvar,hgr,hty,o1,o2⟩:=no
 have get:∀ i,i < ds.length→∃ x,ds[i]?=some x∧x.good s (ctx.length+(Qr op i).toNat):=fun i hi =>
  ⟨_,List.getElem?_eq_getElem hi,(k.each i _ (List.getElem?_eq_getElem hi)).1⟩
 have tyG:∀ i,i < ds.length→okL s.size (tyP ds i)=true:=fun i hi=>by
  obtain ⟨x,h1,h2⟩:=get i hi
  unfold tyP;rw [List.getD_eq_getElem?_getD,h1];exact h2.1
 have ndL:∀ i,i < ds.length→(ndP op ds i).length=ctx.length:=fun i hi=>by
  obtain ⟨x,h1,h2⟩:=get i hi
  unfold ndP;rw [List.getD_eq_getElem?_getD,h1];exact (Zds h2).1
 have ndG:∀ i,i < ds.length→∀ u∈ndP op ds i,s.G u:=fun i hi=>by
  obtain ⟨x,h1,h2⟩:=get i hi
  unfold ndP;rw [List.getD_eq_getElem?_getD,h1];exact (Zds h2).2
 have usL:∀ i,i < ds.length→(usP op ds i).length≤1099511627776:=fun i hi=>by
  unfold usP;rw [List.length_take];have:=Xw op i;omega
 have usG:∀ i,i < ds.length→∀ u∈usP op ds i,s.G u:=fun i hi u hu=>by
  obtain ⟨x,h1,h2⟩:=get i hi
  unfold usP at hu;rw [List.getD_eq_getElem?_getD,h1] at hu;exact h2.2.2 u (List.mem_of_mem_take hu)
 have fst:0 < ds.length→ZeZ op (hd (tyP ds 0)):=fun hi=>(k.first (by rintro rfl;simp at hi)).2.1
 have kid:∀ (T nd:LV) (b0 b1 b2:Box) (hr:List Box) (i:Nat) (hi:i < ds.length),QN Tryz.prog XO [N i,.rp [.ptr 3 0]] (b0::b1::b2::ZgU T nd u3 n3 Qh::hr) (fun r h'=>r=L false (tyP ds i)∧h'=b0::b1::b2::ZgU T nd u3 n3 Qh::hr) :=
  fun T nd b0 b1 b2 hr i hi=>ZoB hrw T nd u3 n3 b0 b1 b2 hr i hi
 have sumc:=fun (n1 n2:Bool) (a b:List Int) (h1:a.length=ctx.length) (h2:b.length=ctx.length) (ha:∀ u∈a,s.G u) (hb:∀ u∈b,s.G u)=>sumF_ok t n1 n2 a b (by omega) (by omega) ha hb
 have eqc:=fun (n1 n2:Bool) (i j:Nat) (hi:i < ds.length)=>Znu n1 n2 (tyP ds i) (tyP ds j) (by have:=QH (tyG i hi);omega)
 have lg:=fun (l:List Int)=>long_ok false false l
 have hidx:∀ (i:Nat) (h:i < ctx.length),QU 1 (LC nlc ctx) (i:Int)=some (.rp [eC ctx[i]]):=fun i h=>Zcj ctx nlc i h
 have hex:∃ r h',FinR (Wi s (ctx.map Prod.snd) op n gty ds) ctx.length u3 n3 Qh r h':=⟨_,_,rfl,OU true false (Wi s (ctx.map Prod.snd) op n gty ds).2.1,OU true false (Wi s (ctx.map Prod.snd) op n gty ds).2.2,none,[],rfl,fun _=>⟨⟨true,rfl⟩,.inl ⟨true,rfl⟩⟩⟩
 have hops:op=0∨op=1∨op=2∨op=3∨op=4∨op=5∨op=6∨op=7∨op=8∨op=9∨op=10∨op=11∨op=12:=by omega
 refine QN.of_codeOf Zcl Qz (by simp) hex ?_
 rcases hops with e | e | e | e | e | e | e | e | e | e | e | e | e
 all_goals subst e
 all_goals simp [YT] at many
 ·obtain ⟨v0,v1⟩:=hvar rfl
  obtain ⟨v,rfl⟩:∃ v:Nat,n=v:=⟨n.toNat,by omega⟩
  have hv:v < ctx.length:=by omega
  have hx:=hidx v hv
  have hxo:=hc _ (List.getElem_mem hv)
  have hxf:=hcf _ (List.getElem_mem hv)
  have hget:(ctx.map Prod.snd)[v]?=some (ctx[v].2):=by simp [hv]
  generalize ctx[v]=c at hx hxo hxf hget
  obtain ⟨cf,cl⟩:=c
  simp only at hxo hxf hget
  subst hxf
  have hlen:=QH hxo
  simp (disch:=omega) [QL,Qw,Qs,GTerm.cells,eqB,hx]
  refine Qa (ZcQ false cl (by omega)) (by simp) ?_
  have hzl:(zeros (List.length ctx)).length=List.length ctx:=by simp [zeros]
  simp (disch:=omega) [Go.Proofs.YthdkhhebanogbaaGreat.cl,Kn,hzl]
  refine ⟨by omega,?_⟩
  refine Qa (lg cl) (by simp) ?_
  have hlb:ltB 40 cl.length=false:=by rw [Qg];omega
  simp (disch:=omega) [hlb]
  refine Wd (.inr rfl) (by simp) ⟨by simp [Wi],_,_,_,_,rfl,fun _=>?_⟩
  simp [Wi,hget]
  refine ⟨?_,hzl⟩
  rw [List.set_eq_take_append_cons_drop,if_pos (by rw [List.length_map,hzl];omega)]
 ·simp (disch:=omega) [QL,Qw,Qs,GTerm.cells,eqB,Qo]
  refine Qa (lg [0]) (by simp) ?_
  simp (disch:=omega) [ltB]
  refine Wd (.inr rfl) (by simp) ⟨by simp [Wi],_,_,_,_,rfl,fun _=>?_⟩
  simp [Wi,zeros]
 ·have i0:QU 1 (LC nn nds) 0=some (.rp [L false (ndP 2 ds 0)]):=hnd 0 (by omega)
  have a0:=ndL 0 (by omega)
  have b0:=ndG 0 (by omega)
  have l0:=QH (tyG 0 (by omega))
  have i1:QU 1 (LC nn nds) 1=some (.rp [L false (ndP 2 ds 1)]):=hnd 1 (by omega)
  have a1:=ndL 1 (by omega)
  have b1:=ndG 1 (by omega)
  have l1:=QH (tyG 1 (by omega))
  simp (disch:=omega) [QL,Qw,Qs,GTerm.cells,eqB,i0,i1,Qo]
  refine Qa (sumc false false _ _ a0 a1 b0 b1) (by simp) ?_
  simp (disch:=omega) [i0,i1,Qo]
  refine Qa (lg [0]) (by simp) ?_
  simp (disch:=omega) [ltB]
  refine Wd (.inr rfl) (by simp) ⟨by simp [Wi],_,_,_,_,rfl,fun _=>?_⟩
  simp [Wi]
 ·have i0:QU 1 (LC nn nds) 0=some (.rp [L false (ndP 3 ds 0)]):=hnd 0 (by omega)
  have a0:=ndL 0 (by omega)
  have b0:=ndG 0 (by omega)
  have l0:=QH (tyG 0 (by omega))
  have i1:QU 1 (LC nn nds) 1=some (.rp [L false (ndP 3 ds 1)]):=hnd 1 (by omega)
  have a1:=ndL 1 (by omega)
  have b1:=ndG 1 (by omega)
  have l1:=QH (tyG 1 (by omega))
  have i2:QU 1 (LC nn nds) 2=some (.rp [L false (ndP 3 ds 2)]):=hnd 2 (by omega)
  have a2:=ndL 2 (by omega)
  have b2:=ndG 2 (by omega)
  have l2:=QH (tyG 2 (by omega))
  simp (disch:=omega) [QL,Qw,Qs,GTerm.cells,eqB,i0,i1,i2,Qo]
  refine WG (kid _ _ _ _ _ _ 1 (by omega)) ?_
  rintro r h' ⟨rfl,rfl⟩
  simp (disch:=omega) [i0,i1,i2,Qo]
  refine WG (kid _ _ _ _ _ _ 2 (by omega)) ?_
  rintro r h' ⟨rfl,rfl⟩
  simp (disch:=omega) [i0,i1,i2,Qo]
  refine Qa (eqc false false 1 2 (by omega)) (by simp) ?_
  cases he:(tyP ds 1 == tyP ds 2)
  ·simp (disch:=omega)
   have he':tyP ds 1≠tyP ds 2:=by simpa using he
   exact Wd (.inr rfl) (by simp) ⟨by simp [Wi,he'],_,_,_,_,rfl,fun h=>by simp [Wi,he'] at h⟩
  ·simp (disch:=omega) [i0,i1,i2,Qo]
   have he':tyP ds 1=tyP ds 2:=by simpa using he
   refine WG (kid _ _ _ _ _ _ 1 (by omega)) ?_
   rintro r h' ⟨rfl,rfl⟩
   simp (disch:=omega) [i0,i1,i2,Qo]
   have jo:=ZbU (s:=s) a1 a2
   have jg:∀ u∈XU s (ndP 3 ds 1) (ndP 3 ds 2),s.G u:=fun u hu=>Zi4 hsy u hu b1 b2
   refine Qa (ZoE t false false _ _ (by omega) (by omega) b1 b2) (by simp) ?_
   simp (disch:=omega) [i0,i1,i2,Qo]
   refine Qa (sumc false false _ _ a0 jo b0 jg) (by simp) ?_
   simp (disch:=omega) [i0,i1,i2,Qo]
   have hl1:ltB 40 (tyP ds 1).length=false:=by rw [Qg];omega
   refine Qa (lg (tyP ds 1)) (by simp) ?_
   simp (disch:=omega) [hl1]
   refine Wd (.inr rfl) (by simp) ⟨by simp [Wi,he'],_,_,_,_,rfl,fun _=>?_⟩
   simp [Wi,he']
 ·have i0:QU 1 (LC nn nds) 0=some (.rp [L false (ndP 4 ds 0)]):=hnd 0 (by omega)
  have a0:=ndL 0 (by omega)
  have b0:=ndG 0 (by omega)
  have l0:=QH (tyG 0 (by omega))
  have i1:QU 1 (LC nn nds) 1=some (.rp [L false (ndP 4 ds 1)]):=hnd 1 (by omega)
  have a1:=ndL 1 (by omega)
  have b1:=ndG 1 (by omega)
  have l1:=QH (tyG 1 (by omega))
  simp (disch:=omega) [QL,Qw,Qs,GTerm.cells,eqB,i0,i1,Qo]
  refine WG (kid _ _ _ _ _ _ 0 (by omega)) ?_
  rintro r h' ⟨rfl,rfl⟩
  simp (disch:=omega) [i0,i1,Qo]
  refine WG (kid _ _ _ _ _ _ 1 (by omega)) ?_
  rintro r h' ⟨rfl,rfl⟩
  simp (disch:=omega) [i0,i1,Qo]
  obtain ⟨z,hz⟩:∃ z,z=1::(tyP ds 0++tyP ds 1):=⟨_,rfl⟩
  have cz:=cat3 1 false false (tyP ds 0) (tyP ds 1) (by omega) (by omega)
  rw [← hz] at cz
  refine Qa cz (by simp) ?_
  simp (disch:=omega) [i0,i1,Qo]
  refine Qa (sumc false false _ _ a0 a1 b0 b1) (by simp) ?_
  simp (disch:=omega) [i0,i1,Qo]
  refine Qa (lg z) (by simp) ?_
  have fp:Wi s (ctx.map Prod.snd) 4 n gty ds=Xl z (XZ s (ndP 4 ds 0) (ndP 4 ds 1)):=by simp [Wi,hz]
  rw [fp,Xl]
  by_cases hl:z.length≤40
  ·have hb:ltB 40 (z.length:Int)=false:=by rw [Qg];omega
   rw [hb,if_pos hl]
   simp (disch:=omega)
   exact Wd (.inr rfl) (by simp) ⟨rfl,_,_,_,_,rfl,fun _=>⟨⟨_,rfl⟩,.inl ⟨_,rfl⟩⟩⟩
  ·have hb:ltB 40 (z.length:Int)=true:=by rw [Qi];omega
   rw [hb,if_neg hl]
   simp (disch:=omega)
   exact Wd (.inr rfl) (by simp) ⟨rfl,_,_,_,_,rfl,fun h=>by simp at h⟩
 ·have i0:QU 1 (LC nn nds) 0=some (.rp [L false (ndP 5 ds 0)]):=hnd 0 (by omega)
  have a0:=ndL 0 (by omega)
  have b0:=ndG 0 (by omega)
  have l0:=QH (tyG 0 (by omega))
  have i1:QU 1 (LC nn nds) 1=some (.rp [L false (ndP 5 ds 1)]):=hnd 1 (by omega)
  have a1:=ndL 1 (by omega)
  have b1:=ndG 1 (by omega)
  have l1:=QH (tyG 1 (by omega))
  obtain ⟨g1,j1⟩:∃ f,QU 1 (LC nu uds) 1=some (.rp [L f (usP 5 ds 1)]):=hud 1 (by omega)
  have uo1:=fun (g:Int) hg=>VB t (g:=g) hg g1 (usP 5 ds 1) (usL 1 (by omega)) (usG 1 (by omega))
  have hgn:=hgr (by simp [Z6,Qe])
  simp (disch:=omega) [QL,Qw,Qs,GTerm.cells,eqB,i0,i1,j1,Qo]
  refine Qa (uo1 n hgn) (by simp) ?_
  cases hu:Wu s (usP 5 ds 1) (n)
  ·simp (disch:=omega)
   exact Wd (.inr rfl) (by simp) ⟨by simp [Wi,hu],_,_,_,_,rfl,fun h=>by simp [Wi,hu] at h⟩
  ·simp (disch:=omega) [i0,i1,j1,Qo]
   refine WG (kid _ _ _ _ _ _ 1 (by omega)) ?_
   rintro r h' ⟨rfl,rfl⟩
   simp (disch:=omega) [i0,i1,j1,Qo]
   refine Qa (VY t (n) (hgn) false _ (by omega) b0) (by simp) ?_
   simp (disch:=omega) [i0,i1,j1,Qo]
   have sc:=Ya t (g:=n) a0
   refine Qa (sumc false false _ _ sc.1 a1 sc.2 b1) (by simp) ?_
   simp (disch:=omega) [i0,i1,j1,Qo]
   have hl1:ltB 40 (tyP ds 1).length=false:=by rw [Qg];omega
   refine Qa (lg (tyP ds 1)) (by simp) ?_
   simp (disch:=omega) [hl1]
   refine Wd (.inr rfl) (by simp) ⟨by simp [Wi,hu],_,_,_,_,rfl,fun _=>?_⟩
   simp [Wi,hu]
 ·have i0:QU 1 (LC nn nds) 0=some (.rp [L false (ndP 6 ds 0)]):=hnd 0 (by omega)
  have a0:=ndL 0 (by omega)
  have b0:=ndG 0 (by omega)
  have l0:=QH (tyG 0 (by omega))
  have hgt:=hty (by simp [Xy,Qe])
  have lt:=QH hgt
  simp (disch:=omega) [QL,Qw,Qs,GTerm.cells,eqB,i0,Qo]
  refine WG (kid _ _ _ _ _ _ 0 (by omega)) ?_
  rintro r h' ⟨rfl,rfl⟩
  simp (disch:=omega) [i0,Qo]
  obtain ⟨z,hz⟩:∃ z,z=2::(tyP ds 0++gty):=⟨_,rfl⟩
  have cz:=cat3 2 false nl1 (tyP ds 0) gty (by omega) (by omega)
  rw [← hz] at cz
  refine Qa cz (by simp) ?_
  simp (disch:=omega) [i0,Qo]
  refine Qa (lg z) (by simp) ?_
  have fp:Wi s (ctx.map Prod.snd) 6 n gty ds=Xl z (ndP 6 ds 0):=by simp [Wi,hz]
  rw [fp,Xl]
  by_cases hl:z.length≤40
  ·have hb:ltB 40 (z.length:Int)=false:=by rw [Qg];omega
   rw [hb,if_pos hl]
   simp (disch:=omega)
   exact Wd (.inr rfl) (by simp) ⟨rfl,_,_,_,_,rfl,fun _=>⟨⟨_,rfl⟩,.inl ⟨_,rfl⟩⟩⟩
  ·have hb:ltB 40 (z.length:Int)=true:=by rw [Qi];omega
   rw [hb,if_neg hl]
   simp (disch:=omega)
   exact Wd (.inr rfl) (by simp) ⟨rfl,_,_,_,_,rfl,fun h=>by simp at h⟩
 ·have i0:QU 1 (LC nn nds) 0=some (.rp [L false (ndP 7 ds 0)]):=hnd 0 (by omega)
  have a0:=ndL 0 (by omega)
  have b0:=ndG 0 (by omega)
  have l0:=QH (tyG 0 (by omega))
  have hgt:=hty (by simp [Xy,Qe])
  have lt:=QH hgt
  simp (disch:=omega) [QL,Qw,Qs,GTerm.cells,eqB,i0,Qo]
  refine WG (kid _ _ _ _ _ _ 0 (by omega)) ?_
  rintro r h' ⟨rfl,rfl⟩
  simp (disch:=omega) [i0,Qo]
  obtain ⟨z,hz⟩:∃ z,z=2::(gty++tyP ds 0):=⟨_,rfl⟩
  have cz:=cat3 2 nl1 false gty (tyP ds 0) (by omega) (by omega)
  rw [← hz] at cz
  refine Qa cz (by simp) ?_
  simp (disch:=omega) [i0,Qo]
  refine Qa (lg z) (by simp) ?_
  have fp:Wi s (ctx.map Prod.snd) 7 n gty ds=Xl z (ndP 7 ds 0):=by simp [Wi,hz]
  rw [fp,Xl]
  by_cases hl:z.length≤40
  ·have hb:ltB 40 (z.length:Int)=false:=by rw [Qg];omega
   rw [hb,if_pos hl]
   simp (disch:=omega)
   exact Wd (.inr rfl) (by simp) ⟨rfl,_,_,_,_,rfl,fun _=>⟨⟨_,rfl⟩,.inl ⟨_,rfl⟩⟩⟩
  ·have hb:ltB 40 (z.length:Int)=true:=by rw [Qi];omega
   rw [hb,if_neg hl]
   simp (disch:=omega)
   exact Wd (.inr rfl) (by simp) ⟨rfl,_,_,_,_,rfl,fun h=>by simp at h⟩
 ·have i0:QU 1 (LC nn nds) 0=some (.rp [L false (ndP 8 ds 0)]):=hnd 0 (by omega)
  have a0:=ndL 0 (by omega)
  have b0:=ndG 0 (by omega)
  have l0:=QH (tyG 0 (by omega))
  have i1:QU 1 (LC nn nds) 1=some (.rp [L false (ndP 8 ds 1)]):=hnd 1 (by omega)
  have a1:=ndL 1 (by omega)
  have b1:=ndG 1 (by omega)
  have l1:=QH (tyG 1 (by omega))
  have i2:QU 1 (LC nn nds) 2=some (.rp [L false (ndP 8 ds 2)]):=hnd 2 (by omega)
  have a2:=ndL 2 (by omega)
  have b2:=ndG 2 (by omega)
  have l2:=QH (tyG 2 (by omega))
  obtain ⟨g1,j1⟩:∃ f,QU 1 (LC nu uds) 1=some (.rp [L f (usP 8 ds 1)]):=hud 1 (by omega)
  have uo1:=fun (g:Int) hg=>VB t (g:=g) hg g1 (usP 8 ds 1) (usL 1 (by omega)) (usG 1 (by omega))
  obtain ⟨g2,j2⟩:∃ f,QU 1 (LC nu uds) 2=some (.rp [L f (usP 8 ds 2)]):=hud 2 (by omega)
  have uo2:=fun (g:Int) hg=>VB t (g:=g) hg g2 (usP 8 ds 2) (usL 2 (by omega)) (usG 2 (by omega))
  have hgn:=hgr (by simp [Z6,Qe])
  simp (disch:=omega) [QL,Qw,Qs,GTerm.cells,eqB,i0,i1,i2,j1,j2,Qo]
  refine WG (kid _ _ _ _ _ _ 1 (by omega)) ?_
  rintro r h' ⟨rfl,rfl⟩
  simp (disch:=omega) [i0,i1,i2,j1,j2,Qo]
  refine WG (kid _ _ _ _ _ _ 2 (by omega)) ?_
  rintro r h' ⟨rfl,rfl⟩
  simp (disch:=omega) [i0,i1,i2,j1,j2,Qo]
  refine Qa (eqc false false 1 2 (by omega)) (by simp) ?_
  cases he:(tyP ds 1 == tyP ds 2)
  ·simp (disch:=omega)
   have he':tyP ds 1≠tyP ds 2:=by simpa using he
   exact Wd (.inr rfl) (by simp) ⟨by simp [Wi,he'],_,_,_,_,rfl,fun h=>by simp [Wi,he'] at h⟩
  ·simp (disch:=omega) [i0,i1,i2,j1,j2,Qo]
   have he':tyP ds 1=tyP ds 2:=by simpa using he
   refine Qa (uo1 n hgn) (by simp) ?_
   cases hu:Wu s (usP 8 ds 1) (n)
   ·simp (disch:=omega)
    exact Wd (.inr rfl) (by simp) ⟨by simp [Wi,he',hu],_,_,_,_,rfl,fun h=>by simp [Wi,he',hu] at h⟩
   ·simp (disch:=omega) [i0,i1,i2,j1,j2,Qo]
    refine Qa (uo2 n hgn) (by simp) ?_
    cases hv:Wu s (usP 8 ds 2) (n)
    ·simp (disch:=omega)
     exact Wd (.inr rfl) (by simp) ⟨by simp [Wi,he',hu,hv],_,_,_,_,rfl,fun h=>by simp [Wi,he',hu,hv] at h⟩
    ·simp (disch:=omega) [i0,i1,i2,j1,j2,Qo]
     refine WG (kid _ _ _ _ _ _ 1 (by omega)) ?_
     rintro r h' ⟨rfl,rfl⟩
     simp (disch:=omega) [i0,i1,i2,j1,j2,Qo]
     refine Qa (VY t (n) (hgn) false _ (by omega) b0) (by simp) ?_
     simp (disch:=omega) [i0,i1,i2,j1,j2,Qo]
     have sc:=Ya t (g:=n) a0
     have jo:=ZbU (s:=s) a1 a2
     have jg:∀ u∈XU s (ndP 8 ds 1) (ndP 8 ds 2),s.G u:=fun u hu=>Zi4 hsy u hu b1 b2
     refine Qa (ZoE t false false _ _ (by omega) (by omega) b1 b2) (by simp) ?_
     simp (disch:=omega) [i0,i1,i2,j1,j2,Qo]
     refine Qa (sumc false false _ _ sc.1 jo sc.2 jg) (by simp) ?_
     simp (disch:=omega) [i0,i1,i2,j1,j2,Qo]
     have hl1:ltB 40 (tyP ds 1).length=false:=by rw [Qg];omega
     refine Qa (lg (tyP ds 1)) (by simp) ?_
     simp (disch:=omega) [hl1]
     refine Wd (.inr rfl) (by simp) ⟨by simp [Wi,he',hu,hv],_,_,_,_,rfl,fun _=>?_⟩
     simp [Wi,he',hu,hv]
 ·have i0:QU 1 (LC nn nds) 0=some (.rp [L false (ndP 9 ds 0)]):=hnd 0 (by omega)
  have a0:=ndL 0 (by omega)
  have b0:=ndG 0 (by omega)
  have l0:=QH (tyG 0 (by omega))
  obtain ⟨g0,j0⟩:∃ f,QU 1 (LC nu uds) 0=some (.rp [L f (usP 9 ds 0)]):=hud 0 (by omega)
  have uo0:=fun (g:Int) hg=>VB t (g:=g) hg g0 (usP 9 ds 0) (usL 0 (by omega)) (usG 0 (by omega))
  have hgn:=hgr (by simp [Z6,Qe])
  have hgt:=hty (by simp [Xy,Qe])
  have lt:=QH hgt
  simp (disch:=omega) [QL,Qw,Qs,GTerm.cells,eqB,i0,j0,Qo]
  refine Qa (uo0 n hgn) (by simp) ?_
  cases hu:Wu s (usP 9 ds 0) (n)
  ·simp (disch:=omega)
   exact Wd (.inr rfl) (by simp) ⟨by simp [Wi,hu],_,_,_,_,rfl,fun h=>by simp [Wi,hu] at h⟩
  ·simp (disch:=omega) [i0,j0,Qo]
   rw [Qd (by have:=hgn.1;have:=hgn.2;omega)]
   refine WG (kid _ _ _ _ _ _ 0 (by omega)) ?_
   rintro r h' ⟨rfl,rfl⟩
   simp (disch:=omega) [i0,j0,Qo]
   obtain ⟨z,hz⟩:∃ z,z=(3+n)::(gty++tyP ds 0):=⟨_,rfl⟩
   have cz:=cat3 (3+n) nl1 false gty (tyP ds 0) (by omega) (by omega)
   rw [← hz] at cz
   refine Qa cz (by simp) ?_
   simp (disch:=omega) [i0,j0,Qo]
   refine Qa (lg z) (by simp) ?_
   have fp:Wi s (ctx.map Prod.snd) 9 n gty ds=Xl z (ndP 9 ds 0):=by simp [Wi,hz,hu]
   rw [fp,Xl]
   by_cases hl:z.length≤40
   ·have hb:ltB 40 (z.length:Int)=false:=by rw [Qg];omega
    rw [hb,if_pos hl]
    simp (disch:=omega)
    exact Wd (.inr rfl) (by simp) ⟨rfl,_,_,_,_,rfl,fun _=>⟨⟨_,rfl⟩,.inl ⟨_,rfl⟩⟩⟩
   ·have hb:ltB 40 (z.length:Int)=true:=by rw [Qi];omega
    rw [hb,if_neg hl]
    simp (disch:=omega)
    exact Wd (.inr rfl) (by simp) ⟨rfl,_,_,_,_,rfl,fun h=>by simp at h⟩
 ·have i0:QU 1 (LC nn nds) 0=some (.rp [L false (ndP 10 ds 0)]):=hnd 0 (by omega)
  have a0:=ndL 0 (by omega)
  have b0:=ndG 0 (by omega)
  have l0:=QH (tyG 0 (by omega))
  have i1:QU 1 (LC nn nds) 1=some (.rp [L false (ndP 10 ds 1)]):=hnd 1 (by omega)
  have a1:=ndL 1 (by omega)
  have b1:=ndG 1 (by omega)
  have l1:=QH (tyG 1 (by omega))
  have h0:=Yj (tyG 0 (by omega))
  have hx0:QU 1 (L false (tyP ds 0)) 0=some (.rp [N (hd (tyP ds 0))]):=Jb h0.2.2.2.1
  have hga:=fst (by omega)
  have hgc:=Kw h0.1 (.inl ((fst (by omega)).2.2.2.1 rfl))
  have hsh:(QG (hd (tyP ds 0))).2=Xc (hd (tyP ds 0)):=(Kq h0.2.1 h0.2.2.1).2.2.2.2.2 (.inl ((fst (by omega)).2.2.2.1 rfl))
  have hgg:s.G (QG (hd (tyP ds 0))).2:=by rw [hsh];exact hgc
  simp (disch:=omega) [QL,Qw,Qs,GTerm.cells,eqB,i0,i1,Qo]
  refine WG (kid _ _ _ _ _ _ 0 (by omega)) ?_
  rintro r h' ⟨rfl,rfl⟩
  simp (disch:=omega) [hx0,Qo]
  refine Qa (Zbj _ ⟨by omega,by omega⟩) (by simp) ?_
  simp (disch:=omega) [i0,i1,Qo]
  refine WG (kid _ _ _ _ _ _ 0 (by omega)) ?_
  rintro r h' ⟨rfl,rfl⟩
  simp (disch:=omega) [i0,i1,Qo]
  refine Qa (Zgb (JJ (tyG 0 (by omega)))) (by simp) ?_
  rw [ZbL (JK (hga.2.2.2.1 rfl))]
  have hx1:QU 1 (.sl true false 1 [[L false (QK (tyP ds 0))],[L false (WC (tyP ds 0))]]) 1=some (.rp [L false (WC (tyP ds 0))]):=by simp [QU]
  simp (disch:=omega) [i0,i1,Qo,hx1]
  refine Qa (VY t ((QG (hd (tyP ds 0))).2) (hgg) false _ (by omega) b1) (by simp) ?_
  simp (disch:=omega) [i0,i1,Qo]
  have sc:=Ya t (g:=(QG (hd (tyP ds 0))).2) a1
  refine Qa (sumc false false _ _ a0 sc.1 b0 sc.2) (by simp) ?_
  simp (disch:=omega) [i0,i1,Qo]
  have l9:=QH (JW (tyG 0 (by omega)) (JK (hga.2.2.2.1 rfl))).2.2
  have hl9:ltB 40 (WC (tyP ds 0)).length=false:=by rw [Qg];omega
  refine Qa (lg (WC (tyP ds 0))) (by simp) ?_
  simp (disch:=omega) [hl9]
  refine Wd (.inr rfl) (by simp) ⟨by simp [Wi],_,_,_,_,rfl,fun _=>?_⟩
  simp [Wi]
 ·have i0:QU 1 (LC nn nds) 0=some (.rp [L false (ndP 11 ds 0)]):=hnd 0 (by omega)
  have a0:=ndL 0 (by omega)
  have b0:=ndG 0 (by omega)
  have l0:=QH (tyG 0 (by omega))
  have hgn:=hgr (by simp [Z6,Qe])
  simp (disch:=omega) [QL,Qw,Qs,GTerm.cells,eqB,i0,Qo]
  rw [Qd (by have:=hgn.1;have:=hgn.2;omega)]
  refine WG (kid _ _ _ _ _ _ 0 (by omega)) ?_
  rintro r h' ⟨rfl,rfl⟩
  simp (disch:=omega) [i0,Qo]
  obtain ⟨z,hz⟩:∃ z,z=(19+n)::tyP ds 0:=⟨_,rfl⟩
  have cz:=cat2 (19+n) false (tyP ds 0) (by omega)
  rw [← hz] at cz
  refine Qa cz (by simp) ?_
  simp (disch:=omega) [i0,Qo]
  refine Qa (VY t (n) (hgn) false _ (by omega) b0) (by simp) ?_
  simp (disch:=omega) [i0,Qo]
  refine Qa (lg z) (by simp) ?_
  have fp:Wi s (ctx.map Prod.snd) 11 n gty ds=Xl z (QY s n (ndP 11 ds 0)):=by simp [Wi,hz]
  rw [fp,Xl]
  by_cases hl:z.length≤40
  ·have hb:ltB 40 (z.length:Int)=false:=by rw [Qg];omega
   rw [hb,if_pos hl]
   simp (disch:=omega)
   exact Wd (.inr rfl) (by simp) ⟨rfl,_,_,_,_,rfl,fun _=>⟨⟨_,rfl⟩,.inl ⟨_,rfl⟩⟩⟩
  ·have hb:ltB 40 (z.length:Int)=true:=by rw [Qi];omega
   rw [hb,if_neg hl]
   simp (disch:=omega)
   exact Wd (.inr rfl) (by simp) ⟨rfl,_,_,_,_,rfl,fun h=>by simp at h⟩
 ·have i0:QU 1 (LC nn nds) 0=some (.rp [L false (ndP 12 ds 0)]):=hnd 0 (by omega)
  have a0:=ndL 0 (by omega)
  have b0:=ndG 0 (by omega)
  have l0:=QH (tyG 0 (by omega))
  have i1:QU 1 (LC nn nds) 1=some (.rp [L false (ndP 12 ds 1)]):=hnd 1 (by omega)
  have a1:=ndL 1 (by omega)
  have b1:=ndG 1 (by omega)
  have l1:=QH (tyG 1 (by omega))
  obtain ⟨g1,j1⟩:∃ f,QU 1 (LC nu uds) 1=some (.rp [L f (usP 12 ds 1)]):=hud 1 (by omega)
  have uo1:=fun (g:Int) hg=>VB t (g:=g) hg g1 (usP 12 ds 1) (usL 1 (by omega)) (usG 1 (by omega))
  have hgn:=hgr (by simp [Z6,Qe])
  have h0:=Yj (tyG 0 (by omega))
  have hx0:QU 1 (L false (tyP ds 0)) 0=some (.rp [N (hd (tyP ds 0))]):=Jb h0.2.2.2.1
  have hga:=fst (by omega)
  have hgc:=Kw h0.1 (.inr ((fst (by omega)).2.2.2.2 rfl))
  have hsh:(QG (hd (tyP ds 0))).2=Xc (hd (tyP ds 0)):=(Kq h0.2.1 h0.2.2.1).2.2.2.2.2 (.inr ((fst (by omega)).2.2.2.2 rfl))
  have hgg:s.G (QG (hd (tyP ds 0))).2:=by rw [hsh];exact hgc
  simp (disch:=omega) [QL,Qw,Qs,GTerm.cells,eqB,i0,i1,j1,Qo]
  refine WG (kid _ _ _ _ _ _ 0 (by omega)) ?_
  rintro r h' ⟨rfl,rfl⟩
  simp (disch:=omega) [hx0,Qo]
  refine Qa (Zbj _ ⟨by omega,by omega⟩) (by simp) ?_
  simp (disch:=omega) [i0,i1,j1,Qo]
  refine Qa (ZfU t hgn hgg) (by simp) ?_
  simp (disch:=omega) [i0,i1,j1,Qo]
  refine Qa (uo1 _ (GSys.Gtm t _ _)) (by simp) ?_
  cases hu:Wu s (usP 12 ds 1) (s.tm n (QG (hd (tyP ds 0))).2)
  ·simp (disch:=omega)
   exact Wd (.inr rfl) (by simp) ⟨by simp [Wi,hu],_,_,_,_,rfl,fun h=>by simp [Wi,hu] at h⟩
  ·simp (disch:=omega) [i0,i1,j1,Qo]
   refine WG (kid _ _ _ _ _ _ 1 (by omega)) ?_
   rintro r h' ⟨rfl,rfl⟩
   simp (disch:=omega) [i0,i1,j1,Qo]
   refine Qa (VY t (n) (hgn) false _ (by omega) b0) (by simp) ?_
   simp (disch:=omega) [i0,i1,j1,Qo]
   have sc:=Ya t (g:=n) a0
   refine Qa (sumc false false _ _ sc.1 a1 sc.2 b1) (by simp) ?_
   simp (disch:=omega) [i0,i1,j1,Qo]
   have hl1:ltB 40 (tyP ds 1).length=false:=by rw [Qg];omega
   refine Qa (lg (tyP ds 1)) (by simp) ?_
   simp (disch:=omega) [hl1]
   refine Wd (.inr rfl) (by simp) ⟨by simp [Wi,hu],_,_,_,_,rfl,fun _=>?_⟩
   simp [Wi,hu]
def Zt (nl:Bool) (l:List Int):Prop:=nl=true→l=[]
mutual
def GTerm.fl:GTerm→Prop
 | .mk _ _ nl1 ty _ ks=>Zt nl1 ty∧fls ks
def fls:List GTerm→Prop
 | []=>True
 | k::ks=>k.fl∧fls ks
end
theorem ZH:∀ {ks:List GTerm},fls ks ↔ ∀ k∈ks,k.fl
 | []=>by simp [fls]
 | k::ks=>by simp [fls,ZH (ks:=ks)]
def FzR (R:LV→Prop) (r:LV) (h':List Box):Prop:=∃ t h1 m,Fz t r h' h1∧(0:Nat)≤m∧m≤h1.length∧Low m t∧(∀ l xs,l < m→h1[l]?=some (some xs)→QA m xs)∧R t∧Low 0 t
theorem Qf.freeze {P:Program} {f:FuncId} {args:List LV} {R:LV→Prop} (c:QN P f args [] (FzR R)):Qf P f args R:=by
 refine QN.freeze (c.mono fun r h' hr=>?_)
 obtain ⟨t,h1,m,a,b,c,d,e,f,g⟩:=hr
 exact ⟨t,h1,m,a,b,c,d,e,f,g⟩
theorem fz_bad {R:LV→Prop} {h':List Box} {l:Nat} {xs:List LV} (hl:h'[l]?=some (some xs)) (hs:YI xs xs (h'.set l none) (h'.set l none)) (lo:QA 0 xs) (hR:R (.rp xs)):FzR R (.ptr l 0) h' :=
 ⟨.rp xs,h'.set l none,0,by simp only [Fz];exact .inr ⟨l,xs,rfl,hl,hs⟩,Nat.le_refl _,Nat.zero_le _,by simpa using lo,fun l xs h=>by omega,hR,by simpa using lo⟩
theorem ZnX {u nl:Bool} {sz:Nat} {Qh:List (List LV)} (h:List Box):Fz (.sl u nl sz Qh) (.sl u nl sz Qh) h h:=by simp only [Fz];exact .inl ⟨trivial,trivial⟩
theorem ZbS:∀ {xs:List LV} {h:List Box},(∀ x∈xs,∀ h,Fz x x h h)→YI xs xs h h
 | [],h,_=>by simp [YI]
 | x::xs,h,hx=>by
  simp only [YI]
  exact ⟨x,xs,h,rfl,hx x (by simp) h,ZbS fun y hy=>hx y (by simp [hy])⟩
theorem Zaf {R:LV→Prop} {h':List Box} {l:Nat} {f:Int} {u nl:Bool} {p:List Int} (hl:h'[l]?=some (some [.sl true true 1 [],.sl true true 1 [],.sl true true 1 [],N f,OU u nl p]))
  (hR:R (.rp [.sl true true 1 [],.sl true true 1 [],.sl true true 1 [],N f,OU u nl p])):FzR R (.ptr l 0) h' :=
 fz_bad hl (ZbS fun x hx=>by
  simp only [List.mem_cons,List.not_mem_nil,or_false] at hx
  rcases hx with rfl | rfl | rfl | rfl | rfl
  all_goals first | exact ZnX | (intro h;simp [Fz])) (by simp) hR
theorem ZiL:∀ (l:List Int) (h:List Box),JC (l.map fun n=>[N n]) 1 (l.map N) h h
 | [],h=>by simp [JC]
 | a::l,h=>by
  simp only [List.map_cons,JC]
  exact ⟨[N a],l.map N,h,rfl,rfl,ZbS (fun x hx=>by simp only [List.mem_singleton] at hx;subst hx;intro h;simp [Fz]),ZiL l h⟩
theorem fz_ok {R:LV→Prop} {c2:Box} {u:Bool} {T nd:List Int} {ndv:LV} {m:Nat} {u3 n3:Bool} {Qh:List (List LV)} {hr:List Box} (lo:∀ k,We k Qh)
  (hn:(∃ u,ndv=OU u false nd)∨(ndv=.ha 2 1 0 m m∧c2=some (nd.map N)∧nd.length=m)) (hR:∀ u2,R (.rp [OU u false T,OU u2 false nd,.sl u3 n3 1 Qh,N 0,.sl true true 1 []])) :
  FzR R (.ptr 3 0) (none::none::c2::some [OU u false T,ndv,.sl u3 n3 1 Qh,N 0,.sl true true 1 []]::hr):=by
 rcases hn with ⟨u2,rfl⟩ | ⟨rfl,rfl,rfl⟩
 ·refine fz_bad (by rfl) (ZbS fun x hx=>?_) (by simp [lo]) (hR u2)
  simp only [List.mem_cons,List.not_mem_nil,or_false] at hx
  rcases hx with rfl | rfl | rfl | rfl | rfl
  all_goals first | exact ZnX | (intro h;simp [Fz])
 ·refine ⟨.rp [OU u false T,OU true false nd,.sl u3 n3 1 Qh,N 0,.sl true true 1 []],none::none::none::none::hr,0,?_,Nat.le_refl _,Nat.zero_le _,by simp [lo],fun l xs h=>by omega,hR true,by simp [lo]⟩
  simp only [Fz]
  refine .inr ⟨3,_,rfl,rfl,?_⟩
  simp only [YI]
  refine ⟨_,_,_,rfl,ZnX _,_,_,_,rfl,?_,_,_,_,rfl,ZnX _,_,_,_,rfl,⟨rfl,rfl⟩,_,_,_,rfl,ZnX _,rfl,rfl⟩
  simp only [Fz]
  refine .inr ⟨trivial,trivial,2,nd.length,nd.map N,[],by simp,by simp,by simp,by simp,?_⟩
  exact ZiL nd _
theorem Z1 (ys:List LV):(LV.rp ys).flat=true:=rfl
theorem YQ (ys:List LV):(LV.rp ys).cells=[.rp ys]:=rfl
theorem app_new {Qh:List (List LV)} {row:List LV} (h:Qh.length < 1099511627776):WS 1 (.sl (!Qh.isEmpty) Qh.isEmpty 1 Qh) (.sl true false 1 [row])=some (.sl (!(Qh++[row]).isEmpty) (Qh++[row]).isEmpty 1 (Qh++[row])):=by
 simp only [WS]
 rw [if_pos ⟨by cases Qh<;>simp,.inl trivial,.inl trivial,by simp [most];omega⟩]
 cases Qh<;>simp
theorem Zh4 {nv size:Int} {closed:Bool} {op:Int}:∀ {ks:List GTerm} {k:Nat},W5 nv size closed op k ks=true→∀ (i:Nat) (h:i < ks.length),W8 (nv+Qr op ((k+i:Nat):Int)) size closed ks[i]=true
 | [],_,_,i,h=>by simp at h
 | t::ts,k,hf,i,h=>by
  simp only [W5,Bool.and_eq_true] at hf
  cases i with
  | zero=>simpa using hf.1
  | succ i =>
   have:=Zh4 hf.2 i (by simpa using h)
   rw [show k+1+i=k+(i+1) by omega] at this
   simpa using this
mutual
theorem V3 {s:GSys}:∀ (g:GTerm) (ctx:List (List Int)) (f:Int) (p:List Int),Qt s ctx g=.bad f p→p.length≤g.size
 | .mk op n _ ty _ ks,ctx,f0,p0,h=>by
  rw [Qt] at h
  split at h
  ·rename_i f' p' hd
   simp only [Res.bad.injEq] at h
   obtain ⟨rfl,rfl⟩:=h
   have:=Zjt ks ctx op n ty [] _ _ hd
   simpa [GTerm.size] using this
  ·split at h
   ·simp at h
   ·simp only [Res.bad.injEq] at h
    obtain ⟨_,rfl⟩:=h
    simp
theorem Zjt {s:GSys}:∀ (ks:List GTerm) (ctx:List (List Int)) (op n:Int) (ty:List Int) (ds:List TT) (f:Int) (p:List Int),Q9 s ctx op n ty ds ks=.bad f p→p.length≤WV ks+1
 | [],ctx,op,n,ty,ds,f,p,h=>by simp [Q9] at h
 | k::ks,ctx,op,n,ty,ds,f,p,h=>by
  rw [Q9] at h
  split at h
  ·rename_i f' p' hd
   simp only [KRes.bad.injEq] at h
   obtain ⟨rfl,rfl⟩:=h
   have:=V3 k _ _ p' hd
   simp [WV];omega
  ·split at h
   ·simp only [KRes.bad.injEq] at h
    obtain ⟨_,rfl⟩:=h
    simp
   ·split at h
    ·simp only [KRes.bad.injEq] at h
     obtain ⟨_,rfl⟩:=h
     simp
    ·have:=Zjt ks ctx op n ty _ f p h
     simp [WV];omega
end
theorem ZnR {c:Wz} (h:c.length < 1099511627776) (f:Bool) (l:List Int):WS 1 (Zav c) (.sl true false 1 [[L f l]])=some (Zav (c++[(f,l)])):=by
 have:=app_new (Qh:=c.map fun x=>[eC x]) (row:=[L f l]) (by rw [List.length_map];exact h)
 have e1:(c.map fun x=>[eC x]).isEmpty=c.isEmpty:=by cases c<;>rfl
 have e2:(c.map (fun x=>[eC x])++[[L f l]])=(c++[(f,l)]).map fun x=>[eC x]:=by simp
 have e3:((c++[(f,l)]).map fun x=>[eC x]).isEmpty=(c++[(f,l)]).isEmpty:=by cases c<;>rfl
 rw [e2,e1,e3] at this
 exact this
theorem Zgi (l:List Int):Qq (l.map fun n=>[N n])=l.map fun n=>[N n]:=by simp
theorem Jn {c:Wz} {g g':Nat→List Int} {v:Bool×List Int} (hc:∀ (j:Nat) (h:j < c.length),(c[j]).2=g j) (h1:∀ j,j < c.length→g' j=g j) (h2:v.2=g' c.length):∀ (j:Nat) (h:j < (c++[v]).length),((c++[v])[j]).2=g' j:=by
 intro j h
 rw [List.length_append] at h
 rcases Nat.lt_or_ge j c.length with q | q
 ·rw [List.getElem_append_left q,hc j q,h1 j q]
 ·have:j=c.length:=by simp at h;omega
  subst this
  rw [List.getElem_append_right (Nat.le_refl _)]
  simpa using h2
theorem ZdA {c:Wz} {l:List Int} (h:∀ x∈c,x.1=false):∀ x∈c++[(false,l)],x.1=false:=by
 intro x hx
 rcases List.mem_append.1 hx with hx | hx
 ·exact h x hx
 ·simp at hx;subst hx;rfl
theorem Zo {ds:List TT} {x:TT} {j:Nat} (h:j < ds.length):(ds++[x]).getD j (.mk [] [] [])=ds.getD j (.mk [] [] []):=by
 simp [List.getD_eq_getElem?_getD,List.getElem?_append_left h]
theorem Yo {ds:List TT} {x:TT} {j:Nat} (h:j=ds.length):(ds++[x]).getD j (.mk [] [] [])=x:=by
 subst h;simp [List.getD_eq_getElem?_getD]
theorem ZaX {c:Wz} (h:c.length < 1099511627776) (f:Bool) (l:List Int) (k:Nat):WS 1 (Zav c) (.sl true false 1 [[.sl false f 1 (List.take k (l.map fun n=>[N n]))]])=some (Zav (c++[(f,l.take k)])):=by
 rw [← List.map_take];exact ZnR h f (l.take k)
theorem Za2 {c:Wz} (h:c.length < 1099511627776) (f:Bool) (l:List Int) (k:Nat):WS 1 (Zav c) (.sl true false 1 [[.sl false f 1 (List.drop k (l.map fun n=>[N n]))]])=some (Zav (c++[(f,l.drop k)])):=by
 rw [← List.map_drop];exact ZnR h f (l.drop k)
theorem VI {n2:Bool} {l:List Int} {k:Nat} (h:k≤l.length):Yq 1 (L n2 l) none (some (k:Int)) none=some (L n2 (l.take k)):=by
 simp only [Yq,Option.getD_none,Option.getD_some,List.length_map]
 rw [if_pos ⟨trivial,by omega,by omega,by omega,by omega⟩,show ((k:Int)).toNat=k by omega,← List.map_take]
 simp only [Option.isSome_none,Bool.false_and,List.drop_zero,Int.toNat_zero,Zgi]
theorem YR {n2:Bool} {l:List Int} {k:Nat} (h:k≤l.length):Yq 1 (L n2 l) (some (k:Int)) none none=some (L n2 (l.drop k)):=by
 simp only [Yq,Option.getD_none,Option.getD_some,List.length_map]
 rw [if_pos ⟨trivial,by omega,by omega,by omega,by omega⟩,show ((k:Int)).toNat=k by omega,show ((l.length:Int)).toNat=l.length by omega,← List.map_take,← List.map_drop,List.take_length]
 simp only [Option.isSome_none,Bool.false_and,Zgi]
mutual
theorem ZA {s:GSys}:∀ (g:GTerm) (ctx:List (List Int)) (f:Int) (p:List Int),Qt s ctx g=.bad f p→f≠0
 | .mk op n _ ty _ ks,ctx,f0,p0,h=>by
  rw [Qt] at h
  split at h
  ·rename_i f' p' hd
   simp only [Res.bad.injEq] at h
   obtain ⟨rfl,rfl⟩:=h
   exact Zly ks ctx op n ty [] _ _ hd
  ·split at h
   ·simp at h
   ·rename_i hne
    simp only [Res.bad.injEq] at h
    obtain ⟨rfl,rfl⟩:=h
    exact hne
theorem Zly {s:GSys}:∀ (ks:List GTerm) (ctx:List (List Int)) (op n:Int) (ty:List Int) (ds:List TT) (f:Int) (p:List Int),Q9 s ctx op n ty ds ks=.bad f p→f≠0
 | [],ctx,op,n,ty,ds,f,p,h=>by simp [Q9] at h
 | k::ks,ctx,op,n,ty,ds,f,p,h=>by
  rw [Q9] at h
  split at h
  ·rename_i f' p' hd
   simp only [KRes.bad.injEq] at h
   obtain ⟨rfl,rfl⟩:=h
   exact ZA k _ _ p' hd
  ·split at h
   ·rename_i hne
    simp only [KRes.bad.injEq] at h
    obtain ⟨rfl,rfl⟩:=h
    exact hne
   ·split at h
    ·simp only [KRes.bad.injEq] at h
     obtain ⟨rfl,rfl⟩:=h
     omega
    ·exact Zly ks ctx op n ty _ f p h
end
mutual
theorem TT.ex:∀ x:TT,∃ r,x.is r∧∃ ys,r=.rp ys
 | .mk ty nd ks=>by
  obtain ⟨Qh,h⟩:=TT.exs ks
  exact ⟨_,by simp only [TT.is];exact ⟨false,false,Qh,rfl,h⟩,_,rfl⟩
theorem TT.exs:∀ xs:List TT,∃ Qh,TT.are xs Qh
 | []=>⟨[],by simp [TT.are]⟩
 | x::xs=>by
  obtain ⟨r,h,_⟩:=TT.ex x
  obtain ⟨Qh,h2⟩:=TT.exs xs
  exact ⟨_,by simp only [TT.are];exact ⟨r,Qh,rfl,h,h2⟩⟩
end
theorem res_ex (x:Res) (hb:∀ f p,x=.bad f p→f≠0):∃ ys,x.is (share (.rp ys))∧QA 0 ys:=by
 cases x with
 | ok x =>
  obtain ⟨r,h,ys,rfl⟩:=TT.ex x
  obtain ⟨h1,h2⟩:=Zot x _ h
  exact ⟨ys,by rw [h1];exact h,by simpa using h2 0⟩
 | bad f p=>exact ⟨[.sl false true 1 [],.sl false true 1 [],.sl false true 1 [],N f,L false p],⟨hb f p rfl,false,by simp⟩,by simp⟩
theorem fz_ex (R:LV→Prop) (h:∃ ys,R (.rp ys)∧QA 0 ys):∃ r h',FzR R r h':=by
 obtain ⟨ys,h1,h2⟩:=h
 exact ⟨.rp ys,[],.rp ys,[],0,by simp only [Fz];exact .inl ⟨trivial,trivial⟩,Nat.le_refl _,Nat.zero_le _,by simpa using h2,fun l xs h=>by omega,h1,by simpa using h2⟩
structure TypJ (s:GSys) (cx:List (List Int)) (op n:Int) (gty:List Int) (ks:List GTerm) (i:Nat) (t:Nat→LV) (h:List Box) (ds:List TT) (Qh:List (List LV)) (nds uds:Wz) (hr:List Box):Prop where
 are:TT.are ds Qh
 len:ds.length=i
 kok:KidsOk s cx.length op n ds
 tell:Q9 s cx op n gty [] ks=Q9 s cx op n gty ds (ks.drop i)
 ulen:uds.length=i
 nlen:nds.length=i
 us:∀ (j:Nat) (h:j < uds.length),(uds[j]).2=usP op ds j
 nd:∀ (j:Nat) (h:j < nds.length),(nds[j]).2=ndP op ds j
 nf:∀ c∈nds,c.1=false
 e24:t 24=N i
 e8:t 8=Zav nds
 e9:t 9=Zav uds
 heap:h=none::none::some ((zeros cx.length).map N)::ZgU (.sl true true 1 []) (.ha 2 1 0 cx.length cx.length) true ds.isEmpty Qh::hr
theorem typ_ok {s:GSys} (hsy:s.sys=true) (d:Nat):∀ (g:GTerm) (nlc:Bool) (ctx:Wz),g.size≤d→g.wf→g.fl→(∀ c∈ctx,okL s.size c.2=true)→(∀ c∈ctx,c.1=false)→ctx.length+2 * g.size≤100000→W8 ctx.length s.size true g=true →
  Qf Tryz.prog Zd [s.lv,LC nlc ctx,g.lv] (fun r=>(Qt s (ctx.map Prod.snd) g).is (share r)):=by
 induction d with
 | zero=>intro g _ _ h;have:=g.size_pos;omega
 | succ d ih =>
  rintro ⟨op,n,nl1,gty,nl2,ks⟩ nlc ctx hsz hw hfl hc hcf hlen hform
  have t:=GSys.sys_of hsy
  have h16:=t.hi
  simp only [W8,Bool.and_eq_true] at hform
  obtain ⟨hnode,hforms⟩:=hform
  have no:=Zdv hnode
  simp only [GTerm.wf] at hw
  obtain ⟨wop,wn,wty,wk,wks⟩:=hw
  simp only [GTerm.fl] at hfl
  obtain ⟨fl1,flk⟩:=hfl
  simp only [GTerm.size] at hsz hlen
  have hm:(ctx.length:Int)≤(most:Nat):=by unfold most;omega
  have many:=no.many
  have hk3:ks.length≤3:=by
   unfold YT at many
   repeat' split at many
   all_goals omega
  have cxl:(ctx.map Prod.snd).length=ctx.length:=by simp
  refine Qf.freeze (QN.of_codeOf Ze0 Qz (by simp) ?_ ?_)
  ·exact fz_ex (fun r=>(Qt s (ctx.map Prod.snd) (GTerm.mk op n nl1 gty nl2 ks)).is (share r)) (res_ex _ fun f p h=>ZA _ _ f p h)
  have hfl0:∀ a b c d e,(LV.ha a b c d e).flat=true∧(LV.ha a b c d e).cells.length=1:=fun _ _ _ _ _=>⟨rfl,rfl⟩
  have hce0:∀ a b c d e,(LV.ha a b c d e).cells=[.ha a b c d e]:=fun _ _ _ _ _=>rfl
  simp (disch:=omega) [VE,Qw,Qs,GTerm.cells,hm,hfl0,hce0]
  refine Wy ks.length 0 (fun i t h=>∃ ds Qh nds uds hr,TypJ s (ctx.map Prod.snd) op n gty ks i t h ds Qh nds uds hr) (fun t h=>∃ ds Qh nds uds hr,TypJ s (ctx.map Prod.snd) op n gty ks ks.length t h ds Qh nds uds hr) ?_ (by omega) ?_ ?_
  ·refine ⟨[],[],[],[],[],by simp [TT.are],rfl,⟨fun i x h=>by simp at h,fun _ x h=>by simp at h⟩,by simp,rfl,rfl,fun j h=>by simp at h,fun j h=>by simp at h,by simp,by simp,by simp,by simp,?_⟩
   simp [zeros]
  ·rintro i t1 hh hf hi ⟨ds,Qh,nds,uds,hr,J⟩
   (have e1:=hf 1 (by kernel_rfl);have e3:=hf 3 (by kernel_rfl);have e5:=hf 5 (by kernel_rfl);have e7:=hf 7 (by kernel_rfl);have e22:=hf 22 (by kernel_rfl);have e23:=hf 23 (by kernel_rfl);clear hf;simp [] at e1 e3 e5 e7 e22 e23)
   obtain ⟨are,len,kok,tell,ulen,nlen,us,nd,nf,e24,e8,e9,rfl⟩:=J
   have gl:GTerm.cells (GTerm.mk op n nl1 gty nl2 ks)=[N op,N n,L nl1 gty,.sl false nl2 4 (QM ks)]:=by simp [GTerm.cells]
   simp (disch:=omega) [e1,e3,e5,e7,e22,e23,e24]
   by_cases h6:i < ks.length
   rotate_left
   ·have hb:ltB (i:Int) ks.length=false:=by rw [Qg];omega
    have hik:i=ks.length:=by omega
    simp (disch:=omega) [hb]
    exact ⟨ds,Qh,nds,uds,hr,are,by omega,kok,by rw [tell,hik],by omega,by omega,us,nd,nf,by simp [e24,hik],by simp [e8],by simp [e9],by simp⟩
   have hb:ltB (i:Int) ks.length=true:=by rw [Qi];omega
   have hdrop:=List.drop_eq_getElem_cons h6
   have hkw:(ks[i]).wf:=(ZbR.1 wks) _ (List.getElem_mem h6)
   have hkf:(ks[i]).fl:=(ZH.1 flk) _ (List.getElem_mem h6)
   have hks:=Yi h6
   have hkform:W8 ((ctx.length:Int)+Qr op i) s.size true ks[i]=true:=by have:=Zh4 hforms i h6;simpa using this
   have hix:=Zft ks false nl2 i h6
   rw [hdrop] at tell
   generalize ks[i]=k at *
   have hadd:=Xw op i
   have hcs:∀ l∈ctx.map Prod.snd,okL s.size l=true:=fun l hl=>by
    obtain ⟨c,h1,rfl⟩:=List.mem_map.1 hl
    exact hc c h1
   have hty:op=9→okL s.size gty=true:=fun h=>no.typed (by subst h;simp [Xy,Qe])
   have hfirst:i≠0→okL s.size (first ds)=true∧ZeZ op (hd (first ds)):=fun h=>by
    have:=kok.first (by rintro rfl;simp at len;omega)
    exact ⟨this.1,this.2.1⟩
   have hm1:∀ f,Jx op nl1 gty i f=[]∨True:=fun _=>.inr trivial
   have rl:=Zma ds Qh are
   have hmore:∃ more:Wz,more=Jx op nl1 gty i (first ds):=⟨_,rfl⟩
   obtain ⟨more,hmd⟩:=hmore
   have hms:more.map Prod.snd=QC op gty i (first ds):=by rw [hmd];exact Zpo op nl1 gty i (first ds)
   have hml:more.length=(Qr op i).toNat:=by
    have:=congrArg List.length hms
    rw [List.length_map,Zbi] at this;exact this
   have hmok:∀ c∈more++ctx,okL s.size c.2=true:=by
    intro c hcm
    rcases List.mem_append.1 hcm with hcm | hcm
    ·exact ZnU (i:=i) (f:=first ds) hty hfirst c.2 (by rw [← hms];exact List.mem_map_of_mem hcm)
    ·exact hc c hcm
   have hmf:∀ c∈more++ctx,c.1=false:=by
    intro c hcm
    rcases List.mem_append.1 hcm with hcm | hcm
    ·rw [hmd] at hcm
     unfold Jx at hcm
     split at hcm
     ·rename_i h9
      simp at hcm;subst hcm
      have:=QH (hty h9)
      cases hn:nl1 with
      | false=>rfl
      | true=>have:=fl1 hn;subst this;simp at *
     ·simp at hcm;obtain ⟨a,_,rfl⟩:=hcm;rfl
    ·exact hcf c hcm
   have cc:=Zpy [(more.isEmpty,more),(nlc,ctx)] (by simp) (by simp [lnC];omega)
   have ce:flC [(more.isEmpty,more),(nlc,ctx)]=more++ctx:=by simp [flC]
   rw [ce] at cc
   have recu:=ih k (!ltB 0 ((more++ctx).length:Int)) (more++ctx) (by omega) hkw hkf hmok hmf (by rw [List.length_append];omega) (by rw [List.length_append,show ((more.length+ctx.length:Nat):Int)=ctx.length+Qr op i by omega];exact hkform)
   rw [List.map_append,hms] at recu
   clear hmok hmf ce
   generalize more++ctx=mc at cc recu
   have hg0:∀ r:Int×List Int,Q9 s (ctx.map Prod.snd) op n gty ds (k::List.drop (i+1) ks)=.bad r.1 r.2→Qt s (ctx.map Prod.snd) (GTerm.mk op n nl1 gty nl2 ks)=.bad r.1 r.2:=fun r h=>by rw [Qt,tell,h]
   have hgoodI:∀ x,Qt s (QC op gty i (first ds)++ctx.map Prod.snd) k=.ok x→x.good s ((ctx.map Prod.snd).length+(Qr op i).toNat):=fun x hx=>by
    have:=Kh t k (QC op gty i (first ds)++ctx.map Prod.snd) x (by rw [← len];exact Zqc hcs (fun h=>hty h) kok)
     (by rw [List.length_append,Zbi,cxl,show (((Qr op i).toNat+ctx.length:Nat):Int)=ctx.length+Qr op i by omega];exact hkform) hx
    rw [List.length_append,Zbi,Nat.add_comm] at this
    exact this
   have hbadI:∀ f p,Qt s (QC op gty i (first ds)++ctx.map Prod.snd) k=.bad f p→Qt s (ctx.map Prod.snd) (GTerm.mk op n nl1 gty nl2 ks)=.bad f ((i:Int)::p):=fun f p h =>
    hg0 (f,(i:Int)::p) (by rw [Q9,len,h])
   have hfbI:∀ x,Qt s (QC op gty i (first ds)++ctx.map Prod.snd) k=.ok x→QO s op n i (hd x.ty)≠0→Qt s (ctx.map Prod.snd) (GTerm.mk op n nl1 gty nl2 ks)=.bad (QO s op n i (hd x.ty)) []:=fun x h h2 =>
    hg0 (QO s op n i (hd x.ty),[]) (by rw [Q9,len,h];simp only;rw [if_pos h2])
   have hsameI:∀ x,Qt s (QC op gty i (first ds)++ctx.map Prod.snd) k=.ok x→QO s op n i (hd x.ty)=0→(op=10∧i=1∧x.ty≠QK (first ds))→Qt s (ctx.map Prod.snd) (GTerm.mk op n nl1 gty nl2 ks)=.bad 3 []:=fun x h h2 h3 =>
    hg0 (3,[]) (by rw [Q9,len,h];simp only;rw [if_neg (by simpa using h2),if_pos h3])
   have hnextI:∀ x,Qt s (QC op gty i (first ds)++ctx.map Prod.snd) k=.ok x→QO s op n i (hd x.ty)=0→¬ (op=10∧i=1∧x.ty≠QK (first ds))→Q9 s (ctx.map Prod.snd) op n gty [] ks=Q9 s (ctx.map Prod.snd) op n gty (ds++[x]) (List.drop (i+1) ks):=fun x h h2 h3=>by
    rw [tell,Q9,len,h];simp only;rw [if_neg (by simpa using h2),if_neg h3]
   have hthree:(i=0∧op≠9)∨(i=0∧op=9)∨0 < i:=by omega
   rcases hthree with ⟨hi0,h9⟩ | ⟨hi0,h9⟩ | hi0
   ·subst hi0
    simp only [Int.natCast_zero] at hb hix e24
    have h9b:eqB op 9=false:=by rw [Qc];exact h9
    have hz:ltB 0 0=false:=by rw [Qg];omega
    have hme:more=[]:=List.eq_nil_of_length_eq_zero (by rw [hml];unfold Qr;rw [if_neg (by omega),if_neg (by omega)];rfl)
    have em:LV.sl false true 1 []=LV.sl false more.isEmpty 1 (more.map fun c=>[eC c]):=by rw [hme];rfl
    simp (disch:=omega) [e1,e3,e5,e7,e8,e9,e22,e23,e24,hb,hix,h9b,hz,Qo]
    rw [em]
    refine Qa cc (by simp) ?_
    simp (disch:=omega) [e1,e3,e5,e7,e8,e9,e22,e23,e24,hb,hix]
    refine Qk recu (by simp) ?_
    intro r hr1
    cases hT:Qt s (QC op gty 0 (first ds)++List.map Prod.snd ctx) k with
    | bad f p =>
     rw [hT] at hr1
     obtain ⟨hf0,n4,hsr2⟩:=hr1
     have hfb:eqB f 0=false:=by rw [Qc];exact hf0
     have hpl:=V3 k _ f p hT
     have hpm:1+p.length≤most:=by unfold most;omega
     have hres:=hbadI f p hT
     simp (disch:=omega) [e1,e3,e5,e7,e8,e9,e22,e23,e24,hb,hix,hsr2,hfb,Qo,WS,hpm,Qw]
     refine Wd (.inr rfl) (by simp) (Zaf (f:=f) (u:=true) (nl:=false) (p:=(0:Int)::p) (by simp) ?_)
     rw [hres]
     exact ⟨hf0,false,by simp⟩
    | ok x =>
     have hgood:=hgoodI x hT
     have hfb:=hfbI x hT
     have hsame:=hsameI x hT
     have hnext:=hnextI x hT
     rw [hT] at hr1
     obtain ⟨xty,xnd,xks⟩:=x
     have hxis:(TT.mk xty xnd xks).is (share r):=hr1
     simp only [Res.is,TT.is] at hr1
     obtain ⟨n3,n4,xrows,hsr2,hxr⟩:=hr1
     simp only [TT.ty_mk] at hfb hsame hnext
     have hgt:okL s.size xty=true:=hgood.1
     have fo:=Zc9 t (GTerm.mk op n nl1 gty nl2 ks) op n nl1 gty nl2 ks rfl 0 (by omega) xty hgt no.op13 (fun h=>no.grade (by rcases h with h | h | h<;>(subst h;simp [Z6,Qe])))
     simp only [GTerm.lv,GTerm.cells] at fo
     simp (disch:=omega) [e1,e3,e5,e7,e8,e9,e22,e23,e24,hb,hix,hsr2,Qo]
     refine Qa fo (by simp) ?_
     simp (disch:=omega) [e1,e3,e5,e7,e8,e9,e22,e23,e24,hb,hix,hsr2,Qo]
     by_cases hq:QO s op n 0 (hd xty)=0
     ·rw [hq]
      have hz0:eqB 0 0=true:=by rw [Qe]
      simp (disch:=omega) [e1,e3,e5,e7,e8,e9,e22,e23,e24,hb,hix,hsr2,Qo,hz0]
      by_cases h10:op=10
      ·by_cases h19:op=9
       ·exfalso;omega
       ·have h10b:eqB op 10=true:=by rw [Qe];exact h10
        by_cases hi1:0=1
        ·exfalso;omega
        ·have hi1b:eqB 0 1=false:=by rw [Qc];omega
         have hxl:xnd.length=ctx.length+more.length:=by have:=hgood.2.1;rw [cxl] at this;rw [hml];exact this
         have hak:∀ v,WS 1 (.sl true ds.isEmpty 1 Qh) (.sl true false 1 [[v]])=some (.sl true false 1 (Qh++[[v]])):=fun v=>by
          simp only [WS]
          rw [if_pos ⟨.inl trivial,.inl trivial,.inl trivial,by simp [most];omega⟩]
          simp
         have hau:=ZaX (c:=uds) (by omega) false xnd more.length
         have han:=Za2 (c:=nds) (by omega) false xnd more.length
         have hc1:=VI (n2:=false) (l:=xnd) (k:=more.length) (by omega)
         have hc2:=YR (n2:=false) (l:=xnd) (k:=more.length) (by omega)
         have hxs:=(XB _ xrows hxr).1
         have hnot:¬ (op=10∧0=1∧xty≠QK (first ds)):=fun h=>hi1 h.2.1
         have fin:∀ (T:Nat→LV) (H:List Box),T 24=N (0+1)→T 8=Zav (nds++[(false,xnd.drop more.length)])→T 9=Zav (uds++[(false,xnd.take more.length)])→H=none::none::some ((zeros (ctx.map Prod.snd).length).map N)::ZgU (.sl true true 1 []) (.ha 2 1 0 (ctx.map Prod.snd).length (ctx.map Prod.snd).length) true (ds++[TT.mk xty xnd xks]).isEmpty (Qh++[[share r]])::(hr++[some k.cells])→0 < ks.length∧∃ ds Qh nds uds hr,TypJ s (ctx.map Prod.snd) op n gty ks (0+1) T H ds Qh nds uds hr:=fun T H q1 q2 q3 q4 =>
          ⟨h6,ds++[TT.mk xty xnd xks],Qh++[[share r]],nds++[(false,xnd.drop more.length)],uds++[(false,xnd.take more.length)],hr++[some k.cells],VD ds Qh _ _ are hxis,by simp [len],
           kok.snoc (by rw [len];exact hgood) (by rw [len];exact hq) (by rw [len];exact hnot),hnext hq hnot,by simp [ulen],by simp [nlen],
           Jn us (fun j hj=>by unfold usP;rw [Zo (by omega)]) (by unfold usP;rw [Yo (by omega),hml,ulen];rfl),
           Jn nd (fun j hj=>by unfold ndP;rw [Zo (by omega)]) (by unfold ndP;rw [Yo (by omega),hml,nlen];rfl),(ZdA nf),
           by simpa using q1,q2,q3,q4⟩
         simp (disch:=omega) [e1,e3,e5,e7,e8,e9,e22,e23,e24,hb,hix,hsr2,Qo,h10b,hi1b,Z1,YQ,hak,hau,han,hc1,hc2,hxs,Qd]
         first
          | exact fin _ _ (by simp) (by simp) (by simp) (by simp [hsr2])
          | (trace_state;simp (disch:=omega) [e1,e3,e5,e7,e8,e9,e22,e23,e24,hb,hix,hsr2,Qo,h10b,hi1b,Z1,YQ,hak,hau,han,hc1,hc2,hxs,Qd];exact fin _ _ (by simp) (by simp) (by simp) (by simp [hsr2]))
      ·have h10b:eqB op 10=false:=by rw [Qc];exact h10
       have hxl:xnd.length=ctx.length+more.length:=by have:=hgood.2.1;rw [cxl] at this;rw [hml];exact this
       have hak:∀ v,WS 1 (.sl true ds.isEmpty 1 Qh) (.sl true false 1 [[v]])=some (.sl true false 1 (Qh++[[v]])):=fun v=>by
        simp only [WS]
        rw [if_pos ⟨.inl trivial,.inl trivial,.inl trivial,by simp [most];omega⟩]
        simp
       have hau:=ZaX (c:=uds) (by omega) false xnd more.length
       have han:=Za2 (c:=nds) (by omega) false xnd more.length
       have hc1:=VI (n2:=false) (l:=xnd) (k:=more.length) (by omega)
       have hc2:=YR (n2:=false) (l:=xnd) (k:=more.length) (by omega)
       have hxs:=(XB _ xrows hxr).1
       have hnot:¬ (op=10∧0=1∧xty≠QK (first ds)):=fun h=>h10 h.1
       have fin:∀ (T:Nat→LV) (H:List Box),T 24=N (0+1)→T 8=Zav (nds++[(false,xnd.drop more.length)])→T 9=Zav (uds++[(false,xnd.take more.length)])→H=none::none::some ((zeros (ctx.map Prod.snd).length).map N)::ZgU (.sl true true 1 []) (.ha 2 1 0 (ctx.map Prod.snd).length (ctx.map Prod.snd).length) true (ds++[TT.mk xty xnd xks]).isEmpty (Qh++[[share r]])::(hr++[some k.cells])→0 < ks.length∧∃ ds Qh nds uds hr,TypJ s (ctx.map Prod.snd) op n gty ks (0+1) T H ds Qh nds uds hr:=fun T H q1 q2 q3 q4 =>
        ⟨h6,ds++[TT.mk xty xnd xks],Qh++[[share r]],nds++[(false,xnd.drop more.length)],uds++[(false,xnd.take more.length)],hr++[some k.cells],VD ds Qh _ _ are hxis,by simp [len],
         kok.snoc (by rw [len];exact hgood) (by rw [len];exact hq) (by rw [len];exact hnot),hnext hq hnot,by simp [ulen],by simp [nlen],
         Jn us (fun j hj=>by unfold usP;rw [Zo (by omega)]) (by unfold usP;rw [Yo (by omega),hml,ulen];rfl),
         Jn nd (fun j hj=>by unfold ndP;rw [Zo (by omega)]) (by unfold ndP;rw [Yo (by omega),hml,nlen];rfl),(ZdA nf),
         by simpa using q1,q2,q3,q4⟩
       simp (disch:=omega) [e1,e3,e5,e7,e8,e9,e22,e23,e24,hb,hix,hsr2,Qo,h10b,Z1,YQ,hak,hau,han,hc1,hc2,hxs,Qd]
       first
        | exact fin _ _ (by simp) (by simp) (by simp) (by simp [hsr2])
        | (trace_state;simp (disch:=omega) [e1,e3,e5,e7,e8,e9,e22,e23,e24,hb,hix,hsr2,Qo,h10b,Z1,YQ,hak,hau,han,hc1,hc2,hxs,Qd];exact fin _ _ (by simp) (by simp) (by simp) (by simp [hsr2]))
     ·have hq0:eqB (QO s op n 0 (hd xty)) 0=false:=by rw [Qc];exact hq
      have hres:=hfb hq
      simp (disch:=omega) [e1,e3,e5,e7,e8,e9,e22,e23,e24,hb,hix,hsr2,Qo,hq0,Qw]
      refine Wd (.inr rfl) (by simp) (Zaf (f:=QO s op n 0 (hd xty)) (u:=true) (nl:=true) (p:=[]) (by simp) ?_)
      rw [hres]
      exact ⟨hq,true,by simp⟩
   ·subst hi0
    simp only [Int.natCast_zero] at hb hix e24
    have h9b:eqB op 9=true:=by rw [Qe];exact h9
    have hz:ltB 0 0=false:=by rw [Qg];omega
    have had:=Zk2 (GTerm.mk op n nl1 gty nl2 ks) op n nl1 gty nl2 ks rfl no.op13 0 (by omega) true [] (size:=s.size) (fun h=>absurd rfl h)
    have hmd':Jx op nl1 gty 0 []=more:=by rw [hmd];simp [Jx,h9]
    rw [hmd'] at had
    simp only [GTerm.lv,GTerm.cells] at had
    simp (disch:=omega) [e1,e3,e5,e7,e8,e9,e22,e23,e24,hb,hix,h9b,hz,Qo]
    refine Qa had (by simp) ?_
    simp (disch:=omega) [e1,e3,e5,e7,e8,e9,e22,e23,e24,hb,hix,h9b,hz,Qo]
    refine Qa cc (by simp) ?_
    simp (disch:=omega) [e1,e3,e5,e7,e8,e9,e22,e23,e24,hb,hix]
    refine Qk recu (by simp) ?_
    intro r hr1
    cases hT:Qt s (QC op gty 0 (first ds)++List.map Prod.snd ctx) k with
    | bad f p =>
     rw [hT] at hr1
     obtain ⟨hf0,n4,hsr2⟩:=hr1
     have hfb:eqB f 0=false:=by rw [Qc];exact hf0
     have hpl:=V3 k _ f p hT
     have hpm:1+p.length≤most:=by unfold most;omega
     have hres:=hbadI f p hT
     simp (disch:=omega) [e1,e3,e5,e7,e8,e9,e22,e23,e24,hb,hix,hsr2,hfb,Qo,WS,hpm,Qw]
     refine Wd (.inr rfl) (by simp) (Zaf (f:=f) (u:=true) (nl:=false) (p:=(0:Int)::p) (by simp) ?_)
     rw [hres]
     exact ⟨hf0,false,by simp⟩
    | ok x =>
     have hgood:=hgoodI x hT
     have hfb:=hfbI x hT
     have hsame:=hsameI x hT
     have hnext:=hnextI x hT
     rw [hT] at hr1
     obtain ⟨xty,xnd,xks⟩:=x
     have hxis:(TT.mk xty xnd xks).is (share r):=hr1
     simp only [Res.is,TT.is] at hr1
     obtain ⟨n3,n4,xrows,hsr2,hxr⟩:=hr1
     simp only [TT.ty_mk] at hfb hsame hnext
     have hgt:okL s.size xty=true:=hgood.1
     have fo:=Zc9 t (GTerm.mk op n nl1 gty nl2 ks) op n nl1 gty nl2 ks rfl 0 (by omega) xty hgt no.op13 (fun h=>no.grade (by rcases h with h | h | h<;>(subst h;simp [Z6,Qe])))
     simp only [GTerm.lv,GTerm.cells] at fo
     simp (disch:=omega) [e1,e3,e5,e7,e8,e9,e22,e23,e24,hb,hix,hsr2,Qo]
     refine Qa fo (by simp) ?_
     simp (disch:=omega) [e1,e3,e5,e7,e8,e9,e22,e23,e24,hb,hix,hsr2,Qo]
     by_cases hq:QO s op n 0 (hd xty)=0
     ·rw [hq]
      have hz0:eqB 0 0=true:=by rw [Qe]
      simp (disch:=omega) [e1,e3,e5,e7,e8,e9,e22,e23,e24,hb,hix,hsr2,Qo,hz0]
      have h10b:eqB op 10=false:=by rw [Qc];omega
      have hxl:xnd.length=ctx.length+more.length:=by have:=hgood.2.1;rw [cxl] at this;rw [hml];exact this
      have hak:∀ v,WS 1 (.sl true ds.isEmpty 1 Qh) (.sl true false 1 [[v]])=some (.sl true false 1 (Qh++[[v]])):=fun v=>by
       simp only [WS]
       rw [if_pos ⟨.inl trivial,.inl trivial,.inl trivial,by simp [most];omega⟩]
       simp
      have hau:=ZaX (c:=uds) (by omega) false xnd more.length
      have han:=Za2 (c:=nds) (by omega) false xnd more.length
      have hc1:=VI (n2:=false) (l:=xnd) (k:=more.length) (by omega)
      have hc2:=YR (n2:=false) (l:=xnd) (k:=more.length) (by omega)
      have hxs:=(XB _ xrows hxr).1
      have hnot:¬ (op=10∧0=1∧xty≠QK (first ds)):=fun h=>by omega
      have fin:∀ (T:Nat→LV) (H:List Box),T 24=N (0+1)→T 8=Zav (nds++[(false,xnd.drop more.length)])→T 9=Zav (uds++[(false,xnd.take more.length)])→H=none::none::some ((zeros (ctx.map Prod.snd).length).map N)::ZgU (.sl true true 1 []) (.ha 2 1 0 (ctx.map Prod.snd).length (ctx.map Prod.snd).length) true (ds++[TT.mk xty xnd xks]).isEmpty (Qh++[[share r]])::(hr++[some k.cells])→0 < ks.length∧∃ ds Qh nds uds hr,TypJ s (ctx.map Prod.snd) op n gty ks (0+1) T H ds Qh nds uds hr:=fun T H q1 q2 q3 q4 =>
       ⟨h6,ds++[TT.mk xty xnd xks],Qh++[[share r]],nds++[(false,xnd.drop more.length)],uds++[(false,xnd.take more.length)],hr++[some k.cells],VD ds Qh _ _ are hxis,by simp [len],
        kok.snoc (by rw [len];exact hgood) (by rw [len];exact hq) (by rw [len];exact hnot),hnext hq hnot,by simp [ulen],by simp [nlen],
        Jn us (fun j hj=>by unfold usP;rw [Zo (by omega)]) (by unfold usP;rw [Yo (by omega),hml,ulen];rfl),
        Jn nd (fun j hj=>by unfold ndP;rw [Zo (by omega)]) (by unfold ndP;rw [Yo (by omega),hml,nlen];rfl),(ZdA nf),
        by simpa using q1,q2,q3,q4⟩
      simp (disch:=omega) [e1,e3,e5,e7,e8,e9,e22,e23,e24,hb,hix,hsr2,Qo,h10b,Z1,YQ,hak,hau,han,hc1,hc2,hxs,Qd]
      first
       | exact fin _ _ (by simp) (by simp) (by simp) (by simp [hsr2])
       | (trace_state;simp (disch:=omega) [e1,e3,e5,e7,e8,e9,e22,e23,e24,hb,hix,hsr2,Qo,h10b,Z1,YQ,hak,hau,han,hc1,hc2,hxs,Qd];exact fin _ _ (by simp) (by simp) (by simp) (by simp [hsr2]))
     ·have hq0:eqB (QO s op n 0 (hd xty)) 0=false:=by rw [Qc];exact hq
      have hres:=hfb hq
      simp (disch:=omega) [e1,e3,e5,e7,e8,e9,e22,e23,e24,hb,hix,hsr2,Qo,hq0,Qw]
      refine Wd (.inr rfl) (by simp) (Zaf (f:=QO s op n 0 (hd xty)) (u:=true) (nl:=true) (p:=[]) (by simp) ?_)
      rw [hres]
      exact ⟨hq,true,by simp⟩
   ·have hz:ltB 0 (i:Int)=true:=by rw [Qi];omega
    have had:=Zk2 (GTerm.mk op n nl1 gty nl2 ks) op n nl1 gty nl2 ks rfl no.op13 i (by omega) false (first ds) (size:=s.size) (fun h=>⟨rfl,hfirst h⟩)
    rw [← hmd] at had
    simp only [GTerm.lv,GTerm.cells] at had
    have hsr:=(XB ds Qh are).1
    obtain ⟨q3,q4,qr,hx0,_⟩:=Zqv are false ds.isEmpty 0 (by omega)
    simp only [Int.natCast_zero] at hx0
    have hqs:∀ rws,Qq rws=rws→Qq rws=rws:=fun _ h=>h
    simp (disch:=omega) [e1,e3,e5,e7,e8,e9,e22,e23,e24,hb,hix,hz,hsr,hx0,Qo]
    refine Qa had (by simp) ?_
    simp (disch:=omega) [e1,e3,e5,e7,e8,e9,e22,e23,e24,hb,hix,hz,hsr,Qo]
    refine Qa cc (by simp) ?_
    simp (disch:=omega) [e1,e3,e5,e7,e8,e9,e22,e23,e24,hb,hix]
    refine Qk recu (by simp) ?_
    intro r hr1
    cases hT:Qt s (QC op gty i (first ds)++List.map Prod.snd ctx) k with
    | bad f p =>
     rw [hT] at hr1
     obtain ⟨hf0,n4,hsr2⟩:=hr1
     have hfb:eqB f 0=false:=by rw [Qc];exact hf0
     have hpl:=V3 k _ f p hT
     have hpm:1+p.length≤most:=by unfold most;omega
     have hres:=hbadI f p hT
     simp (disch:=omega) [e1,e3,e5,e7,e8,e9,e22,e23,e24,hb,hix,hsr2,hfb,Qo,WS,hpm,Qw]
     refine Wd (.inr rfl) (by simp) (Zaf (f:=f) (u:=true) (nl:=false) (p:=(i:Int)::p) (by simp) ?_)
     rw [hres]
     exact ⟨hf0,false,by simp⟩
    | ok x =>
     have hgood:=hgoodI x hT
     have hfb:=hfbI x hT
     have hsame:=hsameI x hT
     have hnext:=hnextI x hT
     rw [hT] at hr1
     obtain ⟨xty,xnd,xks⟩:=x
     have hxis:(TT.mk xty xnd xks).is (share r):=hr1
     simp only [Res.is,TT.is] at hr1
     obtain ⟨n3,n4,xrows,hsr2,hxr⟩:=hr1
     simp only [TT.ty_mk] at hfb hsame hnext
     have hgt:okL s.size xty=true:=hgood.1
     have fo:=Zc9 t (GTerm.mk op n nl1 gty nl2 ks) op n nl1 gty nl2 ks rfl i (by omega) xty hgt no.op13 (fun h=>no.grade (by rcases h with h | h | h<;>(subst h;simp [Z6,Qe])))
     simp only [GTerm.lv,GTerm.cells] at fo
     simp (disch:=omega) [e1,e3,e5,e7,e8,e9,e22,e23,e24,hb,hix,hsr2,Qo]
     refine Qa fo (by simp) ?_
     simp (disch:=omega) [e1,e3,e5,e7,e8,e9,e22,e23,e24,hb,hix,hsr2,Qo]
     by_cases hq:QO s op n i (hd xty)=0
     ·rw [hq]
      have hz0:eqB 0 0=true:=by rw [Qe]
      simp (disch:=omega) [e1,e3,e5,e7,e8,e9,e22,e23,e24,hb,hix,hsr2,Qo,hz0]
      by_cases h10:op=10
      ·by_cases h19:op=9
       ·exfalso;omega
       ·have h10b:eqB op 10=true:=by rw [Qe];exact h10
        by_cases hi1:i=1
        ·have hi1b:eqB (i:Int) 1=true:=by rw [Qe];omega
         have hxs0:=(XB _ xrows hxr).1
         simp (disch:=omega) [e1,e3,e5,e7,e8,e9,e22,e23,e24,hb,hix,hsr2,Qo,h10b,hi1b,hsr,hx0,hxs0,Z1,YQ]
         have hf1:=hfirst (by omega)
         refine Qa (Zgb (l:=tyP ds 0) (JJ hf1.1)) (by simp) ?_
         rw [ZbL (l:=tyP ds 0) (JK (hf1.2.2.2.2.1 h10))]
         have hx1:QU 1 (.sl true false 1 [[L false (QK (tyP ds 0))],[L false (WC (tyP ds 0))]]) 0=some (.rp [L false (QK (tyP ds 0))]):=by simp [QU]
         simp (disch:=omega) [e1,e3,e5,e7,e8,e9,e22,e23,e24,hb,hix,hsr2,Qo,hx1]
         have hlx:=QH hgt
         refine Qa (Znu false false xty (QK (tyP ds 0)) (by omega)) (by simp) ?_
         cases he:(xty == QK (tyP ds 0))
         ·have he2:xty≠QK (tyP ds 0):=by simpa using he
          have hres:=hsame hq ⟨h10,hi1,he2⟩
          simp (disch:=omega) [e1,e3,e5,e7,e8,e9,e22,e23,e24,hb,hix,hsr2,Qo,Qw]
          refine Wd (.inr rfl) (by simp) (Zaf (f:=3) (u:=true) (nl:=true) (p:=[]) (by simp) ?_)
          rw [hres]
          exact ⟨by omega,true,by simp⟩
         ·have he':xty=QK (first ds):=by simpa [first] using he
          have hxl:xnd.length=ctx.length+more.length:=by have:=hgood.2.1;rw [cxl] at this;rw [hml];exact this
          have hak:∀ v,WS 1 (.sl true ds.isEmpty 1 Qh) (.sl true false 1 [[v]])=some (.sl true false 1 (Qh++[[v]])):=fun v=>by
           simp only [WS]
           rw [if_pos ⟨.inl trivial,.inl trivial,.inl trivial,by simp [most];omega⟩]
           simp
          have hau:=ZaX (c:=uds) (by omega) false xnd more.length
          have han:=Za2 (c:=nds) (by omega) false xnd more.length
          have hc1:=VI (n2:=false) (l:=xnd) (k:=more.length) (by omega)
          have hc2:=YR (n2:=false) (l:=xnd) (k:=more.length) (by omega)
          have hxs:=(XB _ xrows hxr).1
          have hnot:¬ (op=10∧i=1∧xty≠QK (first ds)):=fun h=>h.2.2 he'
          have fin:∀ (T:Nat→LV) (H:List Box),T 24=N ((i:Int)+1)→T 8=Zav (nds++[(false,xnd.drop more.length)])→T 9=Zav (uds++[(false,xnd.take more.length)])→H=none::none::some ((zeros (ctx.map Prod.snd).length).map N)::ZgU (.sl true true 1 []) (.ha 2 1 0 (ctx.map Prod.snd).length (ctx.map Prod.snd).length) true (ds++[TT.mk xty xnd xks]).isEmpty (Qh++[[share r]])::(hr++[some k.cells])→i < ks.length∧∃ ds Qh nds uds hr,TypJ s (ctx.map Prod.snd) op n gty ks (i+1) T H ds Qh nds uds hr:=fun T H q1 q2 q3 q4 =>
           ⟨h6,ds++[TT.mk xty xnd xks],Qh++[[share r]],nds++[(false,xnd.drop more.length)],uds++[(false,xnd.take more.length)],hr++[some k.cells],VD ds Qh _ _ are hxis,by simp [len],
            kok.snoc (by rw [len];exact hgood) (by rw [len];exact hq) (by rw [len];exact hnot),hnext hq hnot,by simp [ulen],by simp [nlen],
            Jn us (fun j hj=>by unfold usP;rw [Zo (by omega)]) (by unfold usP;rw [Yo (by omega),hml,ulen];rfl),
            Jn nd (fun j hj=>by unfold ndP;rw [Zo (by omega)]) (by unfold ndP;rw [Yo (by omega),hml,nlen];rfl),(ZdA nf),
            by simpa using q1,q2,q3,q4⟩
          simp (disch:=omega) [e1,e3,e5,e7,e8,e9,e22,e23,e24,hb,hix,hsr2,Qo,h10b,hi1b,Z1,YQ,hak,hau,han,hc1,hc2,hxs,Qd]
          first
           | exact fin _ _ (by simp) (by simp) (by simp) (by simp [hsr2])
           | (trace_state;simp (disch:=omega) [e1,e3,e5,e7,e8,e9,e22,e23,e24,hb,hix,hsr2,Qo,h10b,hi1b,Z1,YQ,hak,hau,han,hc1,hc2,hxs,Qd];exact fin _ _ (by simp) (by simp) (by simp) (by simp [hsr2]))
        ·have hi1b:eqB (i:Int) 1=false:=by rw [Qc];omega
         have hxl:xnd.length=ctx.length+more.length:=by have:=hgood.2.1;rw [cxl] at this;rw [hml];exact this
         have hak:∀ v,WS 1 (.sl true ds.isEmpty 1 Qh) (.sl true false 1 [[v]])=some (.sl true false 1 (Qh++[[v]])):=fun v=>by
          simp only [WS]
          rw [if_pos ⟨.inl trivial,.inl trivial,.inl trivial,by simp [most];omega⟩]
          simp
         have hau:=ZaX (c:=uds) (by omega) false xnd more.length
         have han:=Za2 (c:=nds) (by omega) false xnd more.length
         have hc1:=VI (n2:=false) (l:=xnd) (k:=more.length) (by omega)
         have hc2:=YR (n2:=false) (l:=xnd) (k:=more.length) (by omega)
         have hxs:=(XB _ xrows hxr).1
         have hnot:¬ (op=10∧i=1∧xty≠QK (first ds)):=fun h=>hi1 h.2.1
         have fin:∀ (T:Nat→LV) (H:List Box),T 24=N ((i:Int)+1)→T 8=Zav (nds++[(false,xnd.drop more.length)])→T 9=Zav (uds++[(false,xnd.take more.length)])→H=none::none::some ((zeros (ctx.map Prod.snd).length).map N)::ZgU (.sl true true 1 []) (.ha 2 1 0 (ctx.map Prod.snd).length (ctx.map Prod.snd).length) true (ds++[TT.mk xty xnd xks]).isEmpty (Qh++[[share r]])::(hr++[some k.cells])→i < ks.length∧∃ ds Qh nds uds hr,TypJ s (ctx.map Prod.snd) op n gty ks (i+1) T H ds Qh nds uds hr:=fun T H q1 q2 q3 q4 =>
          ⟨h6,ds++[TT.mk xty xnd xks],Qh++[[share r]],nds++[(false,xnd.drop more.length)],uds++[(false,xnd.take more.length)],hr++[some k.cells],VD ds Qh _ _ are hxis,by simp [len],
           kok.snoc (by rw [len];exact hgood) (by rw [len];exact hq) (by rw [len];exact hnot),hnext hq hnot,by simp [ulen],by simp [nlen],
           Jn us (fun j hj=>by unfold usP;rw [Zo (by omega)]) (by unfold usP;rw [Yo (by omega),hml,ulen];rfl),
           Jn nd (fun j hj=>by unfold ndP;rw [Zo (by omega)]) (by unfold ndP;rw [Yo (by omega),hml,nlen];rfl),(ZdA nf),
           by simpa using q1,q2,q3,q4⟩
         simp (disch:=omega) [e1,e3,e5,e7,e8,e9,e22,e23,e24,hb,hix,hsr2,Qo,h10b,hi1b,Z1,YQ,hak,hau,han,hc1,hc2,hxs,Qd]
         first
          | exact fin _ _ (by simp) (by simp) (by simp) (by simp [hsr2])
          | (trace_state;simp (disch:=omega) [e1,e3,e5,e7,e8,e9,e22,e23,e24,hb,hix,hsr2,Qo,h10b,hi1b,Z1,YQ,hak,hau,han,hc1,hc2,hxs,Qd];exact fin _ _ (by simp) (by simp) (by simp) (by simp [hsr2]))
      ·have h10b:eqB op 10=false:=by rw [Qc];exact h10
       have hxl:xnd.length=ctx.length+more.length:=by have:=hgood.2.1;rw [cxl] at this;rw [hml];exact this
       have hak:∀ v,WS 1 (.sl true ds.isEmpty 1 Qh) (.sl true false 1 [[v]])=some (.sl true false 1 (Qh++[[v]])):=fun v=>by
        simp only [WS]
        rw [if_pos ⟨.inl trivial,.inl trivial,.inl trivial,by simp [most];omega⟩]
        simp
       have hau:=ZaX (c:=uds) (by omega) false xnd more.length
       have han:=Za2 (c:=nds) (by omega) false xnd more.length
       have hc1:=VI (n2:=false) (l:=xnd) (k:=more.length) (by omega)
       have hc2:=YR (n2:=false) (l:=xnd) (k:=more.length) (by omega)
       have hxs:=(XB _ xrows hxr).1
       have hnot:¬ (op=10∧i=1∧xty≠QK (first ds)):=fun h=>h10 h.1
       have fin:∀ (T:Nat→LV) (H:List Box),T 24=N ((i:Int)+1)→T 8=Zav (nds++[(false,xnd.drop more.length)])→T 9=Zav (uds++[(false,xnd.take more.length)])→H=none::none::some ((zeros (ctx.map Prod.snd).length).map N)::ZgU (.sl true true 1 []) (.ha 2 1 0 (ctx.map Prod.snd).length (ctx.map Prod.snd).length) true (ds++[TT.mk xty xnd xks]).isEmpty (Qh++[[share r]])::(hr++[some k.cells])→i < ks.length∧∃ ds Qh nds uds hr,TypJ s (ctx.map Prod.snd) op n gty ks (i+1) T H ds Qh nds uds hr:=fun T H q1 q2 q3 q4 =>
        ⟨h6,ds++[TT.mk xty xnd xks],Qh++[[share r]],nds++[(false,xnd.drop more.length)],uds++[(false,xnd.take more.length)],hr++[some k.cells],VD ds Qh _ _ are hxis,by simp [len],
         kok.snoc (by rw [len];exact hgood) (by rw [len];exact hq) (by rw [len];exact hnot),hnext hq hnot,by simp [ulen],by simp [nlen],
         Jn us (fun j hj=>by unfold usP;rw [Zo (by omega)]) (by unfold usP;rw [Yo (by omega),hml,ulen];rfl),
         Jn nd (fun j hj=>by unfold ndP;rw [Zo (by omega)]) (by unfold ndP;rw [Yo (by omega),hml,nlen];rfl),(ZdA nf),
         by simpa using q1,q2,q3,q4⟩
       simp (disch:=omega) [e1,e3,e5,e7,e8,e9,e22,e23,e24,hb,hix,hsr2,Qo,h10b,Z1,YQ,hak,hau,han,hc1,hc2,hxs,Qd]
       first
        | exact fin _ _ (by simp) (by simp) (by simp) (by simp [hsr2])
        | (trace_state;simp (disch:=omega) [e1,e3,e5,e7,e8,e9,e22,e23,e24,hb,hix,hsr2,Qo,h10b,Z1,YQ,hak,hau,han,hc1,hc2,hxs,Qd];exact fin _ _ (by simp) (by simp) (by simp) (by simp [hsr2]))
     ·have hq0:eqB (QO s op n i (hd xty)) 0=false:=by rw [Qc];exact hq
      have hres:=hfb hq
      simp (disch:=omega) [e1,e3,e5,e7,e8,e9,e22,e23,e24,hb,hix,hsr2,Qo,hq0,Qw]
      refine Wd (.inr rfl) (by simp) (Zaf (f:=QO s op n i (hd xty)) (u:=true) (nl:=true) (p:=[]) (by simp) ?_)
      rw [hres]
      exact ⟨hq,true,by simp⟩
  ·rintro t1 hh hf ⟨ds,Qh,nds,uds,hr,J⟩
   (have e1:=hf 1 (by kernel_rfl);have e3:=hf 3 (by kernel_rfl);have e5:=hf 5 (by kernel_rfl);have e7:=hf 7 (by kernel_rfl);clear hf;simp [] at e1 e3 e5 e7)
   obtain ⟨are,len,kok,tell,ulen,nlen,us,nd,nf,e24,e8,e9,rfl⟩:=J
   rw [List.drop_length,Q9] at tell
   simp (disch:=omega) [e1,e3,e5,e7,e8,e9]
   have no':NodeOk s ctx.length op n gty ds.length:=by rw [len];exact no
   have kok':KidsOk s ctx.length op n ds:=by rw [← cxl];exact kok
   have hnd:∀ j,j < ds.length→QU 1 (LC nds.isEmpty nds) (j:Int)=some (.rp [L false (ndP op ds j)]):=fun j hj=>by
    have h1:=nf _ (List.getElem_mem (show j < nds.length by omega))
    rw [Zcj nds nds.isEmpty j (by omega),← nd j (by omega)]
    show some (LV.rp [L (nds[j]'(by omega)).1 (nds[j]'(by omega)).2])=_
    rw [h1]
   have hud:∀ j,j < ds.length→∃ f,QU 1 (LC uds.isEmpty uds) (j:Int)=some (.rp [L f (usP op ds j)]):=fun j hj =>
    ⟨(uds[j]'(by omega)).1,by rw [Zcj uds uds.isEmpty j (by omega),← us j (by omega)]⟩
   have fin:=Zql hsy nlc ctx (by omega) hc hcf op n nl1 gty nl2 ks ds no' kok' Qh are true ds.isEmpty nds.isEmpty uds.isEmpty nds uds hnd hud hr ctx.length rfl
   simp only [GTerm.lv,GTerm.cells] at fin
   refine WG (by simpa only [cxl] using fin) ?_
   rintro r h' ⟨rfl,T,ndv,c2,hr',rfl,hfin⟩
   have hT:Qt s (ctx.map Prod.snd) (GTerm.mk op n nl1 gty nl2 ks)=if (Wi s (ctx.map Prod.snd) op n gty ds).1=0 then .ok (.mk (Wi s (ctx.map Prod.snd) op n gty ds).2.1 (Wi s (ctx.map Prod.snd) op n gty ds).2.2 ds) else .bad (Wi s (ctx.map Prod.snd) op n gty ds).1 []:=by
    rw [Qt,tell]
   generalize Wi s (ctx.map Prod.snd) op n gty ds=q at hfin hT
   obtain ⟨F,Q1,Q2⟩:=q
   simp only at hfin hT
   have hsr:=XB ds Qh are
   by_cases hF:F=0
   ·subst hF
    obtain ⟨⟨u,rfl⟩,hn⟩:=hfin rfl
    rw [if_pos rfl] at hT
    have hz0:eqB 0 0=true:=by rw [Qe]
    simp (disch:=omega) [e1,e3,e5,e7,hz0]
    refine Wd (.inr rfl) (by simp) ?_
    simp
    refine fz_ok hsr.2 hn fun u2=>?_
    rw [hT]
    exact ⟨ds.isEmpty,true,Qh,by simp [hsr.1],are⟩
   ·have hF0:eqB F 0=false:=by rw [Qc];exact hF
    rw [if_neg hF] at hT
    simp (disch:=omega) [e1,e3,e5,e7,hF0,Qw]
    refine Wd (.inr rfl) (by simp) (Zaf (f:=F) (u:=true) (nl:=true) (p:=[]) (by simp) ?_)
    rw [hT]
    exact ⟨hF,true,by simp⟩
theorem Qf.low {P:Program} {f:FuncId} {args:List LV} {R:LV→Prop} (c:Qf P f args R):Qf P f args (fun r=>R r∧Low 0 r) :=
 QN.mono c fun r h' h=>⟨h,h.2⟩
def GTerm.termB (size n:Int) (t:GTerm):Bool:=Q4 n 0 8 && (decide (t.size≤400) && W8 n size true t)
def inB (s:GSys) (ctx:Wz) (t:GTerm):Bool:=s.sys && (Ze1 s.size ctx && t.termB s.size ctx.length)
theorem has_fn {s:GSys} (t:s.Tab) (n:Int) (h:I64 n):FnB Tryz.prog (.fnm WJ [s.lv]) (N n) (Q4 n 0 (s.size - 1)):=by
 have h2:=t.lo;have h16:=t.hi
 exact ⟨WJ,[s.lv,N n],by simp [YO],by simp,Zo9 s ⟨by omega,by omega⟩ (by omega) n⟩
theorem Zkv {s:GSys} (t:s.Tab) (nl:Bool) (ty:List Int) (h:Lok ty):FnB Tryz.prog (.fn Yy [.rp s.cells]) (L nl ty) (wty ty && YN s.size true ty):=by
 refine ⟨Yy,[L nl ty,.rp s.cells],by simp [YO],by simp,?_⟩
 refine Qf.of_codeOf Ze3 Qz (by simp) ⟨_,rfl,by simp⟩ ?_
 simp (disch:=omega) [Zai]
 refine Qa (Zhb t nl ty h) (by simp) ?_
 simp (disch:=omega)
theorem ZoU {s:GSys} (t:s.Tab) (g:GTerm) (hw:g.wf) (n:Int) (hn:I64 n):Qf Tryz.prog Vc [s.lv,g.lv,N n] (·=B (g.termB s.size n)):=by
 refine Qf.of_codeOf Zhx Qz (by simp) ⟨_,rfl,by simp⟩ ?_
 by_cases hr:Q4 n 0 8=true
 ·rw [Q5] at hr
  have hc:=ZnQ (.fnm WJ [s.lv]) (.fn Yy [.rp s.cells]) (fun m=>Q4 m 0 (s.size - 1)) (fun ty=>wty ty && YN s.size true ty) (by simp) (by simp) (by simp) (by simp) (fun m hm=>has_fn t m hm) (fun nl ty h=>Zkv t nl ty h) g.size g (by omega) hw n 0 (by omega) (by omega) (by omega) (by omega)
  rw [ZiE (size:=s.size) (closed:=true) (fun m=>by rw [Bool.eq_iff_iff];simp [Q4,Qi,Qg,Ql,Qj,Qe,Qc,Bool.not_true,Bool.not_false];omega) (fun ty=>rfl)] at hc
  have h2:leB (ZdF (W8 n s.size true g) 0 g.size) 400=g.termB s.size n:=by
   rw [Bool.eq_iff_iff]
   simp only [Qi,Qg,Ql,Qj,Qe,Qc,Bool.not_true,Bool.not_false,ZdF,GTerm.termB,Bool.and_eq_true,decide_eq_true_eq,Q5]
   split<;>grind
  have hr':Q4 n 0 8=true:=by rw [Q5];exact hr
  simp (disch:=omega) [K8,Qw,Qs]
  refine Qa (ZZ n 0 8) (by simp) ?_
  simp (disch:=omega) [hr']
  refine Qa hc (by simp) ?_
  simp (disch:=omega) [h2]
 ·have hr':Q4 n 0 8=false:=by simpa using hr
  simp (disch:=omega) [K8,Qw,Qs]
  refine Qa (ZZ n 0 8) (by simp) ?_
  simp (disch:=omega) [hr',GTerm.termB]
theorem Zk3 {ctx:Wz} (h:ctx.wf):I64 (ctx.length:Int):=by have:=h.1;unfold I64;omega
structure Arg (s:GSys) (ctx:Wz) (g:GTerm):Prop where
 sw:s.wf
 cw:ctx.wf
 gw:g.wf
 cf:∀ c∈ctx,Zt c.1 c.2
 gf:g.fl
theorem Arg.flags {s:GSys} {ctx:Wz} {g:GTerm} (a:Arg s ctx g) (h:Ze1 s.size ctx=true):(∀ c∈ctx,okL s.size c.2=true)∧(∀ c∈ctx,c.1=false)∧ctx.length≤8:=by
 unfold Ze1 at h
 rw [Bool.and_eq_true,Ql,Yc] at h
 have hk:∀ c∈ctx,okL s.size c.2=true:=by
  intro c hc
  obtain ⟨i,hi,rfl⟩:=List.getElem_of_mem hc
  have:=h.2 i hi
  rw [ZhP hi] at this
  exact this
 refine ⟨hk,fun c hc=>?_,by omega⟩
 cases hn:c.1 with
 | false=>rfl
 | true=>have:=a.cf c hc hn;have:=QH (hk c hc);simp_all
theorem Zpq {s:GSys} {ctx:Wz} {g:GTerm} (a:Arg s ctx g) (nlc:Bool):Qf Tryz.prog V1 [s.lv,LC nlc ctx,g.lv] (fun r=>if inB s ctx g=true then (Qt s (ctx.map Prod.snd) g).is (share r) else r=.sc (.pointer none)):=by
 refine Qf.of_codeOf Zi3 Qz (by simp) ?_ ?_
 ·by_cases h:inB s ctx g=true
  ·obtain ⟨ys,h1,h2⟩:=res_ex (Qt s (ctx.map Prod.snd) g) fun f p h=>ZA _ _ f p h
   exact ⟨.rp ys,by rw [if_pos h];exact h1,by simpa using h2⟩
  ·exact ⟨.sc (.pointer none),by rw [if_neg h],by simp⟩
 simp (disch:=omega) [Zcu,Qw,Qs]
 refine Qa (ZhD s a.sw) (by simp) ?_
 cases hs:s.sys
 ·simp (disch:=omega) [inB,hs]
 ·have t:=GSys.sys_of hs
  simp (disch:=omega)
  refine Qa (Zm2 s t nlc ctx a.cw) (by simp) ?_
  cases hc:Ze1 s.size ctx
  ·simp (disch:=omega) [inB,hs,hc]
  ·simp (disch:=omega)
   refine Qa (ZoU t g a.gw ctx.length (Zk3 a.cw)) (by simp) ?_
   cases ht:g.termB s.size ctx.length
   ·simp (disch:=omega) [inB,hs,hc,ht]
   ·have hin:inB s ctx g=true:=by simp [inB,hs,hc,ht]
    obtain ⟨f1,f2,f3⟩:=a.flags hc
    have ht':=ht
    unfold GTerm.termB at ht'
    simp only [Bool.and_eq_true,decide_eq_true_eq] at ht'
    have ty:=typ_ok hs g.size g nlc ctx (Nat.le_refl _) a.gw a.gf f1 f2 (by omega) ht'.2.2
    simp (disch:=omega) [take_cells]
    refine Qk (Qf.low ty) (by simp) ?_
    rintro r ⟨hr,lo⟩
    simp (disch:=omega) [hin,hr,lo]
def ZD (s:GSys) (ctx:Wz) (g:GTerm):Option TT:=if inB s ctx g=true then (match Qt s (ctx.map Prod.snd) g with
 | .ok x=>some x
 | .bad _ _=>none) else none
def told3 (x:Option TT) (r:LV):Prop:=match x with
 | some x=>r=.tup [OU true false x.ty,OU true false x.needs,B true]
 | none=>r=.tup [.sl false true 1 [],.sl false true 1 [],B false]
theorem Zb3 {s:GSys} {ctx:Wz} {g:GTerm} (a:Arg s ctx g) {x:TT} (h:ZD s ctx g=some x):x.good s ctx.length∧s.sys=true∧Ze1 s.size ctx=true∧g.termB s.size ctx.length=true∧ctx.length≤8∧Qt s (ctx.map Prod.snd) g=.ok x:=by
 unfold ZD at h
 split at h
 ·rename_i hin
  unfold inB at hin
  simp only [Bool.and_eq_true] at hin
  obtain ⟨h1,h2,h3⟩:=hin
  obtain ⟨f1,f2,f3⟩:=a.flags h2
  split at h
  ·rename_i y hy
   simp only [Option.some.injEq] at h
   subst h
   have h4:=h3
   unfold GTerm.termB at h4
   simp only [Bool.and_eq_true,decide_eq_true_eq] at h4
   have:=Kh (GSys.sys_of h1) g (ctx.map Prod.snd) y (fun l hl=>by
    obtain ⟨c,hc,rfl⟩:=List.mem_map.1 hl
    exact f1 c hc) (by rw [List.length_map];exact h4.2.2) hy
   rw [List.length_map] at this
   exact ⟨this,h1,h2,h3,f3,hy⟩
  ·simp at h
 ·simp at h
theorem ZqI (ys:List LV):Xq .ptr .eql (.rp ys) (.sc (.pointer none))=some (B false):=rfl
theorem bin_pnil:Xq .ptr .eql (.sc (.pointer none)) (.sc (.pointer none))=some (B true):=rfl
theorem Zlb {s:GSys} {ctx:Wz} {g:GTerm} (a:Arg s ctx g) (nlc:Bool):Qf Tryz.prog Kz [s.lv,LC nlc ctx,g.lv] (told3 (ZD s ctx g)):=by
 refine Qf.of_codeOf ZkM Qz (by simp) ?_ ?_
 ·cases h:ZD s ctx g with
  | some x=>exact ⟨_,rfl,by simp⟩
  | none=>exact ⟨_,rfl,by simp⟩
 simp (disch:=omega) [Zd2,Qw,Qs]
 refine Qk (Qf.low (Zpq a nlc)) (by simp) ?_
 rintro r ⟨hr,lo⟩
 by_cases hin:inB s ctx g=true
 ·rw [if_pos hin] at hr
  cases hT:Qt s (ctx.map Prod.snd) g with
  | ok x =>
   have hx:ZD s ctx g=some x:=by simp [ZD,hin,hT]
   obtain ⟨hg,_,_,_,hc8,_⟩:=Zb3 a hx
   rw [hT] at hr
   obtain ⟨ty,nd,ks⟩:=x
   simp only [Res.is,TT.is] at hr
   obtain ⟨n3,n4,Qh,hs2,hrr⟩:=hr
   have hty:=QH hg.1
   have hnd:=hg.2.1
   simp only [TT.ty_mk,TT.needs_mk] at hty hnd
   rw [hx]
   have hz0:eqB 0 0=true:=by rw [Qe]
   have hrs:=(XB _ Qh hrr).1
   simp (disch:=omega) [hs2,hz0,hrs,ZqI]
   refine Qa (ZcQ false ty (by omega)) (by simp) ?_
   simp (disch:=omega) [hs2,hz0,hrs,cl]
   refine Qa (ZcQ false nd (by omega)) (by simp) ?_
   simp (disch:=omega) [hs2,hz0,hrs,cl,told3]
  | bad f p =>
   have hx:ZD s ctx g=none:=by simp [ZD,hin,hT]
   rw [hT] at hr
   obtain ⟨hf,n4,hs2⟩:=hr
   have hf0:eqB f 0=false:=by rw [Qc];exact hf
   rw [hx]
   simp (disch:=omega) [hs2,hf0,told3,ZqI]
 ·rw [if_neg hin] at hr
  subst hr
  have hx:ZD s ctx g=none:=by simp [ZD,hin]
  rw [hx]
  simp (disch:=omega) [told3,bin_pnil]
theorem ZS (nl:Bool) (l:List Int) (hl:l.length≤1099511627776):Qf Tryz.prog X6 [L nl l] (·=OU true false l):=by
 refine Qf.of_codeOf ZkR Qz (by simp) ⟨_,rfl,by simp⟩ ?_
 have hm:l.length≤most:=hl
 simp (disch:=omega) [Zd0,Qo,WS,hm]
theorem ZaT (n1 n2:Bool) (a b:List Int) (ha:a.length≤1099511627776):Qf Tryz.prog YA [L n1 a,L n2 b] (·=B (a == b)):=by
 generalize hq:(a == b)=q
 refine Qf.of_codeOf Zkt Qz (by simp) ⟨_,rfl,by simp⟩ ?_
 simp (disch:=omega) [ZdL]
 (with_reducible first | refine Qn (fun h1=>?_) (fun h1=>?_) | refine Qm (fun h1=>?_) (fun h1=>?_))
 ·simp (disch:=omega) [h1]
  simp only [Qi,Qg,Ql,Qj,Qe,Qc,Bool.not_true,Bool.not_false] at h1
  refine XH a.length 0 (fun i t _=>t 5=N i∧q=(a.drop i == b.drop i)) (by simp [hq]) (by omega) ?_
  rintro i t1 hh hf hi ⟨e5,hj⟩
  (have e0:=hf 0 (by kernel_rfl);have e1:=hf 1 (by kernel_rfl);clear hf;simp [] at e0 e1)
  simp (disch:=omega) [e0,e1,e5]
  (with_reducible first | refine Qn (fun h6=>?_) (fun h6=>?_) | refine Qm (fun h6=>?_) (fun h6=>?_))
  ·simp only [Qi,Qg,Ql,Qj,Qe,Qc,Bool.not_true,Bool.not_false] at h6
   have hd1:=List.drop_eq_getElem_cons (l:=a) (i:=i) (by omega)
   have hd2:=List.drop_eq_getElem_cons (l:=b) (i:=i) (by omega)
   have hq2:q=(a[i]'(by omega) == b[i]'(by omega) && (a.drop (i+1) == b.drop (i+1))):=by rw [hj,hd1,hd2];rfl
   clear hd1 hd2 hj
   simp (disch:=omega) [e0,e1,e5,Xu]
   repeat' (first
  | (with_reducible (first | refine Qn (fun hb_=>?_) (fun hb_=>?_) | refine Qm (fun hb_=>?_) (fun hb_=>?_))<;>simp (disch:=omega) [hb_,e0,e1,e5,Qd])
  | simp (disch:=omega) [e0,e1,e5,Qd])
   all_goals simp only [Qi,Qg,Ql,Qj,Qe,Qc,Bool.not_true,Bool.not_false] at hb_
   ·exact ⟨by omega,by simp [hq2,hb_]⟩
   ·simp [hq2,hb_]
  ·simp only [Qi,Qg,Ql,Qj,Qe,Qc,Bool.not_true,Bool.not_false] at h6
   simp (disch:=omega)
   rw [hj,List.drop_of_length_le (by omega),List.drop_of_length_le (by omega)];simp
 ·simp (disch:=omega) [h1]
  simp only [Qi,Qg,Ql,Qj,Qe,Qc,Bool.not_true,Bool.not_false] at h1
  rw [← hq];simp;intro h;exact h1 (by rw [h])
theorem Vw (n:Nat) (hn:n≤1099511627776):Qf Tryz.prog Zz [N n] (·=OU true false (zeros n)):=by
 refine Qf.of_codeOf Zkq Qz (by simp) ⟨_,rfl,by simp⟩ ?_
 have hm:(n:Int)≤(most:Nat):=by unfold most;omega
 simp (disch:=omega) [ZdJ,hm]
 have e:List.replicate n (N 0)=(zeros n).map N:=by simp [zeros]
 have hz:(zeros n).length=n:=by simp [zeros]
 have:=ZqY (h0:=[]) (z:=(zeros n).map N) (l:=zeros n) rfl
 rw [hz] at this
 simp only [List.nil_append,List.length_nil] at this
 first
  | (rw [e,this];simp)
def Zeo (s:GSys) (a:List Int) (g:Int) (b:List Int):List Int:=List.zipWith (fun x y=>s.pl x (s.tm g y)) a b
theorem Zq {s:GSys} (t:s.Tab) (n1 n2:Bool) (a:List Int) (g:Int) (hg:s.G g) (b:List Int) (hl:a.length≤1000000) (hab:a.length=b.length) (ha:∀ u∈a,s.G u) (hb:∀ u∈b,s.G u) :
  Qf Tryz.prog XY [s.lv,L n1 a,N g,L n2 b] (·=OU true false (Zeo s a g b)):=by
 obtain ⟨z,hze⟩:∃ z,z=Zeo s a g b:=⟨_,rfl⟩
 have hz:z.length=a.length:=by rw [hze];simp [Zeo,hab]
 have hget:∀ (i:Nat) (h:i < a.length),z[i]'(by omega)=s.pl a[i] (s.tm g (b[i]'(by omega))):=by intro i h;simp [hze,Zeo]
 rw [← hze];clear hze
 refine Qf.of_codeOf ZlT Qz (by simp) ⟨_,rfl,by simp⟩ ?_
 simp (disch:=omega) [Zfy,Qw,Qs,Qo]
 refine XH a.length 0 (fun i t h=>t 10=N i∧t 9=OU true false (z.take i)∧h=[none]) (by simp) (by omega) ?_
 rintro i t1 hh hf hi ⟨e10,e9,rfl⟩
 (have e1:=hf 1 (by kernel_rfl);have e2:=hf 2 (by kernel_rfl);have e3:=hf 3 (by kernel_rfl);have e4:=hf 4 (by kernel_rfl);clear hf;simp [] at e1 e2 e3 e4)
 simp (disch:=omega) [e1,e2,e3,e4,e9,e10]
 (with_reducible first | refine Qn (fun h6=>?_) (fun h6=>?_) | refine Qm (fun h6=>?_) (fun h6=>?_))
 ·simp only [Qi,Qg,Ql,Qj,Qe,Qc,Bool.not_true,Bool.not_false] at h6
  simp (disch:=omega) [e1,e2,e3,e4,e9,e10,Xu]
  refine Qa (Zba t hg (hb _ (List.getElem_mem (show i < b.length by omega)))) (by simp) ?_
  simp (disch:=omega) [e1,e2,e3,e4,e9,e10,Xu]
  refine Qa (ZaY t (ha _ (List.getElem_mem (show i < a.length by omega))) (GSys.Gtm t _ _)) (by simp) ?_
  have hst:z.take (i+1)=z.take i++[s.pl a[i] (s.tm g (b[i]'(by omega)))]:=by rw [List.take_succ_eq_append_getElem (by omega),hget i (by omega)]
  rw [hst]
  have hlt:(z.take i).length≤a.length:=by simp;omega
  generalize z.take i=y at *
  have hap:WS 1 (OU true false y) (.sl true false 1 [[N (s.pl a[i] (s.tm g (b[i]'(by omega))))]])=some (OU true false (y++[s.pl a[i] (s.tm g (b[i]'(by omega)))])):=Zfj (l:=y) (r:=[_]) (u:=true) (nl:=false) (by simp;omega)
  simp (disch:=omega) [e1,e2,e3,e4,e9,e10,Xu,Qd,Qo]
  rw [hap]
  simp (disch:=omega) [e10,Qd]
  omega
 ·simp only [Qi,Qg,Ql,Qj,Qe,Qc,Bool.not_true,Bool.not_false] at h6
  simp (disch:=omega) [e9]
  rw [List.take_of_length_le (by simp;omega)]
  simp
theorem Zlx {s:GSys} (t:s.Tab) (n1 n2:Bool) (a b:List Int) (hl:a.length≤1000000) (hab:a.length=b.length) (ha:∀ u∈a,s.G u) (hb:∀ u∈b,s.G u) :
  Qf Tryz.prog KD [s.lv,L n1 a,L n2 b] (·=OU true false (XU s a b)):=by
 obtain ⟨z,hze⟩:∃ z,z=XU s a b:=⟨_,rfl⟩
 have hz:z.length=a.length:=by rw [hze];simp [XU,hab]
 have hget:∀ (i:Nat) (h:i < a.length),z[i]'(by omega)=s.join a[i] (b[i]'(by omega)):=by intro i h;simp [hze,XU]
 rw [← hze];clear hze
 refine Qf.of_codeOf Zj5 Qz (by simp) ⟨_,rfl,by simp⟩ ?_
 simp (disch:=omega) [Zd3,Qw,Qs,Qo]
 refine XH a.length 0 (fun i t h=>t 8=N i∧t 7=OU true false (z.take i)∧h=[none]) (by simp) (by omega) ?_
 rintro i t1 hh hf hi ⟨e8,e7,rfl⟩
 (have e1:=hf 1 (by kernel_rfl);have e2:=hf 2 (by kernel_rfl);have e3:=hf 3 (by kernel_rfl);clear hf;simp [] at e1 e2 e3)
 simp (disch:=omega) [e1,e2,e3,e7,e8]
 (with_reducible first | refine Qn (fun h6=>?_) (fun h6=>?_) | refine Qm (fun h6=>?_) (fun h6=>?_))
 ·simp only [Qi,Qg,Ql,Qj,Qe,Qc,Bool.not_true,Bool.not_false] at h6
  simp (disch:=omega) [e1,e2,e3,e7,e8,Xu]
  refine Qa (Vy t (ha _ (List.getElem_mem (show i < a.length by omega))) (hb _ (List.getElem_mem (show i < b.length by omega)))) (by simp) ?_
  have hst:z.take (i+1)=z.take i++[s.join a[i] (b[i]'(by omega))]:=by rw [List.take_succ_eq_append_getElem (by omega),hget i (by omega)]
  rw [hst]
  have hlt:(z.take i).length≤a.length:=by simp;omega
  generalize z.take i=y at *
  have hap:WS 1 (OU true false y) (.sl true false 1 [[N (s.join a[i] (b[i]'(by omega)))]])=some (OU true false (y++[s.join a[i] (b[i]'(by omega))])):=Zfj (l:=y) (r:=[_]) (u:=true) (nl:=false) (by simp;omega)
  simp (disch:=omega) [e1,e2,e3,e7,e8,Xu,Qd,Qo]
  rw [hap]
  simp (disch:=omega) [e8,Qd]
  omega
 ·simp only [Qi,Qg,Ql,Qj,Qe,Qc,Bool.not_true,Bool.not_false] at h6
  simp (disch:=omega) [e7]
  rw [List.take_of_length_le (by simp;omega)]
  simp
theorem YP (n1 n2:Bool) (c f:Wz) (hc:c.length≤1000000) (hf:f.length≤1000000):Qf Tryz.prog Xg [LC n1 c,LC n2 f] (·=.sl true false 1 ((f++c).map fun x=>[eC x])):=by
 refine Qf.of_codeOf ZjO Qz (by simp) ⟨_,rfl,by simp⟩ ?_
 have h1:f.length≤most:=by unfold most;omega
 have h2:f.length+c.length≤most:=by unfold most;omega
 simp (disch:=omega) [ZdP,Qo,WS,h1,h2]
theorem XQ {size:Int} {l:List Int} (h:okL size l=true) (k:Int) (hk:WD (hd l)=some 1∨WD (hd l)=some 2):Qf Tryz.prog Wp [L false l,N k] (·=OU true false (if k=0 then QK l else WC l)):=by
 have hl:=QH h
 have hlok:=ZbW (JJ h)
 have he:ZI l 1=1+(QK l).length∧l=hd l::(QK l++WC l):=by
  rcases hk with hk | hk
  ·obtain ⟨q1,q2,q3⟩:=ZhO h hk
   obtain ⟨u,g1,g2,_⟩:=Yu.1 q3
   refine ⟨?_,by rw [q2,List.append_nil];exact q1⟩
   unfold ZI
   rw [if_pos (by omega),show (1:Int).toNat=1 from rfl]
   have e:l.drop 1=u.flat++[]:=by
    conv=>lhs;rw [q1]
    rw [List.drop_one,List.tail_cons,g2,List.append_nil]
   have e2:l.length=1+u.flat.length:=by
    conv=>lhs;rw [q1]
    rw [g2];simp;omega
   rw [e,Zey g1,e2,g2];simp
  ·obtain ⟨q1,q2,q3⟩:=JW h hk
   obtain ⟨u,g1,g2,_⟩:=Yu.1 q2
   refine ⟨?_,q1⟩
   unfold ZI
   rw [if_pos (by omega),show (1:Int).toNat=1 from rfl]
   have e:l.drop 1=u.flat++WC l:=by
    conv=>lhs;rw [q1]
    rw [List.drop_one,List.tail_cons,g2]
   have e2:l.length=1+(u.flat.length+(WC l).length):=by
    conv=>lhs;rw [q1]
    rw [g2];simp;omega
   rw [e,Zey g1,e2,g2];omega
 have hlen:l.length=1+((QK l).length+(WC l).length):=by
  have:=congrArg List.length he.2
  simpa [Nat.add_comm] using this
 have c0:Yq 1 (L false l) (some 1) (some (1+((QK l).length:Int))) none=some (L false (QK l)):=by
  simp only [Yq,Option.getD_none,Option.getD_some,List.length_map]
  rw [if_pos ⟨trivial,by omega,by omega,by omega,by omega⟩,show (1+((QK l).length:Int)).toNat=1+(QK l).length by omega,show (1:Int).toNat=1 from rfl,← List.map_take,← List.map_drop]
  have e:List.drop 1 (List.take (1+(QK l).length) l)=QK l:=by
   have h2:=he.2
   generalize QK l=p0 at *
   generalize WC l=p1 at *
   rw [h2,Nat.add_comm,List.take_succ_cons,List.drop_one,List.tail_cons,List.take_left]
  rw [e];simp only [Option.isSome_none,Bool.false_and,Zgi]
 have c1:Yq 1 (L false l) (some (1+((QK l).length:Int))) none none=some (L false (WC l)):=by
  have:=YR (n2:=false) (l:=l) (k:=1+(QK l).length) (by omega)
  rw [show ((1+(QK l).length:Nat):Int)=1+((QK l).length:Int) by omega] at this
  rw [this]
  have e:List.drop (1+(QK l).length) l=WC l:=by
   have h2:=he.2
   generalize QK l=p0 at *
   generalize WC l=p1 at *
   rw [h2,Nat.add_comm,List.drop_succ_cons,List.drop_left]
  rw [e]
 have hend:=Zn2 false l hlok 1 (by omega)
 rw [show ((1:Nat):Int)=1 from rfl,he.1] at hend
 refine Qf.of_codeOf ZkA Qz (by simp) ⟨_,rfl,by split<;>simp⟩ ?_
 simp (disch:=omega) [Zed]
 refine Qa hend (by simp) ?_
 simp (disch:=omega)
 by_cases h0:k=0
 ·subst h0
  have hz:eqB 0 0=true:=by rw [Qe]
  simp (disch:=omega) [hz,c0]
  refine Qa (ZS false (QK l) (by omega)) (by simp) ?_
  simp (disch:=omega)
 ·have hz:eqB k 0=false:=by rw [Qc];exact h0
  simp (disch:=omega) [hz,c1,h0]
  refine Qa (ZS false (WC l) (by omega)) (by simp) ?_
  simp (disch:=omega)
def Res.told:Res→LV→Prop
 | .ok x,r=>∃ u1 u2 u4 n4,r=.agg [OU u1 false x.ty,OU u2 false x.needs,N 0,.sl u4 n4 1 []]
 | .bad f p,r=>f≠0∧∃ u1 u2 u4 n4,r=.agg [.sl u1 true 1 [],.sl u2 true 1 [],N f,OU u4 n4 p]
theorem Xk (f:Int) (hf:f≠0):Qf Tryz.prog WU [N f] (Res.bad f []).told:=by
 refine Qf.of_codeOf ZmG Qz (by simp) ⟨.agg [.sl false true 1 [],.sl false true 1 [],N f,.sl false true 1 []],⟨hf,false,false,false,true,by simp⟩,by simp⟩ ?_
 simp (disch:=omega) [ZfK]
 exact ⟨hf,true,true,true,true,by simp⟩
def Zjd (ty nd:List Int):Res:=if ty.length≤40 then .ok (.mk ty nd []) else .bad 3 []
theorem Zar (x:Res) (h:∀ f p,x=.bad f p→f≠0):∃ r,x.told r∧Low 0 r:=by
 cases x with
 | ok x=>exact ⟨.agg [L false x.ty,L false x.needs,N 0,.sl false true 1 []],⟨false,false,false,true,rfl⟩,by simp⟩
 | bad f p=>exact ⟨.agg [.sl false true 1 [],.sl false true 1 [],N f,L true p],⟨h f p rfl,false,false,false,true,rfl⟩,by simp⟩
theorem Zrt {ty nd:List Int} {f:Int} {p:List Int} (h:Zjd ty nd=.bad f p):f≠0:=by
 unfold Zjd at h
 split at h
 ·simp at h
 ·simp at h;omega
theorem Za7 (ty nd:List Int):Qf Tryz.prog YF [L false ty,L false nd] (Zjd ty nd).told:=by
 refine Qf.of_codeOf Zki Qz (by simp) (Zar _ fun f p h=>Zrt h) ?_
 simp (disch:=omega) [Zeg]
 by_cases h:ty.length≤40
 ·have hb:ltB 40 (ty.length:Int)=false:=by rw [Qg];omega
  simp (disch:=omega) [hb,Zjd,h]
  exact ⟨false,false,true,true,by simp⟩
 ·have hb:ltB 40 (ty.length:Int)=true:=by rw [Qi];omega
  simp (disch:=omega) [hb,Zjd,h]
  refine Qk (Qf.low (Xk 3 (by omega))) (by simp) ?_
  rintro r ⟨⟨h3,u1,u2,u4,n4,rfl⟩,lo⟩
  simp (disch:=omega)
  exact ⟨h3,u1,u2,u4,n4,by simp⟩
def ofR (i:Nat):Res→Res
 | .ok x=>.ok x
 | .bad f p=>.bad f ((i:Int)::p)
def Res.fine:Res→Prop
 | .ok _=>True
 | .bad f p=>f≠0∧p.length≤1000000
theorem ofR_fine {i:Nat} {x:Res} (h:x.fine):∀ f p,ofR i x=.bad f p→f≠0:=by
 intro f p e
 cases x with
 | ok x=>simp [ofR] at e
 | bad f0 p0=>simp [ofR] at e;rw [← e.1];exact h.1
theorem XN (s:GSys) (op n:Int) (nl1:Bool) (gty:List Int) (nl2:Bool) (ks:List GTerm) (i:Nat) (hi:i < ks.length) (nlc:Bool) (ctx:Wz) (R:Res) (hR:R.fine)
  (hk:Qf Tryz.prog WE [s.lv,LC nlc ctx,(ks[i]).lv] R.told):Qf Tryz.prog Yr [s.lv,LC nlc ctx,(GTerm.mk op n nl1 gty nl2 ks).lv,N i] (ofR i R).told:=by
 refine Qf.of_codeOf Zoo Qz (by simp) (Zar _ (ofR_fine hR)) ?_
 have hix:=Zft ks false nl2 i hi
 simp (disch:=omega) [ZgZ,Qw,Qs,GTerm.cells,hix]
 refine Qk (Qf.low hk) (by simp) ?_
 rintro r ⟨hr,lo⟩
 cases R with
 | ok x =>
  obtain ⟨u1,u2,u4,n4,rfl⟩:=hr
  have hz:eqB 0 0=true:=by rw [Qe]
  simp (disch:=omega) [hz]
  exact ⟨u1,u2,u4,n4,by simp⟩
 | bad f p =>
  obtain ⟨hf,u1,u2,u4,n4,rfl⟩:=hr
  have hf0:eqB f 0=false:=by rw [Qc];exact hf
  have hpm:1+p.length≤most:=by have:=hR.2;unfold most;omega
  simp (disch:=omega) [hf0,Qo,WS,hpm]
  exact ⟨hf,u1,u2,true,false,by simp⟩
theorem Zk6 {size:Int} {l:List Int} (h:okL size l=true):((QG (hd l)).1=0 ↔ hd l=0)∧((QG (hd l)).1=1 ↔ hd l=1)∧((QG (hd l)).1=2 ↔ hd l=2)∧((QG (hd l)).1=3 ↔ QP (hd l)=true)∧((QG (hd l)).1=4 ↔ W9 (hd l)=true):=by
 have h1:=Yj h
 obtain ⟨a,b,c,d,e,_⟩:=Kq h1.2.1 h1.2.2.1
 exact ⟨a,b,c,d,e⟩
theorem sh00:(QG 0).1=0:=by decide
theorem fo2 {s:GSys} {n:Int} {i:Nat}:QO s 2 n i 0=0:=by simp [QO,JB,sh00]
theorem fo3 {s:GSys} {n:Int}:QO s 3 n 0 0=0:=by simp [QO,JB,sh00]
theorem fo_add {s:GSys} {n:Int} {i:Nat} {l:List Int} (h:okL s.size l=true):QO s 2 n i (hd l)=if hd l=0 then 0 else 2:=by
 obtain ⟨a,b,c,d,e⟩:=Zk6 h
 by_cases q:hd l=0
 ·simp [QO,JB,q,sh00]
 ·have:¬ (QG (hd l)).1=0:=fun h=>q (a.1 h)
  simp [QO,JB,q,this]
theorem fo_if0 {s:GSys} {n:Int} {l:List Int} (h:okL s.size l=true):QO s 3 n 0 (hd l)=if hd l=0 then 0 else 2:=by
 obtain ⟨a,b,c,d,e⟩:=Zk6 h
 by_cases q:hd l=0
 ·simp [QO,JB,q,sh00]
 ·have:¬ (QG (hd l)).1=0:=fun h=>q (a.1 h)
  simp [QO,JB,q,this]
theorem Zbl {s:GSys} {op n:Int} {i:Nat} {c:Int} (h:i≠0) (h2:op≠2):QO s op n i c=0:=by
 simp [QO,JB,h,h2]
theorem tell_add {s:GSys} {cx:List (List Int)} {n:Int} {nl1 nl2:Bool} {gty:List Int} {a b:GTerm} {x:TT} (hA:Qt s cx a=.ok x) (hx:okL s.size x.ty=true) (h0:hd x.ty=0) (hb:∀ y,Qt s cx b=.ok y→okL s.size y.ty=true) :
  Qt s cx (.mk 2 n nl1 gty nl2 [a,b])=match Qt s cx b with
   | .bad f p=>.bad f (1::p)
   | .ok y=>if hd y.ty=0 then .ok (.mk [0] (XZ s x.needs y.needs) [x,y]) else .bad 2 []:=by
 cases hB:Qt s cx b with
 | bad f p=>simp [Qt,Q9,QC,Qr,hA,hB,fo2,h0]
 | ok y =>
  have:=hb y hB
  by_cases q:hd y.ty=0
  ·simp [Qt,Q9,QC,Qr,hA,hB,fo2,h0,q,Wi,ndP]
  ·simp [Qt,Q9,QC,Qr,hA,hB,fo2,fo_add this,h0,q]
theorem tell_if {s:GSys} {cx:List (List Int)} {n:Int} {nl1 nl2:Bool} {gty:List Int} {a b c:GTerm} {x:TT} (hA:Qt s cx a=.ok x) (hx:okL s.size x.ty=true) (h0:hd x.ty=0) :
  Qt s cx (.mk 3 n nl1 gty nl2 [a,b,c])=match Qt s cx b with
   | .bad f p=>.bad f (1::p)
   | .ok y=>match Qt s cx c with
    | .bad f p=>.bad f (2::p)
    | .ok z=>if y.ty=z.ty then .ok (.mk y.ty (XZ s x.needs (XU s y.needs z.needs)) [x,y,z]) else .bad 3 []:=by
 cases hB:Qt s cx b with
 | bad f p=>simp [Qt,Q9,QC,Qr,hA,hB,fo3,h0]
 | ok y =>
  cases hC:Qt s cx c with
  | bad f p=>simp [Qt,Q9,QC,Qr,hA,hB,hC,fo3,h0,Zbl]
  | ok z =>
   by_cases q:y.ty=z.ty
   ·simp [Qt,Q9,QC,Qr,hA,hB,hC,fo3,h0,Zbl,Wi,tyP,ndP,q]
   ·simp [Qt,Q9,QC,Qr,hA,hB,hC,fo3,h0,Zbl,Wi,tyP,ndP,q]
def Z4 (ty nd:List Int) (ks:List TT):Res:=if ty.length≤40 then .ok (.mk ty nd ks) else .bad 3 []
section
variable {s:GSys} {cx:List (List Int)} {n:Int} {nl1 nl2:Bool} {gty:List Int} {a b c:GTerm} {x:TT}
theorem YS {op:Int} {ks:List GTerm} {f:Int} {p:List Int} (h:Qt s (QC op gty 0 []++cx) a=.bad f p):Qt s cx (.mk op n nl1 gty nl2 (a::ks))=.bad f (0::p):=by
 have h':Qt s (QC op gty 0 (first [])++cx) a=.bad f p:=h
 simp [Qt,Q9,h']
theorem Zit:Qt s cx (.mk 0 n nl1 gty nl2 [])=.ok (.mk (cx.getD n.toNat []) ((zeros cx.length).set n.toNat 1) []):=by simp [Qt,Q9,Wi]
theorem tell_num:Qt s cx (.mk 1 n nl1 gty nl2 [])=.ok (.mk [0] (zeros cx.length) []):=by simp [Qt,Q9,Wi]
theorem Vg {op n:Int} {i:Nat} {c:Int} (h:op=4∨op=6∨op=7∨op=9∨op=11):QO s op n i c=0:=by
 rcases h with rfl | rfl | rfl | rfl | rfl<;>simp [QO,JB]
theorem fo_sh {op n:Int} {w f:Int} {l:List Int} (hw:JB op 0=(w,f)) (hw0:0≤w) (ho:op=5∨op=8∨op=12) {q:Prop} [Decidable q] (hq:(QG (hd l)).1=w ↔ q):QO s op n 0 (hd l)=if q then (if s.le 1 n=true then 0 else 8) else f:=by
 unfold QO
 rw [hw]
 by_cases h:q
 ·rw [if_neg (by simp [hq.2 h]),if_pos h]
  cases g:s.le 1 n<;>simp [ho]
 ·have:(QG (hd l)).1≠w:=fun e=>h (hq.1 e)
  rw [if_pos ⟨hw0,this⟩,if_neg h]
theorem ZrD (hA:Qt s cx a=.ok x):Qt s cx (.mk 4 n nl1 gty nl2 [a,b])=match Qt s cx b with
  | .bad f p=>.bad f (1::p)
  | .ok y=>Z4 (1::(x.ty++y.ty)) (XZ s x.needs y.needs) [x,y]:=by
 cases hB:Qt s cx b with
 | bad f p=>simp [Qt,Q9,QC,Qr,hA,hB,Vg]
 | ok y =>
  by_cases q:(1::(x.ty++y.ty)).length≤40
  ·simp [Qt,Q9,QC,Qr,hA,hB,Vg,Wi,ndP,tyP,Xl,Z4,q]
   simp at q
   simp [q]
  ·simp [Qt,Q9,QC,Qr,hA,hB,Vg,Wi,ndP,tyP,Xl,Z4,q]
   simp at q
   simp [Nat.not_le.2 q]
theorem ZrQ (hA:Qt s cx a=.ok x):Qt s cx (.mk 6 n nl1 gty nl2 [a])=Z4 (2::(x.ty++gty)) x.needs [x]:=by
 by_cases q:(2::(x.ty++gty)).length≤40
 ·simp [Qt,Q9,QC,Qr,hA,Vg,Wi,ndP,tyP,Xl,Z4,q]
  simp at q
  simp [q]
 ·simp [Qt,Q9,QC,Qr,hA,Vg,Wi,ndP,tyP,Xl,Z4,q]
  simp at q
  simp [Nat.not_le.2 q]
theorem Zqb (hA:Qt s cx a=.ok x):Qt s cx (.mk 7 n nl1 gty nl2 [a])=Z4 (2::(gty++x.ty)) x.needs [x]:=by
 by_cases q:(2::(gty++x.ty)).length≤40
 ·simp [Qt,Q9,QC,Qr,hA,Vg,Wi,ndP,tyP,Xl,Z4,q]
  simp at q
  simp [q]
 ·simp [Qt,Q9,QC,Qr,hA,Vg,Wi,ndP,tyP,Xl,Z4,q]
  simp at q
  simp [Nat.not_le.2 q]
theorem tell_fun (hA:Qt s (gty::cx) a=.ok x):Qt s cx (.mk 9 n nl1 gty nl2 [a])=if Wu s (x.needs.take 1) n=true then Z4 ((3+n)::(gty++x.ty)) (x.needs.drop 1) [x] else .bad 9 []:=by
 by_cases u:Wu s (x.needs.take 1) n=true
 ·rw [if_pos u]
  by_cases q:((3+n)::(gty++x.ty)).length≤40
  ·simp [Qt,Q9,QC,Qr,hA,Vg,Wi,ndP,tyP,usP,u,Xl,Z4,q]
   simp at q
   simp [q]
  ·simp [Qt,Q9,QC,Qr,hA,Vg,Wi,ndP,tyP,usP,u,Xl,Z4,q]
   simp at q
   simp [Nat.not_le.2 q]
 ·rw [if_neg u]
  simp [Qt,Q9,QC,Qr,hA,Vg,Wi,ndP,tyP,usP,u]
theorem tell_box (hA:Qt s cx a=.ok x):Qt s cx (.mk 11 n nl1 gty nl2 [a])=Z4 ((19+n)::x.ty) (QY s n x.needs) [x]:=by
 by_cases q:((19+n)::x.ty).length≤40
 ·simp [Qt,Q9,QC,Qr,hA,Vg,Wi,ndP,tyP,Xl,Z4,q]
  simp at q
  simp [q]
 ·simp [Qt,Q9,QC,Qr,hA,Vg,Wi,ndP,tyP,Xl,Z4,q]
  simp at q
  simp [Nat.not_le.2 q]
theorem tell_app (hA:Qt s cx a=.ok x) (hx:okL s.size x.ty=true):Qt s cx (.mk 10 n nl1 gty nl2 [a,b])=if QP (hd x.ty)=true then (match Qt s cx b with
  | .bad f p=>.bad f (1::p)
  | .ok y=>if y.ty=QK x.ty then .ok (.mk (WC x.ty) (XZ s x.needs (QY s (QG (hd x.ty)).2 y.needs)) [x,y]) else .bad 3 []) else .bad 6 []:=by
 have fo:QO s 10 n 0 (hd x.ty)=if QP (hd x.ty)=true then 0 else 6:=by
  obtain ⟨_,_,_,d,_⟩:=Zk6 hx
  by_cases q:QP (hd x.ty)=true
  ·simp [QO,JB,q,d.2 q]
  ·have:¬ (QG (hd x.ty)).1=3:=fun h=>q (d.1 h)
   simp [QO,JB,q,this]
 by_cases q:QP (hd x.ty)=true
 ·rw [if_pos q]
  rw [if_pos q] at fo
  cases hB:Qt s cx b with
  | bad f p=>simp [Qt,Q9,QC,Qr,hA,hB,fo]
  | ok y =>
   by_cases e:y.ty=QK x.ty
   ·simp [Qt,Q9,QC,Qr,hA,hB,fo,Zbl,first,tyP,e,Wi,ndP]
   ·simp [Qt,Q9,QC,Qr,hA,hB,fo,Zbl,first,tyP,e]
 ·rw [if_neg q]
  rw [if_neg q] at fo
  simp [Qt,Q9,QC,Qr,hA,fo]
theorem Zpe (hA:Qt s cx a=.ok x) (hx:okL s.size x.ty=true):Qt s cx (.mk 5 n nl1 gty nl2 [a,b])=if hd x.ty=1 then (if s.le 1 n=true then (match Qt s (WC x.ty::QK x.ty::cx) b with
  | .bad f p=>.bad f (1::p)
  | .ok y=>if Wu s (y.needs.take 2) n=true then .ok (.mk y.ty (XZ s (QY s n x.needs) (y.needs.drop 2)) [x,y]) else .bad 9 []) else .bad 8 []) else .bad 4 []:=by
 have fo:=fo_sh (s:=s) (op:=5) (n:=n) (w:=1) (f:=4) (l:=x.ty) rfl (by omega) (by simp) (Zk6 hx).2.1
 by_cases q:hd x.ty=1
 ·rw [if_pos q] at fo ⊢
  by_cases l:s.le 1 n=true
  ·rw [if_pos l] at fo ⊢
   cases hB:Qt s (WC x.ty::QK x.ty::cx) b with
   | bad f p=>simp [Qt,Q9,QC,Qr,hA,hB,fo,first,tyP]
   | ok y =>
    by_cases u:Wu s (y.needs.take 2) n=true
    ·simp [Qt,Q9,QC,Qr,hA,hB,fo,Zbl,first,tyP,Wi,ndP,usP,u]
    ·simp [Qt,Q9,QC,Qr,hA,hB,fo,Zbl,first,tyP,Wi,ndP,usP,u]
  ·rw [if_neg l] at fo ⊢
   simp [Qt,Q9,QC,Qr,hA,fo]
 ·rw [if_neg q] at fo ⊢
  simp [Qt,Q9,QC,Qr,hA,fo]
theorem ZrK (hA:Qt s cx a=.ok x) (hx:okL s.size x.ty=true):Qt s cx (.mk 12 n nl1 gty nl2 [a,b])=if W9 (hd x.ty)=true then (if s.le 1 n=true then (match Qt s (QK x.ty::cx) b with
  | .bad f p=>.bad f (1::p)
  | .ok y=>if Wu s (y.needs.take 1) (s.tm n (QG (hd x.ty)).2)=true then .ok (.mk y.ty (XZ s (QY s n x.needs) (y.needs.drop 1)) [x,y]) else .bad 9 []) else .bad 8 []) else .bad 7 []:=by
 have fo:=fo_sh (s:=s) (op:=12) (n:=n) (w:=4) (f:=7) (l:=x.ty) rfl (by omega) (by simp) (Zk6 hx).2.2.2.2
 by_cases q:W9 (hd x.ty)=true
 ·rw [if_pos q] at fo ⊢
  by_cases l:s.le 1 n=true
  ·rw [if_pos l] at fo ⊢
   cases hB:Qt s (QK x.ty::cx) b with
   | bad f p=>simp [Qt,Q9,QC,Qr,hA,hB,fo,first,tyP]
   | ok y =>
    by_cases u:Wu s (y.needs.take 1) (s.tm n (QG (hd x.ty)).2)=true
    ·simp [Qt,Q9,QC,Qr,hA,hB,fo,Zbl,first,tyP,Wi,ndP,usP,u]
    ·simp [Qt,Q9,QC,Qr,hA,hB,fo,Zbl,first,tyP,Wi,ndP,usP,u]
  ·rw [if_neg l] at fo ⊢
   simp [Qt,Q9,QC,Qr,hA,fo]
 ·rw [if_neg q] at fo ⊢
  simp [Qt,Q9,QC,Qr,hA,fo]
theorem Zrq (hA:Qt s cx a=.ok x) (hx:okL s.size x.ty=true):Qt s cx (.mk 8 n nl1 gty nl2 [a,b,c])=if hd x.ty=2 then (if s.le 1 n=true then (match Qt s (QK x.ty::cx) b with
  | .bad f p=>.bad f (1::p)
  | .ok y=>match Qt s (WC x.ty::cx) c with
   | .bad f p=>.bad f (2::p)
   | .ok z=>if y.ty=z.ty then (if Wu s (y.needs.take 1) n=true∧Wu s (z.needs.take 1) n=true then .ok (.mk y.ty (XZ s (QY s n x.needs) (XU s (y.needs.drop 1) (z.needs.drop 1))) [x,y,z]) else .bad 9 []) else .bad 3 []) else .bad 8 []) else .bad 5 []:=by
 have fo:=fo_sh (s:=s) (op:=8) (n:=n) (w:=2) (f:=5) (l:=x.ty) rfl (by omega) (by simp) (Zk6 hx).2.2.1
 by_cases q:hd x.ty=2
 ·rw [if_pos q] at fo ⊢
  by_cases l:s.le 1 n=true
  ·rw [if_pos l] at fo ⊢
   cases hB:Qt s (QK x.ty::cx) b with
   | bad f p=>simp [Qt,Q9,QC,Qr,hA,hB,fo,first,tyP]
   | ok y =>
    cases hC:Qt s (WC x.ty::cx) c with
    | bad f p=>simp [Qt,Q9,QC,Qr,hA,hB,hC,fo,Zbl,first,tyP]
    | ok z =>
     by_cases e:y.ty=z.ty
     ·by_cases u:Wu s (y.needs.take 1) n=true∧Wu s (z.needs.take 1) n=true
      ·simp [Qt,Q9,QC,Qr,hA,hB,hC,fo,Zbl,first,tyP,Wi,ndP,usP,u,e]
      ·simp [Qt,Q9,QC,Qr,hA,hB,hC,fo,Zbl,first,tyP,Wi,ndP,usP,u,e]
     ·simp [Qt,Q9,QC,Qr,hA,hB,hC,fo,Zbl,first,tyP,Wi,ndP,usP,e]
  ·rw [if_neg l] at fo ⊢
   simp [Qt,Q9,QC,Qr,hA,fo]
 ·rw [if_neg q] at fo ⊢
  simp [Qt,Q9,QC,Qr,hA,fo]
end
theorem one_of {s:GSys} (hs:s.sys=true) {a:Int} (ha:s.G a):s.pl 0 a=a∧s.tm 1 a=a:=by
 unfold GSys.sys at hs
 rw [Bool.and_eq_true,Yc] at hs
 have h:=hs.2 a.toNat (by have:=ha.1;have:=ha.2;omega)
 unfold GSys.sysB at h
 rw [Bool.and_eq_true] at h
 have h:=h.1
 unfold GSys.one at h
 simp only [Bool.and_eq_true,Qe] at h
 have e1:((a.toNat:Nat):Int)=a:=by have:=ha.1;omega
 rw [e1] at h
 exact ⟨h.1.1.1.1.1,h.1.1.1.1.2⟩
theorem Zag {s:GSys} (hs:s.sys=true):∀ (a b:List Int),(∀ u∈b,s.G u)→Zeo s a 1 b=XZ s a b
 | [],b,_=>by simp [Zeo,XZ]
 | x::a,[],_=>by simp [Zeo,XZ]
 | x::a,y::b,h=>by
  have:=Zag hs a b fun u hu=>h u (by simp [hu])
  simp only [Zeo,XZ,List.zipWith_cons_cons] at this ⊢
  rw [this,(one_of hs (h y (by simp))).2]
theorem Zcz {s:GSys} (hs:s.sys=true) (g:Int):∀ (a:List Int),Zeo s (zeros a.length) g a=QY s g a
 | []=>by simp [Zeo,QY]
 | x::a=>by
  have:=Zcz hs g a
  simp only [Zeo,QY,zeros,List.length_cons,List.replicate_succ,List.zipWith_cons_cons,List.map_cons] at this ⊢
  rw [this,(one_of hs (GSys.Gtm (GSys.sys_of hs) g x)).1]
theorem WM {s:GSys} {cx:List (List Int)} {g:GTerm} (h:g.size≤1000000):(Qt s cx g).fine:=by
 cases e:Qt s cx g with
 | ok x=>exact trivial
 | bad f p=>exact ⟨ZA g cx f p e,by have:=V3 g cx f p e;omega⟩
abbrev aLV (x:TT) (n4:Bool):LV:=.agg [L false x.ty,L false x.needs,N 0,.sl false n4 1 []]
section
variable {s:GSys} (hsy:s.sys=true) (nlc:Bool) (ctx:Wz) (hcl:ctx.length≤100000)
include hsy hcl
theorem ZkV (n:Int) (nl1:Bool) (gty:List Int) (nl2:Bool) (a b:GTerm) (x:TT) (n4:Bool) (hxg:x.good s ctx.length) (hA:Qt s (ctx.map Prod.snd) a=.ok x) (h0:hd x.ty=0) (hbs:b.size≤1000000)
  (hb:Qf Tryz.prog WE [s.lv,LC nlc ctx,b.lv] (Qt s (ctx.map Prod.snd) b).told) (hbg:∀ y,Qt s (ctx.map Prod.snd) b=.ok y→y.good s ctx.length) :
  Qf Tryz.prog Z3 [s.lv,LC nlc ctx,(GTerm.mk 2 n nl1 gty nl2 [a,b]).lv,aLV x n4] (Qt s (ctx.map Prod.snd) (GTerm.mk 2 n nl1 gty nl2 [a,b])).told:=by
 have t:=GSys.sys_of hsy
 have T:=tell_add (n:=n) (nl1:=nl1) (nl2:=nl2) (gty:=gty) hA hxg.1 h0 (fun y h=>(hbg y h).1)
 refine Qf.of_codeOf Zbh Qz (by simp) (Zar _ fun f p h=>ZA _ _ f p h) ?_
 have of:=XN s 2 n nl1 gty nl2 [a,b] 1 (by simp) nlc ctx _ (WM hbs) hb
 simp only [GTerm.lv,GTerm.cells] at of
 simp (disch:=omega) [Kp,Qw,Qs,GTerm.cells]
 refine Qk (Qf.low of) (by simp) ?_
 rintro r ⟨hr,lo⟩
 rw [T]
 cases hB:Qt s (ctx.map Prod.snd) b with
 | bad f p =>
  rw [hB] at hr
  simp only [ofR] at hr
  obtain ⟨hf,u1,u2,u4,n4',rfl⟩:=hr
  have hf0:eqB f 0=false:=by rw [Qc];exact hf
  simp (disch:=omega) [Qw,Qs,hf0]
  exact ⟨hf,false,false,false,n4',by simp⟩
 | ok y =>
  have hyg:=hbg y hB
  rw [hB] at hr
  simp only [ofR] at hr
  obtain ⟨u1,u2,u4,n4',rfl⟩:=hr
  have hz:eqB 0 0=true:=by rw [Qe]
  have hy:=Yj hyg.1
  have hyi:QU 1 (L false y.ty) 0=some (.rp [N (hd y.ty)]):=Jb hy.2.2.2.1
  by_cases q:hd y.ty=0
  ·have hn:=okL_none hyg.1 (by rw [q];decide)
   rw [q] at hn
   have hq0:eqB (hd y.ty) 0=true:=by rw [Qe];exact q
   simp (disch:=omega) [Qw,Qs,hz,hyi,hq0]
   refine Qa (Zq t false false x.needs 1 (GSys.G1 t) y.needs (by rw [hxg.2.1];omega) (by rw [hxg.2.1,hyg.2.1]) hxg.2.2 hyg.2.2) (by simp) ?_
   rw [Zag hsy _ _ hyg.2.2]
   simp (disch:=omega) [q,hn]
   exact ⟨false,true,true,true,by simp⟩
  ·have hq0:eqB (hd y.ty) 0=false:=by rw [Qc];exact q
   simp (disch:=omega) [Qw,Qs,hz,hyi,hq0]
   refine Qk (Qf.low (Xk 2 (by omega))) (by simp) ?_
   rintro r ⟨⟨h3,v1,v2,v4,m4,rfl⟩,lo⟩
   simp (disch:=omega) [q]
   exact ⟨by omega,v1,v2,v4,m4,by simp⟩
theorem ZlS (n:Int) (nl1:Bool) (gty:List Int) (nl2:Bool) (a b c:GTerm) (x:TT) (n4:Bool) (hxg:x.good s ctx.length) (hA:Qt s (ctx.map Prod.snd) a=.ok x) (h0:hd x.ty=0) (hbs:b.size≤1000000) (hcs:c.size≤1000000)
  (hb:Qf Tryz.prog WE [s.lv,LC nlc ctx,b.lv] (Qt s (ctx.map Prod.snd) b).told) (hbg:∀ y,Qt s (ctx.map Prod.snd) b=.ok y→y.good s ctx.length)
  (hc:Qf Tryz.prog WE [s.lv,LC nlc ctx,c.lv] (Qt s (ctx.map Prod.snd) c).told) (hcg:∀ y,Qt s (ctx.map Prod.snd) c=.ok y→y.good s ctx.length) :
  Qf Tryz.prog Z3 [s.lv,LC nlc ctx,(GTerm.mk 3 n nl1 gty nl2 [a,b,c]).lv,aLV x n4] (Qt s (ctx.map Prod.snd) (GTerm.mk 3 n nl1 gty nl2 [a,b,c])).told:=by
 have t:=GSys.sys_of hsy
 have T:=tell_if (n:=n) (nl1:=nl1) (nl2:=nl2) (gty:=gty) (b:=b) (c:=c) hA hxg.1 h0
 refine Qf.of_codeOf Zbh Qz (by simp) (Zar _ fun f p h=>ZA _ _ f p h) ?_
 have of:=XN s 3 n nl1 gty nl2 [a,b,c] 1 (by simp) nlc ctx _ (WM hbs) hb
 have of2:=XN s 3 n nl1 gty nl2 [a,b,c] 2 (by simp) nlc ctx _ (WM hcs) hc
 simp only [GTerm.lv,GTerm.cells] at of of2
 have hz:eqB 0 0=true:=by rw [Qe]
 have e32:eqB 3 2=false:=by rw [Qc];omega
 simp (disch:=omega) [Kp,Qw,Qs,GTerm.cells]
 refine Qk (Qf.low of) (by simp) ?_
 rintro r ⟨hr,lo⟩
 rw [T]
 cases hB:Qt s (ctx.map Prod.snd) b with
 | bad f p =>
  rw [hB] at hr
  simp only [ofR] at hr
  obtain ⟨hf,u1,u2,u4,n4',rfl⟩:=hr
  have hf0:eqB f 0=false:=by rw [Qc];exact hf
  simp (disch:=omega) [Qw,Qs,hf0]
  exact ⟨hf,false,false,false,n4',by simp⟩
 | ok y =>
  have hyg:=hbg y hB
  rw [hB] at hr
  simp only [ofR] at hr
  obtain ⟨u1,u2,u4,n4',rfl⟩:=hr
  simp (disch:=omega) [Qw,Qs,hz,e32]
  refine Qk (Qf.low of2) (by simp) ?_
  rintro r ⟨hr,lo⟩
  cases hC:Qt s (ctx.map Prod.snd) c with
  | bad f p =>
   rw [hC] at hr
   simp only [ofR] at hr
   obtain ⟨hf,v1,v2,v4,m4',rfl⟩:=hr
   have hf0:eqB f 0=false:=by rw [Qc];exact hf
   simp (disch:=omega) [Qw,Qs,hf0]
   exact ⟨hf,false,false,false,m4',by simp⟩
  | ok z =>
   have hzg:=hcg z hC
   rw [hC] at hr
   simp only [ofR] at hr
   obtain ⟨v1,v2,v4,m4',rfl⟩:=hr
   simp (disch:=omega) [Qw,Qs,hz]
   have ly:=QH hyg.1
   have sm:=ZaT false false y.ty z.ty (by omega)
   refine Qa sm (by simp) ?_
   cases he:(y.ty == z.ty)
   ·have he':y.ty≠z.ty:=by simpa using he
    simp (disch:=omega)
    refine Qk (Qf.low (Xk 3 (by omega))) (by simp) ?_
    rintro r ⟨⟨h3,w1,w2,w4,k4,rfl⟩,lo⟩
    simp (disch:=omega) [he']
    exact ⟨by omega,w1,w2,w4,k4,by simp⟩
   ·have he':y.ty=z.ty:=by simpa using he
    simp (disch:=omega)
    have jn:=Zlx t false false y.needs z.needs (by rw [hyg.2.1];omega) (by rw [hyg.2.1,hzg.2.1]) hyg.2.2 hzg.2.2
    refine Qa jn (by simp) ?_
    have jl:=ZbU (s:=s) hyg.2.1 hzg.2.1
    have jg:∀ u∈XU s y.needs z.needs,s.G u:=fun u hu=>Zi4 hsy u hu hyg.2.2 hzg.2.2
    simp (disch:=omega)
    have sm:=Zq t false false x.needs 1 (GSys.G1 t) (XU s y.needs z.needs) (by rw [hxg.2.1];omega) (by rw [hxg.2.1,jl]) hxg.2.2 jg
    refine Qa sm (by simp) ?_
    rw [Zag hsy _ _ jg]
    simp (disch:=omega) [he']
    exact ⟨false,true,true,true,by simp [he']⟩
end
theorem used1 {s:GSys} {l:List Int} {g:Int} (h:1≤l.length):Wu s (l.take 1) g=s.le (l.getD 0 0) g:=by
 cases l with
 | nil=>simp at h
 | cons a l=>simp [Wu]
theorem used2 {s:GSys} {l:List Int} {g:Int} (h:2≤l.length):Wu s (l.take 2) g=(s.le (l.getD 0 0) g && s.le (l.getD 1 0) g):=by
 match l,h with
 | [],h=>simp at h
 | [_],h=>simp at h
 | a::b::l,_=>simp [Wu]
theorem Zgg {s:GSys} {l:List Int} {i:Nat} (h:∀ u∈l,s.G u) (hi:i < l.length):s.G (l.getD i 0):=by
 rw [List.getD_eq_getElem?_getD,List.getElem?_eq_getElem hi];exact h _ (List.getElem_mem _)
theorem ZlE {l:List Int} {i:Nat} (hi:i < l.length):QU 1 (L false l) (i:Int)=some (.rp [N (l.getD i 0)]):=by
 have:=Xu l false false i (by omega) (by omega)
 simpa using this
section
variable {s:GSys} (hsy:s.sys=true) (nlc:Bool) (ctx:Wz) (hcl:ctx.length≤100000)
include hsy hcl
theorem ZjX (n:Int) (nl1:Bool) (gty:List Int) (nl2:Bool) (a b:GTerm) (x:TT) (n4:Bool) (hn:s.G n) (hxg:x.good s ctx.length) (hA:Qt s (ctx.map Prod.snd) a=.ok x) (hbs:b.size≤1000000)
  (hb:hd x.ty=1→Qf Tryz.prog WE [s.lv,LC false ((false,WC x.ty)::(false,QK x.ty)::ctx),b.lv] (Qt s (WC x.ty::QK x.ty::ctx.map Prod.snd) b).told)
  (hbg:hd x.ty=1→∀ y,Qt s (WC x.ty::QK x.ty::ctx.map Prod.snd) b=.ok y→y.good s (ctx.length+2)) :
  Qf Tryz.prog ZM [s.lv,LC nlc ctx,(GTerm.mk 5 n nl1 gty nl2 [a,b]).lv,aLV x n4] (Qt s (ctx.map Prod.snd) (GTerm.mk 5 n nl1 gty nl2 [a,b])).told:=by
 have t:=GSys.sys_of hsy
 have T:=Zpe (n:=n) (nl1:=nl1) (nl2:=nl2) (gty:=gty) (b:=b) hA hxg.1
 refine Qf.of_codeOf VX Qz (by simp) (Zar _ fun f p h=>ZA _ _ f p h) ?_
 rw [T]
 have hx:=Yj hxg.1
 have hxi:QU 1 (L false x.ty) 0=some (.rp [N (hd x.ty)]):=Jb hx.2.2.2.1
 have e55:eqB 5 5=true:=by rw [Qe]
 have e58:eqB 5 8=false:=by rw [Qc];omega
 have e512:eqB 5 12=false:=by rw [Qc];omega
 have hz:eqB 0 0=true:=by rw [Qe]
 by_cases q:hd x.ty=1
 ·have hq:eqB (hd x.ty) 1=true:=by rw [Qe];exact q
  have hk:WD (hd x.ty)=some 2:=by rw [q];exact Xt.1
  simp (disch:=omega) [Yf,Qw,Qs,GTerm.cells,hxi,hq,e55,e58,e512]
  refine Qa (XW t (GSys.G1 t) hn) (by simp) ?_
  rw [if_pos q]
  cases hl:s.le 1 n
  ·simp (disch:=omega)
   refine Qk (Qf.low (Xk 8 (by omega))) (by simp) ?_
   rintro r ⟨⟨h3,w1,w2,w4,k4,rfl⟩,lo⟩
   simp (disch:=omega)
   exact ⟨by omega,w1,w2,w4,k4,by simp⟩
  ·have p0:=XQ hxg.1 0 (.inr hk)
   have p1:=XQ hxg.1 1 (.inr hk)
   simp (disch:=omega)
   refine Qa p0 (by simp) ?_
   simp (disch:=omega) [Qo]
   refine Qa p1 (by simp) ?_
   simp (disch:=omega) [Qo]
   refine Qa p0 (by simp) ?_
   simp (disch:=omega) [Qo]
   have w:=YP nlc false ctx [(false,WC x.ty),(false,QK x.ty)] (by omega) (by simp)
   simp only [List.map_cons,List.map_nil,List.cons_append,List.nil_append] at w
   refine Qa w (by simp) ?_
   have of:=XN s 5 n nl1 gty nl2 [a,b] 1 (by simp) false ((false,WC x.ty)::(false,QK x.ty)::ctx) _ (WM hbs) (hb q)
   simp only [GTerm.lv,GTerm.cells,List.map_cons] at of
   simp (disch:=omega) [Qo]
   refine Qk (Qf.low of) (by simp) ?_
   rintro r ⟨hr,lo⟩
   cases hB:Qt s (WC x.ty::QK x.ty::ctx.map Prod.snd) b with
   | bad f p =>
    rw [hB] at hr
    simp only [ofR] at hr
    obtain ⟨hf,u1,u2,u4,n4',rfl⟩:=hr
    have hf0:eqB f 0=false:=by rw [Qc];exact hf
    simp (disch:=omega) [Qw,Qs,hf0]
    exact ⟨hf,false,false,false,n4',by simp⟩
   | ok y =>
    have hyg:=hbg q y hB
    rw [hB] at hr
    simp only [ofR] at hr
    obtain ⟨u1,u2,u4,n4',rfl⟩:=hr
    have hyl:=hyg.2.1
    have c2:Yq 1 (L false y.needs) (some 2) none none=some (L false (y.needs.drop 2)):=YR (k:=2) (by omega)
    have i0:QU 1 (L false y.needs) 0=some (.rp [N (y.needs.getD 0 0)]):=ZlE (i:=0) (by omega)
    have i1:QU 1 (L false y.needs) 1=some (.rp [N (y.needs.getD 1 0)]):=ZlE (i:=1) (by omega)
    have g0:=Zgg hyg.2.2 (show 0 < y.needs.length by omega)
    have g1:=Zgg hyg.2.2 (show 1 < y.needs.length by omega)
    have cp:=ZS false (y.needs.drop 2) (by simp;omega)
    have dl:(y.needs.drop 2).length=ctx.length:=by simp;omega
    have dg:∀ u∈y.needs.drop 2,s.G u:=fun u hu=>hyg.2.2 u (List.mem_of_mem_drop hu)
    have us:=used2 (s:=s) (l:=y.needs) (g:=n) (by omega)
    generalize y.needs.getD 0 0=y0 at *
    generalize y.needs.getD 1 0=y1 at *
    obtain ⟨yr,hyr⟩:∃ yr,yr=y.needs.drop 2:=⟨_,rfl⟩
    rw [← hyr] at c2 cp dl dg
    simp (disch:=omega) [Qw,Qs,hz,c2]
    refine Qa cp (by simp) ?_
    simp (disch:=omega) [e512,e55,i1]
    refine Qa (XW t g1 hn) (by simp) ?_
    cases hu1:s.le y1 n
    ·simp (disch:=omega) [i0]
     refine Qk (Qf.low (Xk 9 (by omega))) (by simp) ?_
     rintro r ⟨⟨h3,w1,w2,w4,k4,rfl⟩,lo⟩
     simp (disch:=omega) [us,hu1]
     exact ⟨by omega,w1,w2,w4,k4,by simp⟩
    ·simp (disch:=omega) [i0]
     refine Qa (XW t g0 hn) (by simp) ?_
     cases hu0:s.le y0 n
     ·simp (disch:=omega)
      refine Qk (Qf.low (Xk 9 (by omega))) (by simp) ?_
      rintro r ⟨⟨h3,w1,w2,w4,k4,rfl⟩,lo⟩
      simp (disch:=omega) [us,hu1,hu0]
      exact ⟨by omega,w1,w2,w4,k4,by simp⟩
     ·have zr:=Vw ctx.length (by omega)
      have sc:=Zq t false false (zeros ctx.length) n hn x.needs (by simp [zeros];omega) (by rw [hxg.2.1];simp [zeros]) (VK t _).2 hxg.2.2
      have e1:=Zcz hsy n x.needs
      rw [hxg.2.1] at e1
      rw [e1] at sc
      have so:=Ya t (g:=n) hxg.2.1
      have s2:=Zq t false false (QY s n x.needs) 1 (GSys.G1 t) yr (by rw [so.1];omega) (by rw [so.1,dl]) so.2 dg
      rw [Zag hsy _ _ dg] at s2
      simp (disch:=omega)
      refine Qa zr (by simp) ?_
      simp (disch:=omega)
      refine Qa sc (by simp) ?_
      simp (disch:=omega)
      refine Qa s2 (by simp) ?_
      simp (disch:=omega) [us,hu1,hu0]
      exact ⟨false,true,true,true,by simp [hyr]⟩
 ·have hq:eqB (hd x.ty) 1=false:=by rw [Qc];exact q
  rw [if_neg q]
  simp (disch:=omega) [Yf,Qw,Qs,GTerm.cells,hxi,hq,e55,e58,e512]
  refine Qk (Qf.low (Xk 4 (by omega))) (by simp) ?_
  rintro r ⟨⟨h3,w1,w2,w4,k4,rfl⟩,lo⟩
  simp (disch:=omega)
  exact ⟨by omega,w1,w2,w4,k4,by simp⟩
theorem ZmN (n:Int) (nl1:Bool) (gty:List Int) (nl2:Bool) (a b:GTerm) (x:TT) (n4:Bool) (hn:s.G n) (hxg:x.good s ctx.length) (hA:Qt s (ctx.map Prod.snd) a=.ok x) (hbs:b.size≤1000000)
  (hb:W9 (hd x.ty)=true→Qf Tryz.prog WE [s.lv,LC false ((false,QK x.ty)::ctx),b.lv] (Qt s (QK x.ty::ctx.map Prod.snd) b).told)
  (hbg:W9 (hd x.ty)=true→∀ y,Qt s (QK x.ty::ctx.map Prod.snd) b=.ok y→y.good s (ctx.length+1)) :
  Qf Tryz.prog ZM [s.lv,LC nlc ctx,(GTerm.mk 12 n nl1 gty nl2 [a,b]).lv,aLV x n4] (Qt s (ctx.map Prod.snd) (GTerm.mk 12 n nl1 gty nl2 [a,b])).told:=by
 have t:=GSys.sys_of hsy
 have T:=ZrK (n:=n) (nl1:=nl1) (nl2:=nl2) (gty:=gty) (b:=b) hA hxg.1
 refine Qf.of_codeOf VX Qz (by simp) (Zar _ fun f p h=>ZA _ _ f p h) ?_
 rw [T]
 have hx:=Yj hxg.1
 have hxi:QU 1 (L false x.ty) 0=some (.rp [N (hd x.ty)]):=Jb hx.2.2.2.1
 have e55:eqB 12 5=false:=by rw [Qc];omega
 have e58:eqB 12 8=false:=by rw [Qc];omega
 have e512:eqB 12 12=true:=by rw [Qe]
 have hz:eqB 0 0=true:=by rw [Qe]
 by_cases q:W9 (hd x.ty)=true
 ·have hk:WD (hd x.ty)=some 1:=Zdr q
  have hsg:(QG (hd x.ty)).2=Xc (hd x.ty):=(Kq hx.2.1 hx.2.2.1).2.2.2.2.2 (.inr q)
  have hgc:=Kw hx.1 (.inr q)
  have hgG:s.G (Xc (hd x.ty)):=hgc
  rw [hsg]
  simp (disch:=omega) [Yf,Qw,Qs,GTerm.cells,hxi,e55,e58,e512]
  refine Qa (Znf (hd x.ty)) (by simp) ?_
  simp (disch:=omega) [q]
  refine Qa (XW t (GSys.G1 t) hn) (by simp) ?_
  cases hl:s.le 1 n
  ·simp (disch:=omega)
   refine Qk (Qf.low (Xk 8 (by omega))) (by simp) ?_
   rintro r ⟨⟨h3,w1,w2,w4,k4,rfl⟩,lo⟩
   simp (disch:=omega)
   exact ⟨by omega,w1,w2,w4,k4,by simp⟩
  ·have p0:=XQ hxg.1 0 (.inl hk)
   simp (disch:=omega)
   refine Qa p0 (by simp) ?_
   simp (disch:=omega) [Qo,e55]
   have w:=YP nlc false ctx [(false,QK x.ty)] (by omega) (by simp)
   simp only [List.map_cons,List.map_nil,List.cons_append,List.nil_append] at w
   refine Qa w (by simp) ?_
   have of:=XN s 12 n nl1 gty nl2 [a,b] 1 (by simp) false ((false,QK x.ty)::ctx) _ (WM hbs) (hb q)
   simp only [GTerm.lv,GTerm.cells,List.map_cons] at of
   simp (disch:=omega) [Qo]
   refine Qk (Qf.low of) (by simp) ?_
   rintro r ⟨hr,lo⟩
   cases hB:Qt s (QK x.ty::ctx.map Prod.snd) b with
   | bad f p =>
    rw [hB] at hr
    simp only [ofR] at hr
    obtain ⟨hf,u1,u2,u4,n4',rfl⟩:=hr
    have hf0:eqB f 0=false:=by rw [Qc];exact hf
    simp (disch:=omega) [Qw,Qs,hf0]
    exact ⟨hf,false,false,false,n4',by simp⟩
   | ok y =>
    have hyg:=hbg q y hB
    rw [hB] at hr
    simp only [ofR] at hr
    obtain ⟨u1,u2,u4,n4',rfl⟩:=hr
    have hyl:=hyg.2.1
    have c2:Yq 1 (L false y.needs) (some 1) none none=some (L false (y.needs.drop 1)):=YR (k:=1) (by omega)
    have i0:QU 1 (L false y.needs) 0=some (.rp [N (y.needs.getD 0 0)]):=ZlE (i:=0) (by omega)
    have g0:=Zgg hyg.2.2 (show 0 < y.needs.length by omega)
    have cp:=ZS false (y.needs.drop 1) (by simp;omega)
    have dl:(y.needs.drop 1).length=ctx.length:=by simp;omega
    have dg:∀ u∈y.needs.drop 1,s.G u:=fun u hu=>hyg.2.2 u (List.mem_of_mem_drop hu)
    have us:=used1 (s:=s) (l:=y.needs) (g:=s.tm n (Xc (hd x.ty))) (by omega)
    generalize y.needs.getD 0 0=y0 at *
    obtain ⟨yr,hyr⟩:∃ yr,yr=y.needs.drop 1:=⟨_,rfl⟩
    rw [← hyr] at c2 cp dl dg
    simp (disch:=omega) [Qw,Qs,hz,c2]
    refine Qa cp (by simp) ?_
    simp (disch:=omega) [e512]
    refine Qa (ZcX (hd x.ty) (by unfold I64;omega) hx.2.1) (by simp) ?_
    simp (disch:=omega)
    refine Qa (Zba t hn hgG) (by simp) ?_
    simp (disch:=omega) [i0]
    refine Qa (XW t g0 (GSys.Gtm t _ _)) (by simp) ?_
    cases hu0:s.le y0 (s.tm n (Xc (hd x.ty)))
    ·simp (disch:=omega)
     refine Qk (Qf.low (Xk 9 (by omega))) (by simp) ?_
     rintro r ⟨⟨h3,w1,w2,w4,k4,rfl⟩,lo⟩
     simp (disch:=omega) [us,hu0]
     exact ⟨by omega,w1,w2,w4,k4,by simp⟩
    ·have zr:=Vw ctx.length (by omega)
     have sc:=Zq t false false (zeros ctx.length) n hn x.needs (by simp [zeros];omega) (by rw [hxg.2.1];simp [zeros]) (VK t _).2 hxg.2.2
     have e1:=Zcz hsy n x.needs
     rw [hxg.2.1] at e1
     rw [e1] at sc
     have so:=Ya t (g:=n) hxg.2.1
     have s2:=Zq t false false (QY s n x.needs) 1 (GSys.G1 t) yr (by rw [so.1];omega) (by rw [so.1,dl]) so.2 dg
     rw [Zag hsy _ _ dg] at s2
     simp (disch:=omega)
     refine Qa zr (by simp) ?_
     simp (disch:=omega)
     refine Qa sc (by simp) ?_
     simp (disch:=omega)
     refine Qa s2 (by simp) ?_
     simp (disch:=omega) [us,hu0]
     exact ⟨false,true,true,true,by simp [hyr]⟩
 ·have q':W9 (hd x.ty)=false:=by simpa using q
  rw [if_neg q]
  simp (disch:=omega) [Yf,Qw,Qs,GTerm.cells,hxi,e55,e58,e512]
  refine Qa (Znf (hd x.ty)) (by simp) ?_
  simp (disch:=omega) [q']
  refine Qk (Qf.low (Xk 7 (by omega))) (by simp) ?_
  rintro r ⟨⟨h3,w1,w2,w4,k4,rfl⟩,lo⟩
  simp (disch:=omega)
  exact ⟨by omega,w1,w2,w4,k4,by simp⟩
theorem Zmy (n:Int) (nl1:Bool) (gty:List Int) (nl2:Bool) (a b c:GTerm) (x:TT) (n4:Bool) (hn:s.G n) (hxg:x.good s ctx.length) (hA:Qt s (ctx.map Prod.snd) a=.ok x) (hbs:b.size≤1000000) (hcs:c.size≤1000000)
  (hb:hd x.ty=2→Qf Tryz.prog WE [s.lv,LC false ((false,QK x.ty)::ctx),b.lv] (Qt s (QK x.ty::ctx.map Prod.snd) b).told)
  (hbg:hd x.ty=2→∀ y,Qt s (QK x.ty::ctx.map Prod.snd) b=.ok y→y.good s (ctx.length+1))
  (hc:hd x.ty=2→Qf Tryz.prog WE [s.lv,LC false ((false,WC x.ty)::ctx),c.lv] (Qt s (WC x.ty::ctx.map Prod.snd) c).told)
  (hcg:hd x.ty=2→∀ y,Qt s (WC x.ty::ctx.map Prod.snd) c=.ok y→y.good s (ctx.length+1)) :
  Qf Tryz.prog ZM [s.lv,LC nlc ctx,(GTerm.mk 8 n nl1 gty nl2 [a,b,c]).lv,aLV x n4] (Qt s (ctx.map Prod.snd) (GTerm.mk 8 n nl1 gty nl2 [a,b,c])).told:=by
 have t:=GSys.sys_of hsy
 have T:=Zrq (n:=n) (nl1:=nl1) (nl2:=nl2) (gty:=gty) (b:=b) (c:=c) hA hxg.1
 refine Qf.of_codeOf VX Qz (by simp) (Zar _ fun f p h=>ZA _ _ f p h) ?_
 rw [T]
 have hx:=Yj hxg.1
 have hxi:QU 1 (L false x.ty) 0=some (.rp [N (hd x.ty)]):=Jb hx.2.2.2.1
 have e55:eqB 8 5=false:=by rw [Qc];omega
 have e58:eqB 8 8=true:=by rw [Qe]
 have e512:eqB 8 12=false:=by rw [Qc];omega
 have hz:eqB 0 0=true:=by rw [Qe]
 by_cases q:hd x.ty=2
 ·have hq:eqB (hd x.ty) 2=true:=by rw [Qe];exact q
  have hk:WD (hd x.ty)=some 2:=by rw [q];exact Xt.2
  simp (disch:=omega) [Yf,Qw,Qs,GTerm.cells,hxi,hq,e55,e58,e512]
  refine Qa (XW t (GSys.G1 t) hn) (by simp) ?_
  rw [if_pos q]
  cases hl:s.le 1 n
  ·simp (disch:=omega)
   refine Qk (Qf.low (Xk 8 (by omega))) (by simp) ?_
   rintro r ⟨⟨h3,w1,w2,w4,k4,rfl⟩,lo⟩
   simp (disch:=omega)
   exact ⟨by omega,w1,w2,w4,k4,by simp⟩
  ·have p0:=XQ hxg.1 0 (.inr hk)
   have p1:=XQ hxg.1 1 (.inr hk)
   simp (disch:=omega)
   refine Qa p0 (by simp) ?_
   simp (disch:=omega) [Qo,e55]
   have w:=YP nlc false ctx [(false,QK x.ty)] (by omega) (by simp)
   have w2:=YP nlc false ctx [(false,WC x.ty)] (by omega) (by simp)
   simp only [List.map_cons,List.map_nil,List.cons_append,List.nil_append] at w w2
   refine Qa w (by simp) ?_
   have of:=XN s 8 n nl1 gty nl2 [a,b,c] 1 (by simp) false ((false,QK x.ty)::ctx) _ (WM hbs) (hb q)
   have of2:=XN s 8 n nl1 gty nl2 [a,b,c] 2 (by simp) false ((false,WC x.ty)::ctx) _ (WM hcs) (hc q)
   simp only [GTerm.lv,GTerm.cells,List.map_cons] at of of2
   simp (disch:=omega) [Qo]
   refine Qk (Qf.low of) (by simp) ?_
   rintro r ⟨hr,lo⟩
   cases hB:Qt s (QK x.ty::ctx.map Prod.snd) b with
   | bad f p =>
    rw [hB] at hr
    simp only [ofR] at hr
    obtain ⟨hf,u1,u2,u4,n4',rfl⟩:=hr
    have hf0:eqB f 0=false:=by rw [Qc];exact hf
    simp (disch:=omega) [Qw,Qs,hf0]
    exact ⟨hf,false,false,false,n4',by simp⟩
   | ok y =>
    have hyg:=hbg q y hB
    rw [hB] at hr
    simp only [ofR] at hr
    obtain ⟨u1,u2,u4,n4',rfl⟩:=hr
    have hyl:=hyg.2.1
    have c2:Yq 1 (L false y.needs) (some 1) none none=some (L false (y.needs.drop 1)):=YR (k:=1) (by omega)
    have i0:QU 1 (L false y.needs) 0=some (.rp [N (y.needs.getD 0 0)]):=ZlE (i:=0) (by omega)
    have g0:=Zgg hyg.2.2 (show 0 < y.needs.length by omega)
    have cp:=ZS false (y.needs.drop 1) (by simp;omega)
    have dl:(y.needs.drop 1).length=ctx.length:=by simp;omega
    have dg:∀ u∈y.needs.drop 1,s.G u:=fun u hu=>hyg.2.2 u (List.mem_of_mem_drop hu)
    have us:=used1 (s:=s) (l:=y.needs) (g:=n) (by omega)
    generalize y.needs.getD 0 0=y0 at *
    obtain ⟨yr,hyr⟩:∃ yr,yr=y.needs.drop 1:=⟨_,rfl⟩
    rw [← hyr] at c2 cp dl dg
    simp (disch:=omega) [Qw,Qs,hz,c2]
    refine Qa cp (by simp) ?_
    simp (disch:=omega) [e512,e55,e58]
    refine Qa p1 (by simp) ?_
    simp (disch:=omega) [Qo]
    refine Qa w2 (by simp) ?_
    simp (disch:=omega) [Qo]
    refine Qk (Qf.low of2) (by simp) ?_
    rintro r ⟨hr,lo⟩
    cases hC:Qt s (WC x.ty::ctx.map Prod.snd) c with
    | bad f p =>
     rw [hC] at hr
     simp only [ofR] at hr
     obtain ⟨hf,v1,v2,v4,m4',rfl⟩:=hr
     have hf0:eqB f 0=false:=by rw [Qc];exact hf
     simp (disch:=omega) [Qw,Qs,hf0]
     exact ⟨hf,false,false,false,m4',by simp⟩
    | ok z =>
     have hzg:=hcg q z hC
     rw [hC] at hr
     simp only [ofR] at hr
     obtain ⟨v1,v2,v4,m4',rfl⟩:=hr
     have hzl:=hzg.2.1
     have d2:Yq 1 (L false z.needs) (some 1) none none=some (L false (z.needs.drop 1)):=YR (k:=1) (by omega)
     have j0:QU 1 (L false z.needs) 0=some (.rp [N (z.needs.getD 0 0)]):=ZlE (i:=0) (by omega)
     have k0:=Zgg hzg.2.2 (show 0 < z.needs.length by omega)
     have el:(z.needs.drop 1).length=ctx.length:=by simp;omega
     have eg:∀ u∈z.needs.drop 1,s.G u:=fun u hu=>hzg.2.2 u (List.mem_of_mem_drop hu)
     have vs:=used1 (s:=s) (l:=z.needs) (g:=n) (by omega)
     generalize z.needs.getD 0 0=z0 at *
     obtain ⟨zr,hzr⟩:∃ zr,zr=z.needs.drop 1:=⟨_,rfl⟩
     rw [← hzr] at d2 el eg
     have ly:=QH hyg.1
     simp (disch:=omega) [Qw,Qs,hz]
     have sm:=ZaT false false y.ty z.ty (by omega)
     refine Qa sm (by simp) ?_
     cases he:(y.ty == z.ty)
     ·have he':y.ty≠z.ty:=by simpa using he
      simp (disch:=omega)
      refine Qk (Qf.low (Xk 3 (by omega))) (by simp) ?_
      rintro r ⟨⟨h3,w1,w2,w4,k4,rfl⟩,lo⟩
      simp (disch:=omega) [he']
      exact ⟨by omega,w1,w2,w4,k4,by simp⟩
     ·have he':y.ty=z.ty:=by simpa using he
      simp (disch:=omega) [j0]
      refine Qa (XW t k0 hn) (by simp) ?_
      simp (disch:=omega) [d2]
      have jn:=Zlx t false false yr zr (by omega) (by omega) dg eg
      refine Qa jn (by simp) ?_
      have jl:=ZbU (s:=s) dl el
      have jg:∀ u∈XU s yr zr,s.G u:=fun u hu=>Zi4 hsy u hu dg eg
      cases hv0:s.le z0 n
      ·simp (disch:=omega)
       refine Qk (Qf.low (Xk 9 (by omega))) (by simp) ?_
       rintro r ⟨⟨h3,w1,w2,w4,k4,rfl⟩,lo⟩
       simp (disch:=omega) [us,vs,hv0,he']
       exact ⟨by omega,w1,w2,w4,k4,by simp⟩
      ·simp (disch:=omega) [i0]
       refine Qa (XW t g0 hn) (by simp) ?_
       cases hu0:s.le y0 n
       ·simp (disch:=omega)
        refine Qk (Qf.low (Xk 9 (by omega))) (by simp) ?_
        rintro r ⟨⟨h3,w1,w2,w4,k4,rfl⟩,lo⟩
        simp (disch:=omega) [us,vs,hu0,hv0,he']
        exact ⟨by omega,w1,w2,w4,k4,by simp⟩
       ·have zz:=Vw ctx.length (by omega)
        have sc:=Zq t false false (zeros ctx.length) n hn x.needs (by simp [zeros];omega) (by rw [hxg.2.1];simp [zeros]) (VK t _).2 hxg.2.2
        have e1:=Zcz hsy n x.needs
        rw [hxg.2.1] at e1
        rw [e1] at sc
        have so:=Ya t (g:=n) hxg.2.1
        have s2:=Zq t false false (QY s n x.needs) 1 (GSys.G1 t) (XU s yr zr) (by rw [so.1];omega) (by rw [so.1,jl]) so.2 jg
        rw [Zag hsy _ _ jg] at s2
        simp (disch:=omega)
        refine Qa zz (by simp) ?_
        simp (disch:=omega)
        refine Qa sc (by simp) ?_
        simp (disch:=omega)
        refine Qa s2 (by simp) ?_
        simp (disch:=omega) [us,vs,hu0,hv0,he']
        exact ⟨false,true,true,true,by simp [hyr,hzr,he']⟩
 ·have hq:eqB (hd x.ty) 2=false:=by rw [Qc];exact q
  rw [if_neg q]
  simp (disch:=omega) [Yf,Qw,Qs,GTerm.cells,hxi,hq,e55,e58,e512]
  refine Qk (Qf.low (Xk 5 (by omega))) (by simp) ?_
  rintro r ⟨⟨h3,w1,w2,w4,k4,rfl⟩,lo⟩
  simp (disch:=omega)
  exact ⟨by omega,w1,w2,w4,k4,by simp⟩
end
theorem kids0 {ks:List GTerm} (h:(ks.length:Int)=0):ks=[]:=by cases ks with
 | nil=>rfl
 | cons a l=>simp at h;omega
theorem kids1 {ks:List GTerm} (h:(ks.length:Int)=1):∃ a,ks=[a]:=by
 match ks,h with
 | [a],_=>exact ⟨a,rfl⟩
 | [],h=>simp at h
 | _::_::_,h=>simp at h;omega
theorem ZnD {ks:List GTerm} (h:(ks.length:Int)=2):∃ a b,ks=[a,b]:=by
 match ks,h with
 | [a,b],_=>exact ⟨a,b,rfl⟩
 | [],h=>simp at h
 | [_],h=>simp at h
 | _::_::_::_,h=>simp at h;omega
theorem kids3 {ks:List GTerm} (h:(ks.length:Int)=3):∃ a b c,ks=[a,b,c]:=by
 match ks,h with
 | [a,b,c],_=>exact ⟨a,b,c,rfl⟩
 | [],h=>simp at h
 | [_],h=>simp at h
 | [_,_],h=>simp at h
 | _::_::_::_::_,h=>simp at h;omega
theorem ZnI {s:GSys} {cx:List (List Int)} {op n:Int} {nl1 nl2:Bool} {gty:List Int} {a:GTerm} {ks:List GTerm} {x:TT} (h:Qt s (QC op gty 0 []++cx) a=.ok x) (h2:QO s op n 0 (hd x.ty)≠0) :
  Qt s cx (.mk op n nl1 gty nl2 (a::ks))=.bad (QO s op n 0 (hd x.ty)) []:=by
 have h':Qt s (QC op gty 0 (first [])++cx) a=.ok x:=h
 simp [Qt,Q9,h',h2]
theorem Za3 {ty nd:List Int} {ks:List TT} {r:LV} (h:(Zjd ty nd).told r):(Z4 ty nd ks).told r:=by
 unfold Zjd at h
 unfold Z4
 split at h
 ·rename_i q;rw [if_pos q];exact h
 ·rename_i q;rw [if_neg q];exact h
theorem Zju {s:GSys} (g:Int):∀ (a b:List Int),Zeo s a g b=XZ s a (QY s g b)
 | [],b=>by simp [Zeo,XZ]
 | x::a,[]=>by simp [Zeo,XZ,QY]
 | x::a,y::b=>by
  have:=Zju (s:=s) g a b
  simp only [Zeo,XZ,QY,List.zipWith_cons_cons,List.map_cons] at this ⊢
  rw [this]
structure KidT (s:GSys) (cx:Wz) (k:GTerm):Prop where
 tell:∀ nl,Qf Tryz.prog WE [s.lv,LC nl cx,k.lv] (Qt s (cx.map Prod.snd) k).told
 good:∀ y,Qt s (cx.map Prod.snd) k=.ok y→y.good s cx.length
 small:k.size≤1000000
theorem ZgL {s:GSys} (hsy:s.sys=true) (d:Nat):∀ (g:GTerm) (nlc:Bool) (ctx:Wz),g.size≤d→g.wf→g.fl→(∀ c∈ctx,okL s.size c.2=true)→(∀ c∈ctx,c.1=false)→ctx.length+2 * g.size≤100000→W8 ctx.length s.size true g=true →
  Qf Tryz.prog WE [s.lv,LC nlc ctx,g.lv] (Qt s (ctx.map Prod.snd) g).told:=by
 induction d with
 | zero=>intro g _ _ h;have:=g.size_pos;omega
 | succ d ih =>
  rintro ⟨op,n,nl1,gty,nl2,ks⟩ nlc ctx hsz hw hfl hc hcf hlen hform
  have t:=GSys.sys_of hsy
  have h16:=t.hi
  simp only [W8,Bool.and_eq_true] at hform
  obtain ⟨hnode,hforms⟩:=hform
  have no:=Zdv hnode
  simp only [GTerm.wf] at hw
  obtain ⟨wop,wn,wty,wk,wks⟩:=hw
  simp only [GTerm.fl] at hfl
  obtain ⟨fl1,flk⟩:=hfl
  simp only [GTerm.size] at hsz hlen
  obtain ⟨many,hvar,hgr,hty,o1,o2⟩:=no
  have kid:∀ (i:Nat) (hi:i < ks.length) (more:Wz),more.length=(Qr op i).toNat→(∀ c∈more,okL s.size c.2=true)→(∀ c∈more,c.1=false)→KidT s (more++ctx) ks[i]:=by
   intro i hi more hml hmo hmf
   have ha:=Xw op i
   have hf:=Zh4 hforms i hi
   simp only [Nat.zero_add] at hf
   have hks:=Yi hi
   have e:(((more++ctx).length:Nat):Int)=ctx.length+Qr op i:=by rw [List.length_append];omega
   have hok:∀ c∈more++ctx,okL s.size c.2=true:=fun c h=>(List.mem_append.1 h).elim (hmo c) (hc c)
   have hfl':∀ c∈more++ctx,c.1=false:=fun c h=>(List.mem_append.1 h).elim (hmf c) (hcf c)
   refine ⟨fun nl=>ih ks[i] nl (more++ctx) (by omega) ((ZbR.1 wks) _ (List.getElem_mem hi)) ((ZH.1 flk) _ (List.getElem_mem hi)) hok hfl' (by rw [List.length_append];omega) (by rw [e];exact hf),fun y hy=>?_,by omega⟩
   have:=Kh t ks[i] ((more++ctx).map Prod.snd) y (fun l hl=>by
    obtain ⟨c,h1,rfl⟩:=List.mem_map.1 hl
    exact hok c h1) (by rw [List.length_map,e];exact hf) hy
   rw [List.length_map] at this
   exact this
  have hops:op=0∨op=1∨op=2∨op=3∨op=4∨op=5∨op=6∨op=7∨op=8∨op=9∨op=10∨op=11∨op=12:=by omega
  have hz:eqB 0 0=true:=by rw [Qe]
  have hm:ctx.length≤100000:=by omega
  refine Qf.of_codeOf ZjU Qz (by simp) (Zar _ fun f p h=>ZA _ _ f p h) ?_
  rcases hops with e | e | e | e | e | e | e | e | e | e | e | e | e
  all_goals subst e
  all_goals simp [YT] at many
  ·
   obtain rfl:ks=[]:=by first | exact many | exact kids0 (by omega)
   obtain ⟨v0,v1⟩:=hvar rfl
   obtain ⟨v,rfl⟩:∃ v:Nat,n=v:=⟨n.toNat,by omega⟩
   have hv:v < ctx.length:=by omega
   have hx:=Zcj ctx nlc v hv
   have hxo:=hc _ (List.getElem_mem hv)
   have hxf:=hcf _ (List.getElem_mem hv)
   have hget:(ctx.map Prod.snd).getD v []=ctx[v].2:=by simp [List.getD_eq_getElem?_getD,hv]
   generalize ctx[v]=c at hx hxo hxf hget
   obtain ⟨cf,cl⟩:=c
   simp only at hxo hxf hget
   subst hxf
   have hlen2:=QH hxo
   rw [Zit,show ((v:Int)).toNat=v by omega,hget,List.length_map]
   simp (disch:=omega) [WQ,Qw,Qs,GTerm.cells,hz]
   refine Zg2 (Vw ctx.length (by omega)) (by simp only [Xz,Vt];exact ⟨_,[],rfl,rfl,rfl⟩) (by rintro r rfl;exact Za8 (fun n:Int=>Value.int .i64 n) true false _ (.inr ⟨rfl,rfl⟩)) ?_
   rintro tz y bs rfl hth
   rcases (ZnO (fun n:Int=>Value.int .i64 n)).1 hth with ⟨h0,_,_⟩ | ⟨_,hne,slack,cap,⟨hcap,hsl⟩,rfl,rfl⟩
   ·exfalso
    have h9:=congrArg List.length h0
    rw [show (zeros ctx.length).length=ctx.length by simp [zeros]] at h9
    have h9:ctx.length=0:=h9
    omega
   have hzl:(zeros ctx.length).length=ctx.length:=by simp [zeros]
   clear hth
   have hst:=ZfJ (zeros ctx.length) (List.replicate slack .dead) v 1 (by omega)
   have hsp:=Zhf (zeros ctx.length) (List.replicate slack .dead) v 1 (by omega)
   simp (disch:=omega) [hx,Kn (show v < (zeros ctx.length).length by omega)]
   refine ⟨by omega,?_⟩
   rw [Zmz (xs:=List.take v ((zeros ctx.length).map N++List.replicate slack .dead)++N 1::List.drop (v+1) ((zeros ctx.length).map N++List.replicate slack .dead)) (by simp) (by simp;omega) hcap,hst]
   generalize (zeros ctx.length).set v 1=zz
   simp (disch:=omega) [hx]
   refine Qa (ZS false cl (by omega)) (by simp) ?_
   simp (disch:=omega)
   exact ⟨true,true,true,true,by simp⟩
  ·
   obtain rfl:ks=[]:=by first | exact many | exact kids0 (by omega)
   have e10:eqB 1 0=false:=by rw [Qc];omega
   have e11:eqB 1 1=true:=by rw [Qe]
   rw [tell_num]
   simp (disch:=omega) [WQ,Qw,Qs,GTerm.cells,e10,e11,Qo]
   refine Qa (Vw ctx.length (by omega)) (by simp) ?_
   simp (disch:=omega)
   exact ⟨true,true,true,true,by simp⟩
  ·obtain ⟨a,b,rfl⟩:=ZnD (by omega)
   have ka:=kid 0 (by simp) [] (by simp [Qr]) (by simp) (by simp)
   simp only [List.nil_append,List.getElem_cons_zero] at ka
   have kb:=kid 1 (by simp) [] (by simp [Qr]) (by simp) (by simp)
   simp only [List.nil_append,List.getElem_cons_succ,List.getElem_cons_zero] at kb
   have E:∀ k:Int,k≠2→eqB 2 k=false:=fun k h=>by rw [Qc];omega
   have E2:eqB 2 2=true:=by rw [Qe]
   have a0:QC 2 gty 0 []++ctx.map Prod.snd=ctx.map Prod.snd:=by simp [QC,Qr]
   have of:=XN s 2 n nl1 gty nl2 [a,b] 0 (by simp) nlc ctx _ (WM ka.small) (ka.tell nlc)
   simp only [GTerm.lv,GTerm.cells] at of
   simp (disch:=omega) [WQ,Qw,Qs,GTerm.cells,E,E2]
   refine Qk (Qf.low of) (by simp) ?_
   rintro r ⟨hr,lo⟩
   cases hA:Qt s (ctx.map Prod.snd) a with
   | bad f p =>
    rw [hA] at hr
    simp only [ofR] at hr
    obtain ⟨hf,u1,u2,u4,n4',rfl⟩:=hr
    have hf0:eqB f 0=false:=by rw [Qc];exact hf
    rw [YS (by rw [a0];exact hA)]
    simp (disch:=omega) [Qw,Qs,hf0]
    exact ⟨hf,false,false,false,n4',by simp⟩
   | ok x =>
    have hxg:=ka.good x hA
    rw [hA] at hr
    simp only [ofR] at hr
    obtain ⟨u1,u2,u4,n4',rfl⟩:=hr
    have hx:=Yj hxg.1
    have lx:=QH hxg.1
    have hxi:QU 1 (L false x.ty) 0=some (.rp [N (hd x.ty)]):=Jb hx.2.2.2.1
    by_cases q:hd x.ty=0
    ·have hq:eqB (hd x.ty) 0=true:=by rw [Qe];exact q
     simp (disch:=omega) [Qw,Qs,hz,hxi,hq,E,E2]
     have tk:=ZkV hsy nlc ctx hm n nl1 gty nl2 a b x n4' hxg hA q kb.small (kb.tell nlc) kb.good
     simp only [GTerm.lv,GTerm.cells] at tk
     refine Qk (Qf.low tk) (by simp) ?_
     rintro r ⟨hr,lo⟩
     cases hT:Qt s (ctx.map Prod.snd) (GTerm.mk 2 n nl1 gty nl2 [a,b]) with
     | ok z =>
      rw [hT] at hr
      obtain ⟨v1,v2,v4,m4,rfl⟩:=hr
      simp (disch:=omega)
      exact ⟨v1,v2,v4,m4,by simp⟩
     | bad f p =>
      rw [hT] at hr
      obtain ⟨hf,v1,v2,v4,m4,rfl⟩:=hr
      simp (disch:=omega)
      exact ⟨hf,v1,v2,v4,m4,by simp⟩
    ·have hq:eqB (hd x.ty) 0=false:=by rw [Qc];exact q
     have fo:=fo_add (n:=n) (i:=0) hxg.1
     rw [if_neg q] at fo
     rw [ZnI (by rw [a0];exact hA) (by rw [fo];omega),fo]
     simp (disch:=omega) [Qw,Qs,hz,hxi,hq,E,E2]
     refine Qk (Qf.low (Xk 2 (by omega))) (by simp) ?_
     rintro r ⟨⟨h3,w1,w2,w4,k4,rfl⟩,lo⟩
     simp (disch:=omega)
     exact ⟨by omega,w1,w2,w4,k4,by simp⟩
  ·obtain ⟨a,b,c,rfl⟩:=kids3 (by omega)
   have ka:=kid 0 (by simp) [] (by simp [Qr]) (by simp) (by simp)
   simp only [List.nil_append,List.getElem_cons_zero] at ka
   have kb:=kid 1 (by simp) [] (by simp [Qr]) (by simp) (by simp)
   simp only [List.nil_append,List.getElem_cons_succ,List.getElem_cons_zero] at kb
   have kc:=kid 2 (by simp) [] (by simp [Qr]) (by simp) (by simp)
   simp only [List.nil_append,List.getElem_cons_succ,List.getElem_cons_zero] at kc
   have E:∀ k:Int,k≠3→eqB 3 k=false:=fun k h=>by rw [Qc];omega
   have E2:eqB 3 3=true:=by rw [Qe]
   have a0:QC 3 gty 0 []++ctx.map Prod.snd=ctx.map Prod.snd:=by simp [QC,Qr]
   have of:=XN s 3 n nl1 gty nl2 [a,b,c] 0 (by simp) nlc ctx _ (WM ka.small) (ka.tell nlc)
   simp only [GTerm.lv,GTerm.cells] at of
   simp (disch:=omega) [WQ,Qw,Qs,GTerm.cells,E,E2]
   refine Qk (Qf.low of) (by simp) ?_
   rintro r ⟨hr,lo⟩
   cases hA:Qt s (ctx.map Prod.snd) a with
   | bad f p =>
    rw [hA] at hr
    simp only [ofR] at hr
    obtain ⟨hf,u1,u2,u4,n4',rfl⟩:=hr
    have hf0:eqB f 0=false:=by rw [Qc];exact hf
    rw [YS (by rw [a0];exact hA)]
    simp (disch:=omega) [Qw,Qs,hf0]
    exact ⟨hf,false,false,false,n4',by simp⟩
   | ok x =>
    have hxg:=ka.good x hA
    rw [hA] at hr
    simp only [ofR] at hr
    obtain ⟨u1,u2,u4,n4',rfl⟩:=hr
    have hx:=Yj hxg.1
    have lx:=QH hxg.1
    have hxi:QU 1 (L false x.ty) 0=some (.rp [N (hd x.ty)]):=Jb hx.2.2.2.1
    by_cases q:hd x.ty=0
    ·have hq:eqB (hd x.ty) 0=true:=by rw [Qe];exact q
     simp (disch:=omega) [Qw,Qs,hz,hxi,hq,E,E2]
     have tk:=ZlS hsy nlc ctx hm n nl1 gty nl2 a b c x n4' hxg hA q kb.small kc.small (kb.tell nlc) kb.good (kc.tell nlc) kc.good
     simp only [GTerm.lv,GTerm.cells] at tk
     refine Qk (Qf.low tk) (by simp) ?_
     rintro r ⟨hr,lo⟩
     cases hT:Qt s (ctx.map Prod.snd) (GTerm.mk 3 n nl1 gty nl2 [a,b,c]) with
     | ok z =>
      rw [hT] at hr
      obtain ⟨v1,v2,v4,m4,rfl⟩:=hr
      simp (disch:=omega)
      exact ⟨v1,v2,v4,m4,by simp⟩
     | bad f p =>
      rw [hT] at hr
      obtain ⟨hf,v1,v2,v4,m4,rfl⟩:=hr
      simp (disch:=omega)
      exact ⟨hf,v1,v2,v4,m4,by simp⟩
    ·have hq:eqB (hd x.ty) 0=false:=by rw [Qc];exact q
     have fo:=fo_if0 (n:=n) hxg.1
     rw [if_neg q] at fo
     rw [ZnI (by rw [a0];exact hA) (by rw [fo];omega),fo]
     simp (disch:=omega) [Qw,Qs,hz,hxi,hq,E,E2]
     refine Qk (Qf.low (Xk 2 (by omega))) (by simp) ?_
     rintro r ⟨⟨h3,w1,w2,w4,k4,rfl⟩,lo⟩
     simp (disch:=omega)
     exact ⟨by omega,w1,w2,w4,k4,by simp⟩
  ·obtain ⟨a,b,rfl⟩:=ZnD (by omega)
   have ka:=kid 0 (by simp) [] (by simp [Qr]) (by simp) (by simp)
   simp only [List.nil_append,List.getElem_cons_zero] at ka
   have kb:=kid 1 (by simp) [] (by simp [Qr]) (by simp) (by simp)
   simp only [List.nil_append,List.getElem_cons_succ,List.getElem_cons_zero] at kb
   have E:∀ k:Int,k≠4→eqB 4 k=false:=fun k h=>by rw [Qc];omega
   have E2:eqB 4 4=true:=by rw [Qe]
   have a0:QC 4 gty 0 []++ctx.map Prod.snd=ctx.map Prod.snd:=by simp [QC,Qr]
   have of:=XN s 4 n nl1 gty nl2 [a,b] 0 (by simp) nlc ctx _ (WM ka.small) (ka.tell nlc)
   simp only [GTerm.lv,GTerm.cells] at of
   simp (disch:=omega) [WQ,Qw,Qs,GTerm.cells,E,E2]
   refine Qk (Qf.low of) (by simp) ?_
   rintro r ⟨hr,lo⟩
   cases hA:Qt s (ctx.map Prod.snd) a with
   | bad f p =>
    rw [hA] at hr
    simp only [ofR] at hr
    obtain ⟨hf,u1,u2,u4,n4',rfl⟩:=hr
    have hf0:eqB f 0=false:=by rw [Qc];exact hf
    rw [YS (by rw [a0];exact hA)]
    simp (disch:=omega) [Qw,Qs,hf0]
    exact ⟨hf,false,false,false,n4',by simp⟩
   | ok x =>
    have hxg:=ka.good x hA
    rw [hA] at hr
    simp only [ofR] at hr
    obtain ⟨u1,u2,u4,n4',rfl⟩:=hr
    have hx:=Yj hxg.1
    have lx:=QH hxg.1
    have hxi:QU 1 (L false x.ty) 0=some (.rp [N (hd x.ty)]):=Jb hx.2.2.2.1
    simp (disch:=omega) [Qw,Qs,hz,hxi,E,E2]
    rw [ZrD hA]
    have of2:=XN s 4 n nl1 gty nl2 [a,b] 1 (by simp) nlc ctx _ (WM kb.small) (kb.tell nlc)
    simp only [GTerm.lv,GTerm.cells] at of2
    refine Qk (Qf.low of2) (by simp) ?_
    rintro r ⟨hr,lo⟩
    cases hB:Qt s (ctx.map Prod.snd) b with
    | bad f p =>
     rw [hB] at hr
     simp only [ofR] at hr
     obtain ⟨hf,v1,v2,v4,m4',rfl⟩:=hr
     have hf0:eqB f 0=false:=by rw [Qc];exact hf
     simp (disch:=omega) [Qw,Qs,hf0]
     exact ⟨hf,false,false,false,m4',by simp⟩
    | ok y =>
     have hyg:=kb.good y hB
     rw [hB] at hr
     simp only [ofR] at hr
     obtain ⟨v1,v2,v4,m4',rfl⟩:=hr
     have ly:=QH hyg.1
     have s1:=Zq t false false x.needs 1 (GSys.G1 t) y.needs (by rw [hxg.2.1];omega) (by rw [hxg.2.1,hyg.2.1]) hxg.2.2 hyg.2.2
     rw [Zag hsy _ _ hyg.2.2] at s1
     obtain ⟨z,hzz⟩:∃ z,z=1::(x.ty++y.ty):=⟨_,rfl⟩
     have gl:=XT 1 false false false x.ty y.ty (by omega) (by omega)
     dsimp only
     rw [← hzz] at gl ⊢
     simp (disch:=omega) [Qw,Qs,hz,Qo]
     refine Qa gl (by simp) ?_
     simp (disch:=omega)
     refine Qa s1 (by simp) ?_
     simp (disch:=omega)
     have dn:=Za7 z (XZ s x.needs y.needs)
     refine Qk (Qf.low dn) (by simp) ?_
     rintro r ⟨hr,lo⟩
     have hl:=Za3 (ks:=[x,y]) hr
     unfold Z4 at hl ⊢
     by_cases q9:z.length≤40
     ·rw [if_pos q9] at hl ⊢
      obtain ⟨v1,v2,v4,m4,rfl⟩:=hl
      simp (disch:=omega)
      exact ⟨v1,v2,v4,m4,by simp⟩
     ·rw [if_neg q9] at hl ⊢
      obtain ⟨hf,v1,v2,v4,m4,rfl⟩:=hl
      simp (disch:=omega)
      exact ⟨hf,v1,v2,v4,m4,by simp⟩
  ·obtain ⟨a,b,rfl⟩:=ZnD (by omega)
   have ka:=kid 0 (by simp) [] (by simp [Qr]) (by simp) (by simp)
   simp only [List.nil_append,List.getElem_cons_zero] at ka
   have E:∀ k:Int,k≠5→eqB 5 k=false:=fun k h=>by rw [Qc];omega
   have E2:eqB 5 5=true:=by rw [Qe]
   have a0:QC 5 gty 0 []++ctx.map Prod.snd=ctx.map Prod.snd:=by simp [QC,Qr]
   have of:=XN s 5 n nl1 gty nl2 [a,b] 0 (by simp) nlc ctx _ (WM ka.small) (ka.tell nlc)
   simp only [GTerm.lv,GTerm.cells] at of
   simp (disch:=omega) [WQ,Qw,Qs,GTerm.cells,E,E2]
   refine Qk (Qf.low of) (by simp) ?_
   rintro r ⟨hr,lo⟩
   cases hA:Qt s (ctx.map Prod.snd) a with
   | bad f p =>
    rw [hA] at hr
    simp only [ofR] at hr
    obtain ⟨hf,u1,u2,u4,n4',rfl⟩:=hr
    have hf0:eqB f 0=false:=by rw [Qc];exact hf
    rw [YS (by rw [a0];exact hA)]
    simp (disch:=omega) [Qw,Qs,hf0]
    exact ⟨hf,false,false,false,n4',by simp⟩
   | ok x =>
    have hxg:=ka.good x hA
    rw [hA] at hr
    simp only [ofR] at hr
    obtain ⟨u1,u2,u4,n4',rfl⟩:=hr
    have hx:=Yj hxg.1
    have lx:=QH hxg.1
    have hxi:QU 1 (L false x.ty) 0=some (.rp [N (hd x.ty)]):=Jb hx.2.2.2.1
    have kb:hd x.ty=1→KidT s ([(false,WC x.ty),(false,QK x.ty)]++ctx) b:=fun q=>by
     have two:=JW hxg.1 (by rw [q];exact Xt.1)
     have:=kid 1 (by simp) [(false,WC x.ty),(false,QK x.ty)] (by simp [Qr]) (by simp [two.2.1,two.2.2]) (by simp)
     simpa using this
    have hgn:=hgr (by simp [Z6,Qe])
    simp (disch:=omega) [Qw,Qs,hz,hxi,E,E2]
    have tk:=ZjX hsy nlc ctx hm n nl1 gty nl2 a b x n4' hgn hxg hA (by have:=Yi (ks:=[a,b]) (i:=1) (by simp);simp at this;omega) (fun q=>(kb q).tell false) (fun q y hy=>(kb q).good y hy)
    simp only [GTerm.lv,GTerm.cells] at tk
    refine Qk (Qf.low tk) (by simp) ?_
    rintro r ⟨hr,lo⟩
    cases hT:Qt s (ctx.map Prod.snd) (GTerm.mk 5 n nl1 gty nl2 [a,b]) with
    | ok z =>
     rw [hT] at hr
     obtain ⟨v1,v2,v4,m4,rfl⟩:=hr
     simp (disch:=omega)
     exact ⟨v1,v2,v4,m4,by simp⟩
    | bad f p =>
     rw [hT] at hr
     obtain ⟨hf,v1,v2,v4,m4,rfl⟩:=hr
     simp (disch:=omega)
     exact ⟨hf,v1,v2,v4,m4,by simp⟩
  ·obtain ⟨a,rfl⟩:=kids1 (by omega)
   have ka:=kid 0 (by simp) [] (by simp [Qr]) (by simp) (by simp)
   simp only [List.nil_append,List.getElem_cons_zero] at ka
   have E:∀ k:Int,k≠6→eqB 6 k=false:=fun k h=>by rw [Qc];omega
   have E2:eqB 6 6=true:=by rw [Qe]
   have a0:QC 6 gty 0 []++ctx.map Prod.snd=ctx.map Prod.snd:=by simp [QC,Qr]
   have of:=XN s 6 n nl1 gty nl2 [a] 0 (by simp) nlc ctx _ (WM ka.small) (ka.tell nlc)
   simp only [GTerm.lv,GTerm.cells] at of
   simp (disch:=omega) [WQ,Qw,Qs,GTerm.cells,E,E2]
   refine Qk (Qf.low of) (by simp) ?_
   rintro r ⟨hr,lo⟩
   cases hA:Qt s (ctx.map Prod.snd) a with
   | bad f p =>
    rw [hA] at hr
    simp only [ofR] at hr
    obtain ⟨hf,u1,u2,u4,n4',rfl⟩:=hr
    have hf0:eqB f 0=false:=by rw [Qc];exact hf
    rw [YS (by rw [a0];exact hA)]
    simp (disch:=omega) [Qw,Qs,hf0]
    exact ⟨hf,false,false,false,n4',by simp⟩
   | ok x =>
    have hxg:=ka.good x hA
    rw [hA] at hr
    simp only [ofR] at hr
    obtain ⟨u1,u2,u4,n4',rfl⟩:=hr
    have hx:=Yj hxg.1
    have lx:=QH hxg.1
    have hxi:QU 1 (L false x.ty) 0=some (.rp [N (hd x.ty)]):=Jb hx.2.2.2.1
    have hgt:=hty (by simp [Xy,Qe])
    have lg:=QH hgt
    rw [ZrQ hA]
    obtain ⟨z,hzz⟩:∃ z,z=2::(x.ty++gty):=⟨_,rfl⟩
    have gl:=XT 2 false false nl1 x.ty gty (by omega) (by omega)
    rw [← hzz] at gl ⊢
    simp (disch:=omega) [Qw,Qs,hz,hxi,E,E2,Qo]
    refine Qa gl (by simp) ?_
    simp (disch:=omega)
    have dn:=Za7 z x.needs
    refine Qk (Qf.low dn) (by simp) ?_
    rintro r ⟨hr,lo⟩
    have hl:=Za3 (ks:=[x]) hr
    unfold Z4 at hl ⊢
    by_cases q9:z.length≤40
    ·rw [if_pos q9] at hl ⊢
     obtain ⟨v1,v2,v4,m4,rfl⟩:=hl
     simp (disch:=omega)
     exact ⟨v1,v2,v4,m4,by simp⟩
    ·rw [if_neg q9] at hl ⊢
     obtain ⟨hf,v1,v2,v4,m4,rfl⟩:=hl
     simp (disch:=omega)
     exact ⟨hf,v1,v2,v4,m4,by simp⟩
  ·obtain ⟨a,rfl⟩:=kids1 (by omega)
   have ka:=kid 0 (by simp) [] (by simp [Qr]) (by simp) (by simp)
   simp only [List.nil_append,List.getElem_cons_zero] at ka
   have E:∀ k:Int,k≠7→eqB 7 k=false:=fun k h=>by rw [Qc];omega
   have E2:eqB 7 7=true:=by rw [Qe]
   have a0:QC 7 gty 0 []++ctx.map Prod.snd=ctx.map Prod.snd:=by simp [QC,Qr]
   have of:=XN s 7 n nl1 gty nl2 [a] 0 (by simp) nlc ctx _ (WM ka.small) (ka.tell nlc)
   simp only [GTerm.lv,GTerm.cells] at of
   simp (disch:=omega) [WQ,Qw,Qs,GTerm.cells,E,E2]
   refine Qk (Qf.low of) (by simp) ?_
   rintro r ⟨hr,lo⟩
   cases hA:Qt s (ctx.map Prod.snd) a with
   | bad f p =>
    rw [hA] at hr
    simp only [ofR] at hr
    obtain ⟨hf,u1,u2,u4,n4',rfl⟩:=hr
    have hf0:eqB f 0=false:=by rw [Qc];exact hf
    rw [YS (by rw [a0];exact hA)]
    simp (disch:=omega) [Qw,Qs,hf0]
    exact ⟨hf,false,false,false,n4',by simp⟩
   | ok x =>
    have hxg:=ka.good x hA
    rw [hA] at hr
    simp only [ofR] at hr
    obtain ⟨u1,u2,u4,n4',rfl⟩:=hr
    have hx:=Yj hxg.1
    have lx:=QH hxg.1
    have hxi:QU 1 (L false x.ty) 0=some (.rp [N (hd x.ty)]):=Jb hx.2.2.2.1
    have hgt:=hty (by simp [Xy,Qe])
    have lg:=QH hgt
    rw [Zqb hA]
    obtain ⟨z,hzz⟩:∃ z,z=2::(gty++x.ty):=⟨_,rfl⟩
    have gl:=XT 2 false nl1 false gty x.ty (by omega) (by omega)
    rw [← hzz] at gl ⊢
    simp (disch:=omega) [Qw,Qs,hz,hxi,E,E2,Qo]
    refine Qa gl (by simp) ?_
    simp (disch:=omega)
    have dn:=Za7 z x.needs
    refine Qk (Qf.low dn) (by simp) ?_
    rintro r ⟨hr,lo⟩
    have hl:=Za3 (ks:=[x]) hr
    unfold Z4 at hl ⊢
    by_cases q9:z.length≤40
    ·rw [if_pos q9] at hl ⊢
     obtain ⟨v1,v2,v4,m4,rfl⟩:=hl
     simp (disch:=omega)
     exact ⟨v1,v2,v4,m4,by simp⟩
    ·rw [if_neg q9] at hl ⊢
     obtain ⟨hf,v1,v2,v4,m4,rfl⟩:=hl
     simp (disch:=omega)
     exact ⟨hf,v1,v2,v4,m4,by simp⟩
  ·obtain ⟨a,b,c,rfl⟩:=kids3 (by omega)
   have ka:=kid 0 (by simp) [] (by simp [Qr]) (by simp) (by simp)
   simp only [List.nil_append,List.getElem_cons_zero] at ka
   have E:∀ k:Int,k≠8→eqB 8 k=false:=fun k h=>by rw [Qc];omega
   have E2:eqB 8 8=true:=by rw [Qe]
   have a0:QC 8 gty 0 []++ctx.map Prod.snd=ctx.map Prod.snd:=by simp [QC,Qr]
   have of:=XN s 8 n nl1 gty nl2 [a,b,c] 0 (by simp) nlc ctx _ (WM ka.small) (ka.tell nlc)
   simp only [GTerm.lv,GTerm.cells] at of
   simp (disch:=omega) [WQ,Qw,Qs,GTerm.cells,E,E2]
   refine Qk (Qf.low of) (by simp) ?_
   rintro r ⟨hr,lo⟩
   cases hA:Qt s (ctx.map Prod.snd) a with
   | bad f p =>
    rw [hA] at hr
    simp only [ofR] at hr
    obtain ⟨hf,u1,u2,u4,n4',rfl⟩:=hr
    have hf0:eqB f 0=false:=by rw [Qc];exact hf
    rw [YS (by rw [a0];exact hA)]
    simp (disch:=omega) [Qw,Qs,hf0]
    exact ⟨hf,false,false,false,n4',by simp⟩
   | ok x =>
    have hxg:=ka.good x hA
    rw [hA] at hr
    simp only [ofR] at hr
    obtain ⟨u1,u2,u4,n4',rfl⟩:=hr
    have hx:=Yj hxg.1
    have lx:=QH hxg.1
    have hxi:QU 1 (L false x.ty) 0=some (.rp [N (hd x.ty)]):=Jb hx.2.2.2.1
    have kb:hd x.ty=2→KidT s ([(false,QK x.ty)]++ctx) b:=fun q=>by
     have two:=JW hxg.1 (by rw [q];exact Xt.2)
     have:=kid 1 (by simp) [(false,QK x.ty)] (by simp [Qr]) (by simp [two.2.1,two.2.2]) (by simp)
     simpa using this
    have kc:hd x.ty=2→KidT s ([(false,WC x.ty)]++ctx) c:=fun q=>by
     have two:=JW hxg.1 (by rw [q];exact Xt.2)
     have:=kid 2 (by simp) [(false,WC x.ty)] (by simp [Qr]) (by simp [two.2.1,two.2.2]) (by simp)
     simpa using this
    have hgn:=hgr (by simp [Z6,Qe])
    simp (disch:=omega) [Qw,Qs,hz,hxi,E,E2]
    have tk:=Zmy hsy nlc ctx hm n nl1 gty nl2 a b c x n4' hgn hxg hA (by have:=Yi (ks:=[a,b,c]) (i:=1) (by simp);simp at this;omega) (by have:=Yi (ks:=[a,b,c]) (i:=2) (by simp);simp at this;omega) (fun q=>(kb q).tell false) (fun q y hy=>(kb q).good y hy) (fun q=>(kc q).tell false) (fun q y hy=>(kc q).good y hy)
    simp only [GTerm.lv,GTerm.cells] at tk
    refine Qk (Qf.low tk) (by simp) ?_
    rintro r ⟨hr,lo⟩
    cases hT:Qt s (ctx.map Prod.snd) (GTerm.mk 8 n nl1 gty nl2 [a,b,c]) with
    | ok z =>
     rw [hT] at hr
     obtain ⟨v1,v2,v4,m4,rfl⟩:=hr
     simp (disch:=omega)
     exact ⟨v1,v2,v4,m4,by simp⟩
    | bad f p =>
     rw [hT] at hr
     obtain ⟨hf,v1,v2,v4,m4,rfl⟩:=hr
     simp (disch:=omega)
     exact ⟨hf,v1,v2,v4,m4,by simp⟩
  ·obtain ⟨a,rfl⟩:=kids1 (by omega)
   have hgt:=hty (by simp [Xy,Qe])
   have lg:=QH hgt
   have hn1:nl1=false:=by
    cases hn:nl1 with
    | false=>rfl
    | true=>have:=fl1 hn;subst this;simp at lg
   subst hn1
   have hgn:=hgr (by simp [Z6,Qe])
   have ka:KidT s ([(false,gty)]++ctx) a:=by
    have:=kid 0 (by simp) [(false,gty)] (by simp [Qr]) (by simp [hgt]) (by simp)
    simpa using this
   have E:∀ k:Int,k≠9→eqB 9 k=false:=fun k h=>by rw [Qc];omega
   have E2:eqB 9 9=true:=by rw [Qe]
   have a0:QC 9 gty 0 []++ctx.map Prod.snd=gty::ctx.map Prod.snd:=by simp [QC]
   have of:=XN s 9 n false gty nl2 [a] 0 (by simp) false ((false,gty)::ctx) _ (WM ka.small) (ka.tell false)
   have w:=YP nlc false ctx [(false,gty)] (by omega) (by simp)
   simp only [GTerm.lv,GTerm.cells,List.map_cons,List.map_nil,List.cons_append,List.nil_append] at of w
   simp (disch:=omega) [WQ,Qw,Qs,GTerm.cells,E,E2,Qo]
   refine Qa w (by simp) ?_
   simp (disch:=omega) [E,E2]
   refine Qk (Qf.low of) (by simp) ?_
   rintro r ⟨hr,lo⟩
   cases hA:Qt s (gty::ctx.map Prod.snd) a with
   | bad f p =>
    rw [hA] at hr
    simp only [ofR] at hr
    obtain ⟨hf,u1,u2,u4,n4',rfl⟩:=hr
    have hf0:eqB f 0=false:=by rw [Qc];exact hf
    rw [YS (by rw [a0];exact hA)]
    simp (disch:=omega) [Qw,Qs,hf0]
    exact ⟨hf,false,false,false,n4',by simp⟩
   | ok x =>
    have hxg:=ka.good x hA
    rw [hA] at hr
    simp only [ofR] at hr
    obtain ⟨u1,u2,u4,n4',rfl⟩:=hr
    have lx:=QH hxg.1
    have hxl:x.needs.length=ctx.length+1:=by have:=hxg.2.1;simpa using this
    have c2:Yq 1 (L false x.needs) (some 1) none none=some (L false (x.needs.drop 1)):=YR (k:=1) (by omega)
    have i0:QU 1 (L false x.needs) 0=some (.rp [N (x.needs.getD 0 0)]):=ZlE (i:=0) (by omega)
    have g0:=Zgg hxg.2.2 (show 0 < x.needs.length by omega)
    have cp:=ZS false (x.needs.drop 1) (by simp;omega)
    have us:=used1 (s:=s) (l:=x.needs) (g:=n) (by omega)
    rw [tell_fun hA,us]
    generalize x.needs.getD 0 0=y0 at *
    obtain ⟨yr,hyr⟩:∃ yr,yr=x.needs.drop 1:=⟨_,rfl⟩
    rw [← hyr] at c2 cp ⊢
    obtain ⟨z,hzz⟩:∃ z,z=(3+n)::(gty++x.ty):=⟨_,rfl⟩
    have gl:=XT (3+n) false false false gty x.ty (by omega) (by omega)
    rw [← hzz] at gl ⊢
    have wr:IntKind.i64.wrap (3+n)=3+n:=Qd (by have:=hgn.1;have:=hgn.2;omega)
    simp (disch:=omega) [Qw,Qs,hz,E,E2,i0]
    refine Qa (XW t g0 hgn) (by simp) ?_
    cases hu:s.le y0 n
    ·simp (disch:=omega)
     refine Qk (Qf.low (Xk 9 (by omega))) (by simp) ?_
     rintro r ⟨⟨h3,w1,w2,w4,k4,rfl⟩,lo⟩
     simp (disch:=omega)
     exact ⟨by omega,w1,w2,w4,k4,by simp⟩
    ·simp (disch:=omega) [Qo,wr,c2]
     refine Qa gl (by simp) ?_
     simp (disch:=omega) [c2]
     refine Qa cp (by simp) ?_
     simp (disch:=omega)
     have dn:=Za7 z yr
     refine Qk (Qf.low dn) (by simp) ?_
     rintro r ⟨hr,lo⟩
     have hl:=Za3 (ks:=[x]) hr
     unfold Z4 at hl ⊢
     by_cases q9:z.length≤40
     ·rw [if_pos q9] at hl ⊢
      obtain ⟨v1,v2,v4,m4,rfl⟩:=hl
      simp (disch:=omega)
      exact ⟨v1,v2,v4,m4,by simp⟩
     ·rw [if_neg q9] at hl ⊢
      obtain ⟨hf,v1,v2,v4,m4,rfl⟩:=hl
      simp (disch:=omega)
      exact ⟨hf,v1,v2,v4,m4,by simp⟩
  ·obtain ⟨a,b,rfl⟩:=ZnD (by omega)
   have ka:=kid 0 (by simp) [] (by simp [Qr]) (by simp) (by simp)
   simp only [List.nil_append,List.getElem_cons_zero] at ka
   have kb:=kid 1 (by simp) [] (by simp [Qr]) (by simp) (by simp)
   simp only [List.nil_append,List.getElem_cons_succ,List.getElem_cons_zero] at kb
   have E:∀ k:Int,k≠10→eqB 10 k=false:=fun k h=>by rw [Qc];omega
   have E2:eqB 10 10=true:=by rw [Qe]
   have a0:QC 10 gty 0 []++ctx.map Prod.snd=ctx.map Prod.snd:=by simp [QC,Qr]
   have of:=XN s 10 n nl1 gty nl2 [a,b] 0 (by simp) nlc ctx _ (WM ka.small) (ka.tell nlc)
   simp only [GTerm.lv,GTerm.cells] at of
   simp (disch:=omega) [WQ,Qw,Qs,GTerm.cells,E,E2]
   refine Qk (Qf.low of) (by simp) ?_
   rintro r ⟨hr,lo⟩
   cases hA:Qt s (ctx.map Prod.snd) a with
   | bad f p =>
    rw [hA] at hr
    simp only [ofR] at hr
    obtain ⟨hf,u1,u2,u4,n4',rfl⟩:=hr
    have hf0:eqB f 0=false:=by rw [Qc];exact hf
    rw [YS (by rw [a0];exact hA)]
    simp (disch:=omega) [Qw,Qs,hf0]
    exact ⟨hf,false,false,false,n4',by simp⟩
   | ok x =>
    have hxg:=ka.good x hA
    rw [hA] at hr
    simp only [ofR] at hr
    obtain ⟨u1,u2,u4,n4',rfl⟩:=hr
    have hx:=Yj hxg.1
    have lx:=QH hxg.1
    have hxi:QU 1 (L false x.ty) 0=some (.rp [N (hd x.ty)]):=Jb hx.2.2.2.1
    rw [tell_app hA hxg.1]
    simp (disch:=omega) [Qw,Qs,hz,hxi,E,E2]
    refine Qa (ZnA (hd x.ty)) (by simp) ?_
    cases q:QP (hd x.ty)
    ·simp (disch:=omega)
     refine Qk (Qf.low (Xk 6 (by omega))) (by simp) ?_
     rintro r ⟨⟨h3,w1,w2,w4,k4,rfl⟩,lo⟩
     simp (disch:=omega)
     exact ⟨by omega,w1,w2,w4,k4,by simp⟩
    ·simp (disch:=omega)
     have of2:=XN s 10 n nl1 gty nl2 [a,b] 1 (by simp) nlc ctx _ (WM kb.small) (kb.tell nlc)
     simp only [GTerm.lv,GTerm.cells] at of2
     refine Qk (Qf.low of2) (by simp) ?_
     rintro r ⟨hr,lo⟩
     cases hB:Qt s (ctx.map Prod.snd) b with
     | bad f p =>
      rw [hB] at hr
      simp only [ofR] at hr
      obtain ⟨hf,v1,v2,v4,m4',rfl⟩:=hr
      have hf0:eqB f 0=false:=by rw [Qc];exact hf
      simp (disch:=omega) [Qw,Qs,hf0]
      exact ⟨hf,false,false,false,m4',by simp⟩
     | ok y =>
      have hyg:=kb.good y hB
      rw [hB] at hr
      simp only [ofR] at hr
      obtain ⟨v1,v2,v4,m4',rfl⟩:=hr
      have ly:=QH hyg.1
      have s1:=Zq t false false x.needs 1 (GSys.G1 t) y.needs (by rw [hxg.2.1];omega) (by rw [hxg.2.1,hyg.2.1]) hxg.2.2 hyg.2.2
      rw [Zag hsy _ _ hyg.2.2] at s1
      have hk:=JK q
      have p0:=XQ hxg.1 0 (.inr hk)
      have p1:=XQ hxg.1 1 (.inr hk)
      have hsg:(QG (hd x.ty)).2=Xc (hd x.ty):=(Kq hx.2.1 hx.2.2.1).2.2.2.2.2 (.inl q)
      have hgG:s.G (Xc (hd x.ty)):=Kw hx.1 (.inl q)
      simp (disch:=omega) [Qw,Qs,hz,Qo]
      refine Qa p0 (by simp) ?_
      simp (disch:=omega)
      refine Qa (ZaT false false y.ty (QK x.ty) (by omega)) (by simp) ?_
      cases he:(y.ty == QK x.ty)
      ·have he':y.ty≠QK x.ty:=by simpa using he
       simp (disch:=omega)
       refine Qk (Qf.low (Xk 3 (by omega))) (by simp) ?_
       rintro r ⟨⟨h3,w1,w2,w4,k4,rfl⟩,lo⟩
       simp (disch:=omega) [he']
       exact ⟨by omega,w1,w2,w4,k4,by simp⟩
      ·have he':y.ty=QK x.ty:=by simpa using he
       simp (disch:=omega)
       refine Qa p1 (by simp) ?_
       simp (disch:=omega) [hxi]
       refine Qa (ZcX (hd x.ty) (by unfold I64;omega) hx.2.1) (by simp) ?_
       simp (disch:=omega)
       have s3:=Zq t false false x.needs (Xc (hd x.ty)) hgG y.needs (by rw [hxg.2.1];omega) (by rw [hxg.2.1,hyg.2.1]) hxg.2.2 hyg.2.2
       rw [Zju] at s3
       refine Qa s3 (by simp) ?_
       simp (disch:=omega) [he',hsg]
       exact ⟨true,true,true,true,by simp⟩
  ·obtain ⟨a,rfl⟩:=kids1 (by omega)
   have ka:=kid 0 (by simp) [] (by simp [Qr]) (by simp) (by simp)
   simp only [List.nil_append,List.getElem_cons_zero] at ka
   have E:∀ k:Int,k≠11→eqB 11 k=false:=fun k h=>by rw [Qc];omega
   have E2:eqB 11 11=true:=by rw [Qe]
   have a0:QC 11 gty 0 []++ctx.map Prod.snd=ctx.map Prod.snd:=by simp [QC,Qr]
   have of:=XN s 11 n nl1 gty nl2 [a] 0 (by simp) nlc ctx _ (WM ka.small) (ka.tell nlc)
   simp only [GTerm.lv,GTerm.cells] at of
   simp (disch:=omega) [WQ,Qw,Qs,GTerm.cells,E,E2]
   refine Qk (Qf.low of) (by simp) ?_
   rintro r ⟨hr,lo⟩
   cases hA:Qt s (ctx.map Prod.snd) a with
   | bad f p =>
    rw [hA] at hr
    simp only [ofR] at hr
    obtain ⟨hf,u1,u2,u4,n4',rfl⟩:=hr
    have hf0:eqB f 0=false:=by rw [Qc];exact hf
    rw [YS (by rw [a0];exact hA)]
    simp (disch:=omega) [Qw,Qs,hf0]
    exact ⟨hf,false,false,false,n4',by simp⟩
   | ok x =>
    have hxg:=ka.good x hA
    rw [hA] at hr
    simp only [ofR] at hr
    obtain ⟨u1,u2,u4,n4',rfl⟩:=hr
    have hx:=Yj hxg.1
    have lx:=QH hxg.1
    have hxi:QU 1 (L false x.ty) 0=some (.rp [N (hd x.ty)]):=Jb hx.2.2.2.1
    have hgn:=hgr (by simp [Z6,Qe])
    rw [tell_box hA]
    obtain ⟨z,hzz⟩:∃ z,z=(19+n)::x.ty:=⟨_,rfl⟩
    have gl:=Zbq (19+n) false false x.ty (by omega)
    rw [← hzz] at gl ⊢
    have zr:=Vw ctx.length (by omega)
    have sc:=Zq t false false (zeros ctx.length) n hgn x.needs (by simp [zeros];omega) (by rw [hxg.2.1];simp [zeros]) (VK t _).2 hxg.2.2
    have e1:=Zcz hsy n x.needs
    rw [hxg.2.1] at e1
    rw [e1] at sc
    have wr:IntKind.i64.wrap (19+n)=19+n:=Qd (by have:=hgn.1;have:=hgn.2;omega)
    simp (disch:=omega) [Qw,Qs,hz,hxi,E,E2,Qo,wr]
    refine Qa gl (by simp) ?_
    simp (disch:=omega)
    refine Qa zr (by simp) ?_
    simp (disch:=omega)
    refine Qa sc (by simp) ?_
    simp (disch:=omega)
    have dn:=Za7 z (QY s n x.needs)
    refine Qk (Qf.low dn) (by simp) ?_
    rintro r ⟨hr,lo⟩
    have hl:=Za3 (ks:=[x]) hr
    unfold Z4 at hl ⊢
    by_cases q9:z.length≤40
    ·rw [if_pos q9] at hl ⊢
     obtain ⟨v1,v2,v4,m4,rfl⟩:=hl
     simp (disch:=omega)
     exact ⟨v1,v2,v4,m4,by simp⟩
    ·rw [if_neg q9] at hl ⊢
     obtain ⟨hf,v1,v2,v4,m4,rfl⟩:=hl
     simp (disch:=omega)
     exact ⟨hf,v1,v2,v4,m4,by simp⟩
  ·obtain ⟨a,b,rfl⟩:=ZnD (by omega)
   have ka:=kid 0 (by simp) [] (by simp [Qr]) (by simp) (by simp)
   simp only [List.nil_append,List.getElem_cons_zero] at ka
   have E:∀ k:Int,k≠12→eqB 12 k=false:=fun k h=>by rw [Qc];omega
   have E2:eqB 12 12=true:=by rw [Qe]
   have a0:QC 12 gty 0 []++ctx.map Prod.snd=ctx.map Prod.snd:=by simp [QC,Qr]
   have of:=XN s 12 n nl1 gty nl2 [a,b] 0 (by simp) nlc ctx _ (WM ka.small) (ka.tell nlc)
   simp only [GTerm.lv,GTerm.cells] at of
   simp (disch:=omega) [WQ,Qw,Qs,GTerm.cells,E,E2]
   refine Qk (Qf.low of) (by simp) ?_
   rintro r ⟨hr,lo⟩
   cases hA:Qt s (ctx.map Prod.snd) a with
   | bad f p =>
    rw [hA] at hr
    simp only [ofR] at hr
    obtain ⟨hf,u1,u2,u4,n4',rfl⟩:=hr
    have hf0:eqB f 0=false:=by rw [Qc];exact hf
    rw [YS (by rw [a0];exact hA)]
    simp (disch:=omega) [Qw,Qs,hf0]
    exact ⟨hf,false,false,false,n4',by simp⟩
   | ok x =>
    have hxg:=ka.good x hA
    rw [hA] at hr
    simp only [ofR] at hr
    obtain ⟨u1,u2,u4,n4',rfl⟩:=hr
    have hx:=Yj hxg.1
    have lx:=QH hxg.1
    have hxi:QU 1 (L false x.ty) 0=some (.rp [N (hd x.ty)]):=Jb hx.2.2.2.1
    have kb:W9 (hd x.ty)=true→KidT s ([(false,QK x.ty)]++ctx) b:=fun q=>by
     have two:=ZhO hxg.1 (Zdr q)
     have:=kid 1 (by simp) [(false,QK x.ty)] (by simp [Qr]) (by simp [two.2.2]) (by simp)
     simpa using this
    have hgn:=hgr (by simp [Z6,Qe])
    simp (disch:=omega) [Qw,Qs,hz,hxi,E,E2]
    have tk:=ZmN hsy nlc ctx hm n nl1 gty nl2 a b x n4' hgn hxg hA (by have:=Yi (ks:=[a,b]) (i:=1) (by simp);simp at this;omega) (fun q=>(kb q).tell false) (fun q y hy=>(kb q).good y hy)
    simp only [GTerm.lv,GTerm.cells] at tk
    refine Qk (Qf.low tk) (by simp) ?_
    rintro r ⟨hr,lo⟩
    cases hT:Qt s (ctx.map Prod.snd) (GTerm.mk 12 n nl1 gty nl2 [a,b]) with
    | ok z =>
     rw [hT] at hr
     obtain ⟨v1,v2,v4,m4,rfl⟩:=hr
     simp (disch:=omega)
     exact ⟨v1,v2,v4,m4,by simp⟩
    | bad f p =>
     rw [hT] at hr
     obtain ⟨hf,v1,v2,v4,m4,rfl⟩:=hr
     simp (disch:=omega)
     exact ⟨hf,v1,v2,v4,m4,by simp⟩
theorem ZjP {s:GSys} (hsw:s.wf) (g:GTerm) (hw:g.wf) (n:Int) (hn:I64 n):Qf Tryz.prog ZaC [s.lv,g.lv,N n] (·=B (s.sys && g.termB s.size n)):=by
 refine Qf.of_codeOf Zj4 Qz (by simp) ⟨_,rfl,by simp⟩ ?_
 simp (disch:=omega) [Zd6,Qw,Qs]
 refine Qa (Jp s hsw) (by simp) ?_
 cases hs:s.sys
 ·simp (disch:=omega)
 ·have t:=GSys.sys_of hs
  have h2:=t.lo;have h16:=t.hi
  simp (disch:=omega)
  refine Qa (Zfi n 0 8) (by simp) ?_
  cases hr:Q4 n 0 8
  ·simp (disch:=omega) [GTerm.termB,hr]
  ·rw [Q5] at hr
   have hr':Q4 n 0 8=true:=by rw [Q5];exact hr
   have hl:=Zgu g.size g (by omega) hw 400 (by omega) (by omega)
   have h2':leB 0 (KU g.size 400)=decide (g.size≤400):=by
    rw [Bool.eq_iff_iff]
    simp only [Qi,Qg,Ql,Qj,Qe,Qc,Bool.not_true,Bool.not_false,KU,decide_eq_true_eq]
    split<;>omega
   simp (disch:=omega)
   refine Qa hl (by simp) ?_
   by_cases hsz:g.size≤400
   ·have hI:I64 s.size:=⟨by omega,by omega⟩
    have hf:=ZrA s.size true hI g.size g (by omega) hw n (by omega) (by omega)
    simp (disch:=omega) [h2',hsz]
    refine Qa hf (by simp) ?_
    simp (disch:=omega) [GTerm.termB,hr',hsz]
   ·simp (disch:=omega) [h2',hsz,GTerm.termB]
theorem Zpc {s:GSys} {ctx:Wz} {g:GTerm} (a:Arg s ctx g) (nlc:Bool):Qf Tryz.prog V8 [s.lv,LC nlc ctx,g.lv] (·=B (inB s ctx g)):=by
 refine Qf.of_codeOf Ziv Qz (by simp) ⟨_,rfl,by simp⟩ ?_
 simp (disch:=omega) [Zdi,Qw,Qs]
 refine Qa (Jp s a.sw) (by simp) ?_
 cases hs:s.sys
 ·simp (disch:=omega) [inB,hs]
 ·have t:=GSys.sys_of hs
  simp (disch:=omega)
  refine Qa (Zl6 s t nlc ctx a.cw) (by simp) ?_
  cases hc:Ze1 s.size ctx
  ·simp (disch:=omega) [inB,hs,hc]
  ·simp (disch:=omega)
   have it:=ZjP a.sw g a.gw ctx.length (Zk3 a.cw)
   rw [hs] at it
   refine Qa it (by simp) ?_
   simp (disch:=omega) [inB,hs,hc]
def Zl2 (x:Option TT) (r:LV):Prop:=match x with
 | some x=>∃ u1 u2,r=.tup [OU u1 false x.ty,OU u2 false x.needs,B true]
 | none=>∃ u1 u2,r=.tup [.sl u1 true 1 [],.sl u2 true 1 [],B false]
theorem ZkE {s:GSys} {ctx:Wz} {g:GTerm} (a:Arg s ctx g) (nlc:Bool):Qf Tryz.prog Zaz [s.lv,LC nlc ctx,g.lv] (Zl2 (ZD s ctx g)):=by
 refine Qf.of_codeOf Zj7 Qz (by simp) ?_ ?_
 ·cases h:ZD s ctx g with
  | some x=>exact ⟨.tup [OU true false x.ty,OU true false x.needs,B true],⟨true,true,rfl⟩,by simp⟩
  | none=>exact ⟨.tup [.sl false true 1 [],.sl false true 1 [],B false],⟨false,false,rfl⟩,by simp⟩
 simp (disch:=omega) [ZdS,Qw,Qs]
 refine Qa (Zpc a nlc) (by simp) ?_
 cases hin:inB s ctx g
 ·have hx:ZD s ctx g=none:=by simp [ZD,hin]
  rw [hx]
  simp (disch:=omega) [Zl2]
 ·have hin':=hin
  unfold inB at hin'
  simp only [Bool.and_eq_true] at hin'
  obtain ⟨hs,hc,ht⟩:=hin'
  obtain ⟨f1,f2,f3⟩:=a.flags hc
  unfold GTerm.termB at ht
  simp only [Bool.and_eq_true,decide_eq_true_eq] at ht
  have tl:=ZgL hs g.size g nlc ctx (Nat.le_refl _) a.gw a.gf f1 f2 (by omega) ht.2.2
  simp (disch:=omega)
  refine Qk (Qf.low tl) (by simp) ?_
  rintro r ⟨hr,lo⟩
  cases hT:Qt s (ctx.map Prod.snd) g with
  | ok x =>
   have hx:ZD s ctx g=some x:=by simp [ZD,hin,hT]
   rw [hT] at hr
   obtain ⟨u1,u2,u4,n4,rfl⟩:=hr
   have hz:eqB 0 0=true:=by rw [Qe]
   rw [hx]
   simp (disch:=omega) [Qw,Qs,hz,Zl2]
  | bad f p =>
   have hx:ZD s ctx g=none:=by simp [ZD,hin,hT]
   rw [hT] at hr
   obtain ⟨hf,u1,u2,u4,n4,rfl⟩:=hr
   have hf0:eqB f 0=false:=by rw [Qc];exact hf
   rw [hx]
   simp (disch:=omega) [Qw,Qs,hf0,Zl2]
theorem ZpN {s:GSys} {ctx:Wz} {g:GTerm} (a:Arg s ctx g) (nlc:Bool):Qf Tryz.prog VJ [s.lv,LC nlc ctx,g.lv] (·=B (ZD s ctx g).isSome):=by
 refine Qf.of_codeOf Zja Qz (by simp) ⟨_,rfl,by simp⟩ ?_
 simp (disch:=omega) [Zdc,Qw,Qs]
 refine Qk (Qf.low (ZkE a nlc)) (by simp) ?_
 rintro r ⟨hr,lo⟩
 cases hx:ZD s ctx g with
 | none =>
  rw [hx] at hr
  obtain ⟨u1,u2,rfl⟩:=hr
  simp (disch:=omega)
 | some x =>
  rw [hx] at hr
  obtain ⟨u1,u2,rfl⟩:=hr
  simp (disch:=omega)
attribute [local simp low] Xi
attribute [local simp] ZeU Zev Zek ZeY Zel ZeQ
set_option linter.unusedSectionVars false
abbrev OF (l:List Int):LV:=.sl (!l.isEmpty) l.isEmpty 1 (l.map fun n=>[N n])
theorem b4:W9 4=false∧QP 4=true:=by decide
mutual
def GTerm.ownC:GTerm→List LV
 | .mk op n _ ty _ ks=>[N op,N n,OF ty,.sl (!ks.isEmpty) ks.isEmpty 4 (Zca ks)]
def Zca:List GTerm→List (List LV)
 | []=>[]
 | k::ks=>k.ownC::Zca ks
end
mutual
def GTerm.nm:GTerm→GTerm
 | .mk op n _ ty _ ks=>.mk op n ty.isEmpty ty ks.isEmpty (nms ks)
def nms:List GTerm→List GTerm
 | []=>[]
 | k::ks=>k.nm::nms ks
end
theorem Zou:∀ ks:List GTerm,Zca ks=ks.map GTerm.ownC
 | []=>by simp [Zca]
 | k::ks=>by simp [Zca,Zou ks]
theorem Zpf:∀ ks:List GTerm,nms ks=ks.map GTerm.nm
 | []=>by simp [nms]
 | k::ks=>by simp [nms,Zpf ks]
@[simp] theorem ownCs_length (ks:List GTerm):(Zca ks).length=ks.length:=by simp [Zou]
@[simp] theorem ZiD (ks:List GTerm):(nms ks).length=ks.length:=by simp [Zpf]
theorem Zdq (ks:List GTerm):(nms ks).isEmpty=ks.isEmpty:=by cases ks<;>simp [nms]
@[simp] theorem ownC_length (t:GTerm):t.ownC.length=4:=by cases t;simp [GTerm.ownC]
@[simp] theorem take_ownC (t:GTerm):t.ownC.take 4=t.ownC:=List.take_of_length_le (by simp)
@[simp] theorem alive_ownC (t:GTerm):Wh t.ownC=true:=by cases t;simp [GTerm.ownC]
mutual
theorem ZiX:∀ t:GTerm,shareAll t.ownC=t.nm.cells
 | .mk op n nl1 ty nl2 ks=>by
  simp only [GTerm.ownC,GTerm.nm,GTerm.cells,shareAll,share,ZcH ks]
  congr 3
  simp
theorem ZcH:∀ ks:List GTerm,Qq (Zca ks)=QM (nms ks)
 | []=>by simp [Zca,nms,QM,Qq]
 | k::ks=>by simp only [Zca,nms,QM,Qq,ZiX k,ZcH ks]
end
attribute [simp] ZiX ZcH
mutual
theorem Zo7 (k:Nat):∀ t:GTerm,QA k t.ownC
 | .mk op n nl1 ty nl2 ks=>by
  have:=ZgS k ks
  simp [GTerm.ownC,this]
theorem ZgS (k:Nat):∀ ks:List GTerm,We k (Zca ks)
 | []=>by simp [Zca]
 | t::ks=>by simp [Zca,Zo7 k t,ZgS k ks]
end
attribute [simp] Zo7 ZgS
mutual
theorem Zbt:∀ a:GTerm,a.nm.size=a.size
 | .mk op n nl1 ty nl2 ks=>by simp [GTerm.nm,GTerm.size,Zli ks]
theorem Zli:∀ a:List GTerm,WV (nms a)=WV a
 | []=>by simp [nms,WV]
 | a::a'=>by simp [nms,WV,Zbt a,Zli a']
end
mutual
theorem wf_nm:∀ a:GTerm,a.wf→a.nm.wf
 | .mk op n nl1 ty nl2 ks,h=>by
  simp only [GTerm.wf,GTerm.nm] at *
  exact ⟨h.1,h.2.1,h.2.2.1,by rw [ZiD];exact h.2.2.2.1,Zq8 ks h.2.2.2.2⟩
theorem Zq8:∀ a:List GTerm,wfs a→wfs (nms a)
 | [],_=>by simp [nms,wfs]
 | a::a',h=>by
  simp only [wfs,nms] at *
  exact ⟨wf_nm a h.1,Zq8 a' h.2⟩
end
mutual
theorem ZbD {nv size:Int} {closed:Bool}:∀ a:GTerm,W8 nv size closed a.nm=W8 nv size closed a
 | .mk op n nl1 ty nl2 ks=>by simp [GTerm.nm,W8,ZnK ks]
theorem ZnK {nv size:Int} {closed:Bool} {op:Int} {k:Nat}:∀ a:List GTerm,W5 nv size closed op k (nms a)=W5 nv size closed op k a
 | []=>by simp [nms,W5]
 | a::a'=>by simp [nms,W5,ZbD a,ZnK a']
end
end Go.Proofs.YthdkhhebanogbaaGreat
namespace Go.TL
mutual
def nz:LV→LV
 | .sc v=>.sc v
 | .sl u nl sz xs=>if nl && xs.isEmpty then .sl false true 0 [] else .sl u nl sz (ZaS xs)
 | .ha l sz off n cap=>.ha l sz off n cap
 | .raw sz=>.raw sz
 | .ptr l o=>.ptr l o
 | .rp xs=>.rp (Y6 xs)
 | .fn f caps=>.fn f (Y6 caps)
 | .fnm f first=>.fnm f (Y6 first)
 | .agg xs=>.agg (Y6 xs)
 | .tup xs=>.tup (Y6 xs)
 | .dead=>.dead
 | .both u t=>.both u (nz t)
def Y6:List LV→List LV
 | []=>[]
 | x::xs=>nz x::Y6 xs
def ZaS:List (List LV)→List (List LV)
 | []=>[]
 | x::xs=>Y6 x::ZaS xs
end
theorem Vs:∀ xs:List LV,(Y6 xs).length=xs.length
 | []=>rfl
 | _::xs=>by simp only [Y6,List.length_cons,Vs xs]
theorem Vr:∀ xs:List (List LV),(ZaS xs).length=xs.length
 | []=>rfl
 | _::xs=>by simp only [ZaS,List.length_cons,Vr xs]
theorem ZrS:∀ xs:List (List LV),ZaS xs=[] ↔ xs=[]
 | []=>by simp [ZaS]
 | _::xs=>by simp [ZaS]
mutual
theorem Zi0 (A:GM) (μ:List Nat):∀ (x:LV) (v:Value) (O:List Own),Rep A μ (nz x) v O ↔ Rep A μ x v O
 | .sc u,v,O=>by simp only [nz]
 | .sl u nl sz xs,v,O=>by
  by_cases h:(nl && xs.isEmpty)=true
  ·have h':=h
   simp only [Bool.and_eq_true,List.isEmpty_iff] at h'
   obtain ⟨rfl,rfl⟩:=h'
   simp only [nz,h,if_true,Rep,Bool.true_eq_false,false_and,or_false]
  ·simp only [nz,if_neg h,Rep,Vr,ZrS,Zlu A μ xs]
 | .ha l sz off n cap,v,O=>by simp only [nz]
 | .raw sz,v,O=>by simp only [nz]
 | .ptr l o,v,O=>by simp only [nz]
 | .rp xs,v,O=>by simp only [nz,Rep,Zdj A μ xs]
 | .fn f caps,v,O=>by simp only [nz,Rep,Jw A μ caps]
 | .fnm f first,v,O=>by simp only [nz,Rep,Jw A μ first]
 | .agg xs,v,O=>by simp only [nz,Rep,Jw A μ xs]
 | .tup xs,v,O=>by simp only [nz,Rep,Jw A μ xs]
 | .dead,v,O=>by simp only [nz]
 | .both u t,v,O=>by simp only [nz,Rep,Zi0 A μ t]
theorem Zlu (A:GM) (μ:List Nat):∀ (xs:List (List LV)) (sz b off:Nat) (O:List Own),Qx A μ (ZaS xs) sz b off O ↔ Qx A μ xs sz b off O
 | [],sz,b,off,O=>by simp only [ZaS]
 | x::xs,sz,b,off,O=>by simp only [ZaS,Qx,Vs,Zdj A μ x,Zlu A μ xs]
theorem Zdj (A:GM) (μ:List Nat):∀ (xs:List LV) (b off:Nat) (O:List Own),Qv A μ (Y6 xs) b off O ↔ Qv A μ xs b off O
 | [],b,off,O=>by simp only [Y6]
 | x::xs,b,off,O=>by simp only [Y6,Qv,Zi0 A μ x,Zdj A μ xs]
theorem Jw (A:GM) (μ:List Nat):∀ (xs:List LV) (vs:List Value) (O:List Own),Qb A μ (Y6 xs) vs O ↔ Qb A μ xs vs O
 | [],vs,O=>by simp only [Y6]
 | x::xs,vs,O=>by simp only [Y6,Qb,Zi0 A μ x,Jw A μ xs]
end
theorem QN.nz {P:Program} {f:FuncId} {args args':List LV} {h:List Box} {R:LV→List Box→Prop} (c:QN P f args' h R) (e:Y6 args=Y6 args'):QN P f args h R:=by
 obtain ⟨h1,h2,h3⟩:=c
 refine ⟨h1,h2,fun w A μ OH vals Oa hv hi=>h3 w A μ OH vals Oa ?_ hi⟩
 rw [← Jw,← e,Jw]
 exact hv
theorem Qf.nz {P:Program} {f:FuncId} {args args':List LV} {R:LV→Prop} (c:Qf P f args' R) (e:Y6 args=Y6 args'):Qf P f args R:=QN.nz c e
theorem QN.nzR {P:Program} {f:FuncId} {args:List LV} {h:List Box} {R R':LV→List Box→Prop} (c:QN P f args h R) (hr:∀ r h',R r h'→∃ r',Go.TL.nz r'=Go.TL.nz r∧R' r' h'):QN P f args h R':=by
 obtain ⟨h1,⟨r,h',hR⟩,h2⟩:=c
 obtain ⟨r',_,hR'⟩:=hr r h' hR
 refine ⟨h1,⟨r',h',hR'⟩,fun w A μ OH vals Oa hv hi=>(h2 w A μ OH vals Oa hv hi).mono fun e w' he=>?_⟩
 obtain ⟨v,r,h',B,ν,OH',O',g1,g2,g3,g4⟩:=he
 obtain ⟨r',he',hR'⟩:=hr r h' g2
 exact ⟨v,r',h',B,ν,OH',O',g1,hR',(by rw [← Zi0,he',Zi0];exact g3),g4⟩
def idxT (sz:Nat) (v:LV) (i:Int):Option LV :=
 match v with
 | .sl _ _ sz' xs=>if sz'=sz∧0≤i∧i < xs.length then some (.rp (xs.getD i.toNat [])) else none
 | _=>none
@[simp] theorem step_indexT {s:St} {d sz:Nat} {x i:X}:step (.indexT d sz x i) s=((intOf (get s.t i)).bind (idxT sz (get s.t x))).map ((s.give x).put d):=by
 simp only [step]
 cases hi:intOf (get s.t i) with
 | none=>cases get s.t x<;>simp
 | some i=>cases get s.t x<;>simp [idxT]<;>(try split)<;>simp_all
@[simp] theorem step_loadT {s:St} {d sz:Nat} {ag:Bool} {x:X}:step (.loadT d ag sz x) s=(rdLV ag sz (get s.t x)).map ((s.give x).put d):=by
 simp only [step,rdLV]
 cases get s.t x<;>simp
 split
 ·split<;>simp_all
 ·simp_all
@[simp] theorem idxT_sl {u nl:Bool} {sz:Nat} {xs:List (List LV)} {i:Int} (h:0≤i∧i < xs.length):idxT sz (.sl u nl sz xs) i=some (.rp (xs.getD i.toNat [])):=by
 simp [idxT,h.1,h.2]
theorem Zpm {P:Program} {sz d:Nat} {f:FuncId} {u:Bool} {z:Nat} {nil2:Bool} {ys:List (List LV)} {K:St→Prop} {s:St} (hne:ys≠[]) (hm:ys.length≤most)
  (hk:∀ cap slack,ys.length≤cap→ys.length * sz+slack=cap * sz→K { t:=upd s.t d (.ha s.h.length sz 0 ys.length cap),h:=s.h++[some (ys.flatten++List.replicate slack .dead)] }) :
  YY P (.ap sz) f [.sl u true z [],.sl false nil2 sz ys] (some d) K s :=
 ⟨_,nil2,ys,rfl,hne,.inl ⟨u,z,rfl,hm,hk⟩⟩
theorem Zpj {P:Program} {sz d:Nat} {f:FuncId} {l n cap:Nat} {nil2:Bool} {xs:List LV} {ys:List (List LV)} {K:St→Prop} {s:St} (hne:ys≠[]) (hl:s.h[l]?=some (some xs)) (hx:xs.length=cap * sz) (hn:n≤cap) (hm:n+ys.length≤most)
  (hin:n+ys.length≤cap→K { t:=upd s.t d (.ha l sz 0 (n+ys.length) cap),h:=s.h.set l (some (splice xs (n * sz) ys.flatten)) })
  (hout:cap < n+ys.length→∀ cap' slack,n+ys.length≤cap'→(n+ys.length) * sz+slack=cap' * sz→K { t:=upd s.t d (.ha s.h.length sz 0 (n+ys.length) cap'),h:=s.h.set l (some (List.replicate xs.length .dead))++[some (xs.take (n * sz)++ys.flatten++List.replicate slack .dead)] }) :
  YY P (.ap sz) f [.ha l sz 0 n cap,.sl false nil2 sz ys] (some d) K s :=
 ⟨_,nil2,ys,rfl,hne,.inr ⟨l,n,cap,xs,rfl,hl,hx,hn,hm,hin,hout⟩⟩
end Go.TL
namespace Go.Proofs.YthdkhhebanogbaaGreat
open Go Go.TL
open Go.Proofs.YthdkhhebanogbaaGreat.Ty
set_option linter.unusedSimpArgs false
set_option linter.unusedVariables false
set_option linter.unusedSectionVars false
set_option maxRecDepth 20000
set_option maxHeartbeats 4000000
theorem Qf.nzR {P:Program} {f:FuncId} {args:List LV} {R R':LV→Prop} (c:Qf P f args R) (hr:∀ r,R r→∃ r',Go.TL.nz r'=Go.TL.nz r∧R' r'∧Low 0 r'):Qf P f args R' :=
 QN.nzR c fun r h' h=>by obtain ⟨r',h1,h2,h3⟩:=hr r h.1;exact ⟨r',h1,h2,h3⟩
theorem JF {P:Program} {a b c:C} {Q:Exit→St→Prop} {s:St}:wpC P (.seq a (.seq b c)) Q s ↔ wpC P (.seq (.seq a b) c) Q s:=by
 have e:YH (wpC P b (YH (wpC P c Q) Q)) Q=YH (wpC P b (YH (wpC P c Q) Q)) (YH (wpC P c Q) Q):=by
  funext e s;cases e<;>rfl
 show wpC P a (YH (wpC P b (YH (wpC P c Q) Q)) Q) s ↔ wpC P a (YH (wpC P b (YH (wpC P c Q) Q)) (YH (wpC P c Q) Q)) s
 rw [e]
theorem len4 {cs:List LV} (h:cs.length=4):∃ a b c d,cs=[a,b,c,d]:=by
 match cs,h with
 | [a,b,c,d],_=>exact ⟨a,b,c,d,rfl⟩
theorem Za5 (a:List GTerm) (k:GTerm):nms (a++[k])=nms a++[k.nm]:=by simp [Zpf]
theorem Zan (a:List GTerm) (k:GTerm):QM (a++[k])=QM a++[k.cells]:=by simp [Vz]
theorem ZaQ {a b:List GTerm} (h:nms a=nms b):a.length=b.length:=by
 have:=congrArg List.length h
 simpa using this
mutual
def shG (bw fr:Int):GTerm→GTerm
 | .mk op n nl1 ty nl2 ks=>.mk op (if op=0∧fr≤n then n+bw else n) nl1 ty nl2 (Y0 bw fr op 0 ks)
def Y0 (bw fr op:Int) (k:Nat):List GTerm→List GTerm
 | []=>[]
 | t::ts=>shG bw (fr+Qr op k) t::Y0 bw fr op (k+1) ts
end
theorem Y9 {bw fr op:Int}:∀ (ks:List GTerm) (k:Nat),(Y0 bw fr op k ks).length=ks.length
 | [],_=>by simp [Y0]
 | t::ts,k=>by simp [Y0,Y9 ts]
theorem Znt {bw fr op:Int}:∀ (ks:List GTerm) (k i:Nat) (h:i < ks.length),(Y0 bw fr op k ks)[i]'(by rw [Y9];exact h)=shG bw (fr+Qr op ((k+i:Nat):Int)) ks[i]
 | [],_,i,h=>by simp at h
 | t::ts,k,0,h=>by simp [Y0]
 | t::ts,k,i+1,h=>by
  simp only [Y0,List.getElem_cons_succ]
  rw [Znt ts (k+1) i (by simpa using h),show k+1+i=k+(i+1) by omega]
theorem Zk4 {bw fr op:Int} {ks:List GTerm} {i:Nat} (h:i < ks.length):(Y0 bw fr op 0 ks).take (i+1)=(Y0 bw fr op 0 ks).take i++[shG bw (fr+Qr op i) ks[i]]:=by
 rw [List.take_succ_eq_append_getElem (by rw [Y9];exact h),Znt ks 0 i h];simp
mutual
theorem Zfe (bw:Int):∀ (t:GTerm) (fr:Int),(shG bw fr t).size=t.size
 | .mk op n nl1 ty nl2 ks,fr=>by simp [shG,GTerm.size,Zla bw ks fr op 0]
theorem Zla (bw:Int):∀ (ks:List GTerm) (fr op:Int) (k:Nat),WV (Y0 bw fr op k ks)=WV ks
 | [],_,_,_=>by simp [Y0,WV]
 | t::ts,fr,op,k=>by simp [Y0,WV,Zfe bw t,Zla bw ts]
end
theorem num_sh {nv size bw fr op n:Int} (h0:0≤fr) (h1:fr≤nv) (hb:0≤bw):ZcN (nv+bw) size true op (if op=0∧fr≤n then n+bw else n)=ZcN nv size true op n:=by
 unfold ZcN
 by_cases h:op=0
 ·subst h
  have e0:eqB 0 0=true:=by rw [Qe]
  rw [if_pos e0,if_pos e0]
  rw [Bool.eq_iff_iff,Q5,Q5]
  simp only [true_and]
  split<;>omega
 ·have e0:eqB op 0=false:=by rw [Qc];exact h
  have e1:(if op=0∧fr≤n then n+bw else n)=n:=if_neg fun h'=>h h'.1
  rw [e1];simp [e0]
mutual
theorem ZhW {size bw:Int} (hb:0≤bw):∀ (t:GTerm) (nv fr:Int),0≤fr→fr≤nv→W8 (nv+bw) size true (shG bw fr t)=W8 nv size true t
 | .mk op n nl1 ty nl2 ks,nv,fr,h0,h1=>by
  simp only [shG,W8,Y4,Y9,num_sh h0 h1 hb,ZoA hb ks nv fr op 0 h0 h1]
theorem ZoA {size bw:Int} (hb:0≤bw):∀ (ks:List GTerm) (nv fr op:Int) (k:Nat),0≤fr→fr≤nv→W5 (nv+bw) size true op k (Y0 bw fr op k ks)=W5 nv size true op k ks
 | [],_,_,_,_,_,_=>by simp [Y0,W5]
 | t::ts,nv,fr,op,k,h0,h1=>by
  have:=Xw op k
  have e:=ZhW (size:=size) hb t (nv+Qr op k) (fr+Qr op k) (by omega) (by omega)
  rw [show nv+Qr op k+bw=nv+bw+Qr op k by omega] at e
  simp only [Y0,W5,e,ZoA hb ts nv fr op (k+1) h0 h1]
end
mutual
def GTerm.sk (nv:Int):GTerm→Prop
 | .mk op n _ ty _ ks=>(I64 op∧I64 n∧Lok ty∧ks.length≤3)∧(op=0→0≤n∧n≤nv - 1∧ks=[]∧ty=[])∧sks nv op 0 ks
def sks (nv op:Int) (k:Nat):List GTerm→Prop
 | []=>True
 | t::ts=>t.sk (nv+Qr op k)∧sks nv op (k+1) ts
end
theorem ZhX {nv op:Int}:∀ {ks:List GTerm} {k:Nat},sks nv op k ks ↔ ∀ (i:Nat) (h:i < ks.length),(ks[i]).sk (nv+Qr op ((k+i:Nat):Int))
 | [],k=>by simp [sks]
 | t::ts,k=>by
  simp only [sks,ZhX (ks:=ts)]
  constructor
  ·rintro ⟨h1,h2⟩ i hi
   cases i with
   | zero=>simpa only [Nat.add_zero,List.getElem_cons_zero] using h1
   | succ i =>
    have:=h2 i (by simpa using hi)
    rw [show k+1+i=k+(i+1) by omega] at this
    exact this
  ·intro h
   refine ⟨by have:=h 0 (by simp);simpa only [Nat.add_zero,List.getElem_cons_zero] using this,fun i hi=>?_⟩
   have:=h (i+1) (by simpa using hi)
   rw [show k+(i+1)=k+1+i by omega] at this
   exact this
mutual
theorem sk_wf:∀ (g:GTerm) (nv:Int),g.sk nv→g.wf
 | .mk op n nl1 ty nl2 ks,nv,h=>by
  simp only [GTerm.sk,GTerm.wf] at h ⊢
  exact ⟨h.1.1,h.1.2.1,h.1.2.2.1,by omega,sks_wf ks nv op 0 h.2.2⟩
theorem sks_wf:∀ (ks:List GTerm) (nv op:Int) (k:Nat),sks nv op k ks→wfs ks
 | [],_,_,_,_=>by simp [wfs]
 | t::ts,nv,op,k,h=>by
  simp only [sks,wfs] at h ⊢
  exact ⟨sk_wf t _ h.1,sks_wf ts nv op (k+1) h.2⟩
end
mutual
theorem sk_sh {bw:Int} (hb:0≤bw∧bw≤1000):∀ (g:GTerm) (nv fr:Int),0≤fr→nv+2 * g.size≤100000000→g.sk nv→(shG bw fr g).sk (nv+bw)
 | .mk op n nl1 ty nl2 ks,nv,fr,h0,hv,h=>by
  simp only [GTerm.sk,shG,GTerm.size] at h hv ⊢
  obtain ⟨⟨q1,q2,q3,q4⟩,q5,q6⟩:=h
  have ih:=sks_sh hb ks nv fr op 0 h0 (by omega) q6
  refine ⟨⟨q1,?_,q3,by rw [Y9];exact q4⟩,fun ho=>?_,ih⟩
  ·split
   ·rename_i hc
    have:=q5 hc.1
    unfold I64;omega
   ·exact q2
  ·obtain ⟨r1,r2,r3,r4⟩:=q5 ho
   subst r3
   refine ⟨?_,?_,by simp [Y0],r4⟩<;>split<;>omega
theorem sks_sh {bw:Int} (hb:0≤bw∧bw≤1000):∀ (ks:List GTerm) (nv fr op:Int) (k:Nat),0≤fr→nv+2+2 * WV ks≤100000000→sks nv op k ks→sks (nv+bw) op k (Y0 bw fr op k ks)
 | [],_,_,_,_,_,_,_=>by simp [Y0,sks]
 | t::ts,nv,fr,op,k,h0,hv,h=>by
  simp only [sks,Y0,WV] at h hv ⊢
  have:=Xw op k
  have e:=sk_sh hb t (nv+Qr op k) (fr+Qr op k) (by omega) (by omega) h.1
  rw [show nv+Qr op k+bw=nv+bw+Qr op k by omega] at e
  exact ⟨e,sks_sh hb ts nv fr op (k+1) h0 (by omega) h.2⟩
end
set_option maxHeartbeats 8000000
def KR (Qh:List (List LV)):LV:=if Qh.isEmpty=true then .sl true true 1 [] else .sl true false 4 Qh
theorem KR_app {Qh:List (List LV)} {r:List LV} (h:Qh.length < 1099511627776):WS 4 (KR Qh) (.sl true false 4 [r])=some (KR (Qh++[r])):=by
 cases Qh with
 | nil=>simp [KR,WS,most]
 | cons a l =>
  simp only [KR,List.isEmpty_cons,Bool.false_eq_true,if_false,List.cons_append,WS]
  rw [if_pos ⟨.inl trivial,.inl trivial,.inl trivial,by simp [most] at h ⊢;omega⟩]
  simp
theorem Zq0 (ks:List (List LV)):(KR ks).flat=true:=by unfold KR;split<;>rfl
theorem ZoN (ks:List (List LV)):(KR ks).cells=[KR ks]:=by unfold KR;split<;>rfl
theorem Zfa (ks:List (List LV)):(KR ks).alive=true:=by unfold KR;split<;>rfl
theorem KR_nz (ks:List (List LV)):nz (KR ks)=nz (.sl true ks.isEmpty 4 ks):=by
 cases ks with
 | nil=>simp [KR,nz]
 | cons a l=>simp [KR]
theorem KR_low {ks:List (List LV)} (h:We 0 ks):Low 0 (KR ks):=by unfold KR;split<;>simp [h]
def ZeP (g:GTerm) (r:LV):Prop:=∃ (w:GTerm) (cs:List LV),r=.agg cs∧shareAll cs=w.cells∧w.nm=g.nm∧w.fl
def isTz (g:GTerm) (r:LV):Prop:=∃ r',nz r'=nz r∧ZeP g r'∧Low 0 r'
theorem isTz_mk {op n:Int} {f1 f2:Bool} {ty:List Int} {K ws:List GTerm} {Qh:List (List LV)} {T:LV} {nlT:Bool} (h:Qq Qh=QM ws) (hn:nms ws=nms K) (hT:share T=L nlT ty) (lT:Low 0 T) (lo:We 0 Qh) (hf:nlT=false) (hfw:fls ws):isTz (.mk op n f1 ty f2 K) (.agg [N op,N n,T,KR Qh]):=by
 refine ⟨.agg [N op,N n,T,.sl true Qh.isEmpty 4 Qh],by simp [nz,Y6,KR_nz],⟨.mk op n nlT ty Qh.isEmpty ws,_,rfl,?_,?_,?_⟩,by simp [lT,lo]⟩
 ·simp only [shareAll,share,hT,h,GTerm.cells]
 ·simp only [GTerm.nm,hn]
  rw [← Zdq ws,hn,Zdq]
 ·simp only [GTerm.fl]
  exact ⟨by subst hf;simp [Zt],hfw⟩
theorem nm_fl:∀ g:GTerm,g.nm.fl:=by
 intro g
 exact go g
where
 go:∀ g:GTerm,g.nm.fl
  | .mk op n nl1 ty nl2 ks=>by
   simp only [GTerm.nm,GTerm.fl]
   exact ⟨by simp [Zt],gos ks⟩
 gos:∀ ks:List GTerm,fls (nms ks)
  | []=>by simp [nms,fls]
  | k::ks=>by simp only [nms,fls];exact ⟨go k,gos ks⟩
theorem nm_nm:∀ g:GTerm,g.nm.nm=g.nm:=by
 intro g
 exact go g
where
 go:∀ g:GTerm,g.nm.nm=g.nm
  | .mk op n nl1 ty nl2 ks=>by
   simp only [GTerm.nm,gos ks]
   congr 1
   cases ks<;>simp [nms]
 gos:∀ ks:List GTerm,nms (nms ks)=nms ks
  | []=>by simp [nms]
  | k::ks=>by simp only [nms,go k,gos ks]
theorem ZhY (g:GTerm):∃ r,ZeP g r∧Low 0 r:=⟨.agg g.nm.cells,⟨g.nm,_,rfl,by simp,nm_nm g,nm_fl g⟩,by simp⟩
theorem Zmg (g:GTerm):∃ r,isTz g r∧Low 0 r:=by
 obtain ⟨r,h,l⟩:=ZhY g
 exact ⟨r,⟨r,rfl,h,l⟩,l⟩
theorem Qf.ofTz {P:Program} {f:FuncId} {args:List LV} {g:GTerm} (c:Qf P f args (isTz g)):Qf P f args (ZeP g):=Qf.nzR c fun r h=>h
theorem ZnN (bw:Int) (hbw:0≤bw∧bw≤100000) (d:Nat):∀ (g:GTerm) (nv fr:Int),g.size≤d→g.sk nv→0≤nv→nv+2 * g.size≤1000000→0≤fr→fr+2 * g.size≤1000000 →
  Qf Tryz.prog YU [g.lv,N bw,N fr] (ZeP (shG bw fr g)):=by
 induction d with
 | zero=>intro g _ _ h;have:=g.size_pos;omega
 | succ d ih =>
  rintro ⟨op,n,nl1,gty,nl2,ks⟩ nv fr hd hform hn0 hnv hd0 hdeep
  simp only [GTerm.sk] at hform
  obtain ⟨⟨hop,hn,hty,hk⟩,hvar,hforms⟩:=hform
  simp only [GTerm.size] at hd hnv hdeep
  have hgl:=hty.1
  simp only [GTerm.lv,GTerm.cells]
  refine Qf.ofTz (Qf.of_codeOf ZcT Qz (by simp) (Zmg _) ?_)
  have CL:=ZS nl1 gty (by omega)
  have hSl:=Y9 (bw:=bw) (fr:=fr) (op:=op) ks 0
  simp only [VG]
  rw [JF,JF]
  refine Vn (fun t h=>t 3=.rp [N op,N n,L nl1 gty,.sl false nl2 4 (QM ks)]∧t 1=N bw∧t 2=N fr∧t 6=.ptr 1 0∧t 7=.ptr 2 0 ∧
   h=[none,some [N 0,N 0,.sl true true 1 [],.sl true true 1 []],some [N op,N (if op=0∧fr≤n then n+bw else n),OU true false gty,.sl true true 1 []]]) ?_ ?_
  ·simp (disch:=omega) [Qw,Qs]
   refine Qa CL (by simp) ?_
   by_cases h0:op=0
   ·subst h0
    have e0:eqB 0 0=true:=by rw [Qe]
    have hI:I64 (n+bw):=by have:=hvar rfl;unfold I64;omega
    by_cases h1:fr≤n
    ·have e1:leB fr n=true:=by rw [Ql];exact h1
     simp (disch:=omega) [e0,e1,h1,Qd,hI]
    ·have e1:leB fr n=false:=by rw [Qj];omega
     simp (disch:=omega) [e0,e1,h1]
   ·have e0:eqB op 0=false:=by rw [Qc];exact h0
    simp (disch:=omega) [e0,h0]
  ·rintro t1 hh hf1 ⟨a3,a1,a2,a6,a7,rfl⟩
   have eS:shG bw fr (.mk op n nl1 gty nl2 ks)=.mk op (if op=0∧fr≤n then n+bw else n) nl1 gty nl2 (Y0 bw fr op 0 ks):=by simp [shG]
   rw [eS]
   generalize (if op=0∧fr≤n then n+bw else n)=n' at *
   simp (disch:=omega) [a1,a2,a3,a6,a7]
   refine Wy ks.length 0 (fun i t h=>t 8=N i∧∃ Qh ws tl,h=none::some [N 0,N 0,.sl true true 1 [],.sl true true 1 []]::some [N op,N n',OU true false gty,KR Qh]::tl∧Qq Qh=QM ws∧We 0 Qh∧nms ws=nms ((Y0 bw fr op 0 ks).take i)∧fls ws)
    (fun t h=>∃ Qh ws tl,h=none::some [N 0,N 0,.sl true true 1 [],.sl true true 1 []]::some [N op,N n',OU true false gty,KR Qh]::tl∧Qq Qh=QM ws∧We 0 Qh∧nms ws=nms (Y0 bw fr op 0 ks)∧fls ws) ⟨by simp,[],[],[],by simp [KR],by simp [QM,Qq],by simp,by simp,by simp [fls]⟩ (by omega) ?_ ?_
   ·rintro i t2 hh hf2 hi ⟨e8,Qh,ws,tl,rfl,hsh,hlo,hnm,hfw⟩
    (have e1:=hf2 1 (by kernel_rfl);have e2:=hf2 2 (by kernel_rfl);have e3:=hf2 3 (by kernel_rfl);have e6:=hf2 6 (by kernel_rfl);have e7:=hf2 7 (by kernel_rfl);clear hf2;simp [a1,a2,a3,a6,a7] at e1 e2 e3 e6 e7)
    by_cases h6:i < ks.length
    ·have hb:ltB (i:Int) ks.length=true:=by rw [Qi];omega
     have hsk:=Yi h6
     have hA:=Xw op i
     have hkf:(ks[i]).sk (nv+Qr op i):=by have:=ZhX.1 hforms i h6;simpa using this
     have recu:=ih ks[i] (nv+Qr op i) (fr+Qr op i) (by omega) hkf (by omega) (by omega) (by omega) (by omega)
     have hix:=Zft ks false nl2 i h6
     have hwl:ws.length=i:=by
      have:=ZaQ hnm
      rw [this,List.length_take];omega
     have hrl:Qh.length=i:=by rw [← Wq,hsh,Jc,hwl]
     have hal:=Zfa Qh
     simp (disch:=omega) [e1,e2,e3,e6,e7,e8,hb,hix,hal]
     refine Qa (Zgv op i) (by simp) ?_
     simp (disch:=omega) [e1,e2,e3,e6,e7,e8,Qd]
     refine Qk (Qf.low recu) (by simp) ?_
     rintro r2 ⟨⟨w,cs,rfl,hcs2,hwn,hwf⟩,lo2⟩
     obtain ⟨c0,c1,c2,c3,rfl⟩:=len4 (cs:=cs) (by rw [← Q6,hcs2];simp)
     have ap:=KR_app (Qh:=Qh) (r:=[c0,c1,c2,c3]) (by omega)
     have hfl2:=Zq0 (Qh++[[c0,c1,c2,c3]])
     have hce2:=ZoN (Qh++[[c0,c1,c2,c3]])
     simp (disch:=omega) [e1,e2,e3,e6,e7,e8,Qo,ap,h6,Qd,hfl2,hce2]
     refine ⟨_,rfl,ws++[w],?_,?_,?_,ZH.2 fun k hk=>?_⟩
     ·rw [Zan,← hsh,← hcs2];simp [Xv,Xx]
     ·simp at lo2;simp [hlo,lo2]
     ·rw [Za5,hnm,Zk4 h6,Za5,hwn]
     ·rcases List.mem_append.1 hk with hk | hk
      ·exact ZH.1 hfw k hk
      ·simp at hk;subst hk;exact hwf
    ·have hb:ltB (i:Int) ks.length=false:=by rw [Qg];omega
     have e:=List.take_of_length_le (l:=Y0 bw fr op 0 ks) (i:=i) (by omega)
     rw [e] at hnm
     simp (disch:=omega) [e3,e8,hb]
     exact ⟨Qh,rfl,ws,hsh,hlo,hnm,hfw⟩
   ·rintro t2 hh hf2 ⟨Qh,ws,tl,rfl,hsh,hlo,hnm,hfw⟩
    (have e6:=hf2 6 (by kernel_rfl);have e7:=hf2 7 (by kernel_rfl);clear hf2;simp [a6,a7] at e6 e7)
    have hal:=Zfa Qh
    simp (disch:=omega) [e6,e7,hal]
    exact ⟨KR_low hlo,isTz_mk hsh hnm (nlT:=false) (by simp) (by simp) hlo rfl hfw⟩
theorem Q0.nzR {P:Program} {D:Dr} {f:FuncId} {rest:List LV} {Q Q':LV→Prop} (c:Q0 P D f rest Q) (h:∀ r,Q r→∃ r',Go.TL.nz r'=Go.TL.nz r∧Q' r'):Q0 P D f rest Q' :=
 fun h1 h3 ct i k hct hk=>QN.nzR (c h1 h3 ct i k hct hk) fun r h' hr=>by
  obtain ⟨i',k',q1,q2,q3⟩:=hr
  obtain ⟨r',e,hq⟩:=h r q2
  exact ⟨r',e,i',k',q1,hq,q3⟩
def Zs (s:GSys) (ctx:Wz):Prop:=(∀ c∈ctx,okL s.size c.2=true)∧(∀ c∈ctx,c.1=false)
theorem Zs.app {s:GSys} {f ctx:Wz} (hf:Zs s f) (hc:Zs s ctx):Zs s (f++ctx) :=
 ⟨fun c h=>(List.mem_append.1 h).elim (hf.1 c) (hc.1 c),fun c h=>(List.mem_append.1 h).elim (hf.2 c) (hc.2 c)⟩
theorem Zs.one {s:GSys} {l:List Int} (h:okL s.size l=true):Zs s [(false,l)]:=⟨by simpa using h,by simp⟩
theorem Zs.two {s:GSys} {l m:List Int} (h:okL s.size l=true) (h2:okL s.size m=true):Zs s [(false,l),(false,m)]:=⟨by simp;exact ⟨h,h2⟩,by simp⟩
structure TmOk (s:GSys) (nv:Nat) (n:Nat) (w:GTerm):Prop where
 wf:w.wf
 fl:w.fl
 form:W8 nv s.size true w=true
 size:w.size≤n
def isD (s:GSys) (nv:Nat) (n:Nat) (r:LV):Prop:=∃ (w:GTerm) (cs:List LV),r=.agg cs∧shareAll cs=w.cells∧QA 0 cs∧Wh cs=true∧TmOk s nv n w
theorem isD.mono {s:GSys} {nv n m:Nat} {r:LV} (h:isD s nv n r) (hm:n≤m):isD s nv m r:=by
 obtain ⟨w,cs,h1,h2,h3,h4,h5⟩:=h
 exact ⟨w,cs,h1,h2,h3,h4,h5.wf,h5.fl,h5.form,Nat.le_trans h5.size hm⟩
theorem V7 {s:GSys} (hsy:s.sys=true) {g:GTerm} (nlc:Bool) {ctx:Wz} {n:Nat} (hc:Zs s ctx) (hg:TmOk s ctx.length n g) (hlen:ctx.length+2 * n≤100000) (i:Nat) (hi:i < ctx.length) :
  Qf Tryz.prog X2 [s.lv,LC nlc ctx,g.lv,N i] (fun r=>∃ m,r=N m∧s.G m):=by
 have t:=GSys.sys_of hsy
 have hsz:=hg.size
 refine Qf.of_codeOf Zm8 Qz (by simp) ⟨_,⟨0,rfl,GSys.G0 t⟩,by simp⟩ ?_
 have tl:=ZgL hsy g.size g nlc ctx (Nat.le_refl _) hg.wf hg.fl hc.1 hc.2 (by omega) hg.form
 simp (disch:=omega) [ZfL,Qw,Qs]
 refine Qk (Qf.low tl) (by simp) ?_
 have hcs:∀ l∈ctx.map Prod.snd,okL s.size l=true:=fun l hl=>by
  obtain ⟨c,h1,rfl⟩:=List.mem_map.1 hl
  exact hc.1 c h1
 cases hT:Qt s (ctx.map Prod.snd) g with
 | bad f p =>
  rintro r ⟨⟨hf,u1,u2,u4,n4,rfl⟩,lo⟩
  have hf0:eqB f 0=false:=by rw [Qc];exact hf
  simp (disch:=omega) [hf0,Qs]
  exact GSys.G0 t
 | ok x =>
  rintro r ⟨⟨u1,u2,u4,n4,rfl⟩,lo⟩
  have gd:=Kh t g (ctx.map Prod.snd) x hcs (by rw [List.length_map];exact hg.form) hT
  have hl:=gd.2.1
  rw [List.length_map] at hl
  have h0:eqB 0 0=true:=by rw [Qe]
  have hx:QU 1 (.sl false false 1 (x.needs.map fun n=>[N n])) (i:Int)=some (.rp [N (x.needs.getD i 0)]):=Xu x.needs false false i (by omega) (by omega)
  have hG:s.G (x.needs.getD i 0):=by
   rw [List.getD_eq_getElem?_getD,List.getElem?_eq_getElem (by omega)]
   exact gd.2.2 _ (List.getElem_mem _)
  generalize x.needs.getD i 0=m at hx hG
  simp (disch:=omega) [h0,Qs,hx]
  exact hG
theorem ZbO (op n:Int) (nl:Bool) (Qh:List (List LV)) (hs:Qq Qh=Qh) (hl:We 0 Qh):Qf Tryz.prog WN [N op,N n,.sl false nl 4 Qh] (fun r=>r=.agg [N op,N n,.sl true true 1 [],.sl false nl 4 Qh]):=by
 refine Qf.of_codeOf Zo8 Qz (by simp [hs]) ⟨_,rfl,by simp [hl]⟩ ?_
 simp (disch:=omega) [Ziz,hs,hl]
theorem Jg {size:Int} {data:Bool} {n:Nat} {l:List Int} (h:Zi1 size data n l) (hn:n≤40):okL size l=true:=by
 obtain ⟨t,h1,h2,rfl,h4⟩:=h
 refine Yu.2 ⟨t,h1,rfl,by omega,?_⟩
 clear h4
 exact gr t h2
where
 gr:∀ (t:RT),RT.gr size data t→∀ c∈t.flat,okC size true c=true
  | .nd c ks,h,x,hx=>by
   simp only [RT.gr] at h
   simp only [RT.flat,List.mem_cons] at hx
   rcases hx with rfl | hx
   ·exact h.1
   ·exact grs' ks h.2.2 x hx
 grs':∀ (ts:List RT),grs size data ts→∀ c∈WP ts,okC size true c=true
  | [],_,x,hx=>by simp [WP] at hx
  | t::ts,h,x,hx=>by
   simp only [grs] at h
   simp only [WP,List.mem_append] at hx
   rcases hx with hx | hx
   ·exact gr t h.1 x hx
   ·exact grs' ts h.2 x hx
section
variable (D:Dr) (ok:D.ok)
include ok
theorem Zdz {s:GSys} (t:s.Tab) (g:Int) (hg:s.G g):Q0 Tryz.prog D Zy [s.lv,N g] (fun r=>∃ m,r=N m∧s.G m):=by
 refine Q0.of_codeOf Zj0 Qz (by simp) ⟨_,g,rfl,hg⟩ ?_
 intro h1 h3 ct i k hct hk
 have h2:=t.lo;have h16:=t.hi
 obtain ⟨g0,g1⟩:=hg
 have b1:ltB g 0=false:=by rw [Qg];omega
 have b2:leB s.size g=false:=by rw [Qj];omega
 simp (disch:=omega) [ZdM,Qw,Qs,b1,b2]
 refine Wy 3 0 (fun j t h=>t 7=N j∧∃ i' k',WR D i' k'∧h=h1++some [ct,N i',N k']::(h3++[none])) (fun t h=>∃ i' k',WR D i' k'∧h=h1++some [ct,N i',N k']::(h3++[none])) ⟨by simp,i,k,hk,rfl⟩ (by omega) ?_ ?_
 ·rintro j t1 hh hf hj ⟨e7,i1,k1,hk1,rfl⟩
  (have e0:=hf 0 (by kernel_rfl);have e2:=hf 2 (by kernel_rfl);have e4:=hf 4 (by kernel_rfl);clear hf;simp [] at e0 e2 e4)
  have once:=X9 D ok 3 (by unfold I64;omega)
  have bel:=Wn D ok s.size (by unfold I64;omega)
  by_cases h6:j < 3
  ·have hb:ltB (j:Int) 3=true:=by rw [Qi];omega
   simp (disch:=omega) [e0,e2,e4,e7,hb]
   refine Qp once hct hk1 ?_
   rintro r i2 k2 hk2 ⟨b,rfl⟩
   cases b
   ·simp (disch:=omega) [e0,e2,e4,e7,hb]
    exact hk2
   ·simp (disch:=omega) [e0,e2,e4,e7,hb]
    refine Qp bel hct hk2 ?_
    rintro r i3 k3 hk3 ⟨m,rfl,hm0,hm1,_⟩
    have hm:=hm1 (by omega)
    have le:=XW t (a:=g) (b:=m) ⟨g0,g1⟩ ⟨hm0,hm⟩
    simp (disch:=omega) [e0,e2,e4,e7,hb]
    refine Qa le (by simp) ?_
    cases s.le g m
    ·simp (disch:=omega) [e0,e2,e4,e7,hb,Qd]
     exact ⟨by omega,hk3⟩
    ·simp (disch:=omega) [e0,e2,e4,e7,hb]
     (first | refine Wb (.inr rfl) rfl ?_ (by simp) ?_ | refine QQ (.inr rfl) rfl ?_ (by simp) ?_)
     ·exact hk3
     ·exact ⟨m,by simp,hm0,hm⟩
  ·have hb:ltB (j:Int) 3=false:=by rw [Qg];omega
   simp (disch:=omega) [e0,e2,e4,e7,hb]
   exact hk1
 ·rintro t1 hh hf ⟨i1,k1,hk1,rfl⟩
  (have e2:=hf 2 (by kernel_rfl);clear hf;simp [] at e2)
  simp (disch:=omega) [e2]
  (first | refine Wb (.inr rfl) rfl ?_ (by simp) ?_ | refine QQ (.inr rfl) rfl ?_ (by simp) ?_)
  ·exact hk1
  ·exact ⟨g,by simp,g0,g1⟩
theorem dBent_ok:Q0 Tryz.prog D Zbu [] (fun r=>∃ m,r=N m∧I64 m):=by
 refine Q0.of_codeOf Znd Qz (by simp) ⟨_,0,rfl,by unfold I64;omega⟩ ?_
 intro h1 h3 ct i k hct hk
 have pick:=JI D ok false [-1,0,1,2,3,7,8,15,16,17,40,9223372036854775807,-9223372036854775808] (by simp) (by simp)
 simp (disch:=omega) [Zfw,Qo]
 refine Qp pick hct hk ?_
 rintro r i1 k1 hk1 ⟨m,rfl,hm⟩
 simp (disch:=omega)
 (first | refine Wb (.inr rfl) rfl ?_ (by simp) ?_ | refine QQ (.inr rfl) rfl ?_ (by simp) ?_)
 ·exact hk1
 ·refine ⟨m,by simp,?_⟩
  simp only [List.mem_cons,List.not_mem_nil,or_false] at hm
  unfold I64;omega
theorem ZnC (s:GSys) (hs:1≤s.size∧s.size≤16) (most:Int) (hm:0≤most∧most≤8) (data:Bool):Q0 Tryz.prog D K7 [s.lv,N most,B data] (fun r=>∃ ctx:Wz,r=.sl true false 1 (ctx.map fun x=>[OU true false x.2])∧Zs s ctx∧(ctx.length:Int)≤most):=by
 refine Q0.of_codeOf Zht Qz (by simp) ⟨_,[],rfl,by simp [Zs],by simp;omega⟩ ?_
 intro h1 h3 ct i k hct hk
 simp (disch:=omega) [Zcd,Qw,Qs,Qd]
 refine Qp (Wn D ok (most+1) (by unfold I64;omega)) hct hk ?_
 rintro r i0 k0 hk0 ⟨m,rfl,hm0,hm1,_⟩
 have hm2:=hm1 (by omega)
 obtain ⟨n,rfl⟩:∃ n:Nat,m=n:=⟨m.toNat,by omega⟩
 simp (disch:=omega)
 refine Wy n 0 (fun j t h=>t 10=N ((n:Int) - j)∧(∃ l:Wz,t 9=.sl true false 1 (l.map fun x=>[OU true false x.2])∧Zs s l∧l.length=j)∧∃ i' k',WR D i' k'∧h=h1++some [ct,N i',N k']::(h3++[none]))
  (fun t h=>(∃ l:Wz,t 9=.sl true false 1 (l.map fun x=>[OU true false x.2])∧Zs s l∧l.length=n)∧∃ i' k',WR D i' k'∧h=h1++some [ct,N i',N k']::(h3++[none])) ⟨by simp,⟨[],by simp [Qo],by simp [Zs],by simp⟩,i0,k0,hk0,rfl⟩ (by omega) ?_ ?_
 ·rintro j t1 hh hf hj ⟨e10,⟨l,e9,hl,hlen⟩,i1,k1,hk1,rfl⟩
  (have e0:=hf 0 (by kernel_rfl);have e3:=hf 3 (by kernel_rfl);have e5:=hf 5 (by kernel_rfl);clear hf;simp [] at e0 e3 e5)
  by_cases h6:j < n
  ·have hb:ltB 0 ((n:Int) - j)=true:=by rw [Qi];omega
   simp (disch:=omega) [e0,e3,e5,e9,e10,hb]
   refine Qp (Jd D ok s hs data 2 (by omega)) hct hk1 ?_
   rintro r i2 k2 hk2 ⟨ty,rfl,hty⟩
   have hko:=Jg hty (by omega)
   have ha:WS 1 (.sl true false 1 (l.map fun x=>[OU true false x.2])) (.sl true false 1 [[OU true false ty]])=some (.sl true false 1 ((l++[(false,ty)]).map fun x=>[OU true false x.2])):=by
    simp only [WS]
    rw [if_pos ⟨.inl trivial,.inl trivial,.inl trivial,by simp [TL.most];omega⟩]
    simp
   simp (disch:=omega) [e0,e3,e5,e9,e10,hb,Qo,Qd,ha]
   refine ⟨by omega,by omega,⟨l++[(false,ty)],by simp,hl.app (Zs.one hko),by simp;omega⟩,hk2⟩
  ·have hb:ltB 0 ((n:Int) - j)=false:=by rw [Qg];omega
   simp (disch:=omega) [e0,e3,e5,e9,e10,hb]
   exact ⟨⟨l,rfl,hl,by omega⟩,hk1⟩
 ·rintro t1 hh hf ⟨⟨l,e9,hl,hlen⟩,i1,k1,hk1,rfl⟩
  clear hf
  simp (disch:=omega) [e9]
  (first | refine Wb (.inr rfl) rfl ?_ (by simp) ?_ | refine QQ (.inr rfl) rfl ?_ (by simp) ?_)
  ·exact hk1
  ·exact ⟨l,by simp,hl,by omega⟩
end
end Go.Proofs.YthdkhhebanogbaaGreat