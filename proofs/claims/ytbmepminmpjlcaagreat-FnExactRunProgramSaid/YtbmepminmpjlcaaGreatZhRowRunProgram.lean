/- Part 8 of the proof of the row of the text YtbmepminmpjlcaaGreatZRowRunProgram: texts joined. No conditions. -/
import Derived.Test.YtbmepminmpjlcaaGreatZgRowRunProgram
set_option linter.unusedSimpArgs false
set_option linter.unusedVariables false
set_option linter.unusedSectionVars false
namespace Go.Proofs.YtbmepminmpjlcaaGreat
open Go Go.TL
set_option linter.unusedSimpArgs false
set_option linter.unusedVariables false
set_option linter.unusedSectionVars false
set_option maxRecDepth 20000
set_option maxHeartbeats 4000000
theorem Zbh:∀ ks:List GTerm,ks.length≤Xb ks
 | []=>by simp [Xb]
 | k::ks=>by have:=Zbh ks;have:=k.size_pos;simp [Xb];omega
theorem ex_i {u nl:Bool} {l:List Int} {n:Nat} {y:LV} {b:List Box} (h:Th (OU u nl l) n y b) (k:Int):∃ b',b'.length=b.length∧Th (OU u nl (Wu mI k l.length)) n y b':=by
 have hm:(Wu mI k l.length).length=l.length:=Jk _ k l.length
 rcases (Zbw (fun n:Int=>Value.int .i64 n)).1 h with ⟨rfl,rfl,rfl⟩ | ⟨rfl,hne,slack,cap,hcap,rfl,rfl⟩
 ·exact ⟨[],rfl,(Zbw (fun n:Int=>Value.int .i64 n)).2 (.inl ⟨rfl,rfl,rfl⟩)⟩
 ·have hne2:Wu mI k l.length≠[]:=by
   intro h;rw [h] at hm;exact hne (List.eq_nil_of_length_eq_zero (by simpa using hm.symm))
  exact ⟨[some ((Wu mI k l.length).map (fun x=>.sc ((fun n:Int=>Value.int .i64 n) x))++List.replicate slack .dead)],rfl,(Zbw (fun n:Int=>Value.int .i64 n)).2 (.inr ⟨rfl,hne2,slack,cap,by rw [hm];exact hcap,by rw [hm],rfl⟩)⟩
mutual
theorem ex_t:∀ (t:GTerm) (k:Int) (n:Nat) (c:List LV) (b:List Box),WI t.ownF n c b→∃ c' b',b'.length=b.length∧c'.length=c.length∧WI (mkT k t).ownF n c' b'
 | .mk op m nl1 ty nl2 ks,k,n,c,b,h=>by
  simp only [GTerm.ownF,mkT] at h ⊢
  obtain ⟨yT,bT,yK,bK,rfl,rfl,h1,h2⟩:=thT.1 h
  obtain ⟨bT',q1,q2⟩:=ex_i h1 (k+2)
  simp only [Th] at h2
  rcases h2 with ⟨hn,rfl,rfl⟩ | ⟨rfl,hne,cells,bs',slack,cap,hrow,hcap,rfl,rfl⟩
  ·have hks:ks=[]:=by rw [Zl] at hn;simpa using hn
   subst hks
   exact ⟨_,bT',by simp [q1],by simp,thT.2 ⟨yT,bT',.sl false nl2 4 [],[],rfl,by simp,q2,by simp [Th,Kc,Xu]⟩⟩
  ·obtain ⟨cells',bs2,q3,q4⟩:=ex_s ks (k+2+ty.length) _ _ _ hrow
   refine ⟨_,bT'++(bs2++[some (cells'++List.replicate slack .dead)]),by simp [q1,q3],by simp,thT.2 ⟨yT,bT',.ha (n+bT.length+bs2.length) 4 0 ks.length cap,_,rfl,rfl,q2,?_⟩⟩
   simp only [Th]
   refine .inr ⟨trivial,?_,cells',bs2,slack,cap,by rw [q1];exact q4,by simpa using hcap,by simp [q1],rfl⟩
   intro h
   have:=congrArg List.length h
   rw [JX,K7] at this
   exact hne (by rw [Zl,List.eq_nil_of_length_eq_zero this];rfl)
theorem ex_s:∀ (ks:List GTerm) (k:Int) (n:Nat) (cells:List LV) (bs:List Box),Xi (Xu ks) 4 n cells bs→∃ cells' bs',bs'.length=bs.length∧Xi (Xu (Kc k ks)) 4 n cells' bs'
 | [],k,n,cells,bs,h=>⟨cells,bs,rfl,by simpa [Kc] using h⟩
 | t::ks,k,n,cells,bs,h=>by
  simp only [Xu,Kc,Xi] at h ⊢
  obtain ⟨c1,b1,c2,b2,_,h1,h2,rfl,rfl⟩:=h
  obtain ⟨c1',b1',q1,q2,q3⟩:=ex_t t k n c1 b1 h1
  obtain ⟨c2',b2',q4,q5⟩:=ex_s ks (k+t.cnt) _ c2 b2 h2
  exact ⟨_,b1'++b2',by simp [q1,q4],c1',b1',c2',b2',by simp,q3,by rw [q1];exact q5,rfl,rfl⟩
end
theorem ex_sl {u nl:Bool} {ks:List GTerm} {n:Nat} {y:LV} {bs:List Box} (h:Th (.sl u nl 4 (Xu ks)) n y bs) (k:Int):∃ bs',bs'.length=bs.length∧Th (.sl u nl 4 (Xu (Kc k ks))) n y bs':=by
 simp only [Th] at h
 rcases h with ⟨hn,rfl,rfl⟩ | ⟨rfl,hne,cells,bs',slack,cap,hrow,hcap,rfl,rfl⟩
 ·have hks:ks=[]:=by rw [Zl] at hn;simpa using hn
  subst hks
  exact ⟨[],rfl,by simp [Th,Kc,Xu]⟩
 ·obtain ⟨cells',bs2,q3,q4⟩:=ex_s ks k _ _ _ hrow
  refine ⟨bs2++[some (cells'++List.replicate slack .dead)],by simp [q3],?_⟩
  simp only [Th]
  refine .inr ⟨trivial,?_,cells',bs2,slack,cap,q4,by simpa using hcap,by simp [q3],rfl⟩
  intro h
  have:=congrArg List.length h
  rw [JX,K7] at this
  exact hne (by rw [Zl,List.eq_nil_of_length_eq_zero this];rfl)
theorem Y0 {P:Program} {K:St→Prop} {s:St} {d:Nat} {f:FuncId} {vals:List LV} {h0:List Box} {R:LV→List Box→Prop} (c:QD P f vals h0 R) (e:s.h=h0) (hk:∀ r h',R r h'→K { t:=upd s.t d r,h:=h' }):ZI P .any f vals (some d) K s :=
 Qk (by rw [e];exact c) hk
theorem ZmB (d:Nat):∀ (ks:List GTerm) (u nl:Bool) (k:Int) (h1 h2:List Box) (y:LV) (bs:List Box),Xb ks≤d→0≤k∧k+YK ks≤4611686018427387904→Xb ks≤1000000000000000→Th (.sl u nl 4 (Xu ks)) h1.length y bs →
  QD Tryz.prog Z0 [y,N k] (h1++bs++h2) (fun r h'=>r=N (k+YK ks)∧∃ bs',bs'.length=bs.length∧Th (.sl u nl 4 (Xu (Kc k ks))) h1.length y bs'∧h'=h1++bs'++h2):=by
 induction d with
 | zero =>
  intro ks u nl k h1 h2 y bs hsz hk hkl ht
  have hks:ks=[]:=List.eq_nil_of_length_eq_zero (by have:=Zbh ks;omega)
  subst hks
  simp only [Th,Xu] at ht
  rcases ht with ⟨_,rfl,rfl⟩ | ⟨_,h,_⟩
  ·refine QD.of_codeOf Kv Qz (by simp) ⟨_,_,rfl,[],rfl,by simp [Th,Kc,Xu],rfl⟩ ?_
   simp (disch:=omega) [Z1]
   refine Wc 0 0 (fun i t h=>t 5=N 0∧t 1=N k∧h=h1++h2) (by simp) (by omega) ?_
   rintro i t1 hh hf hi ⟨e5,e1,rfl⟩
   (have e0:=hf 0 (by kernel_rfl);clear hf;simp [] at e0)
   simp (disch:=omega) [e0,e1,e5]
   refine QK (.inr rfl) (by simp) ?_
   simp [Th,Kc,Xu,YK]
  ·exact absurd rfl h
 | succ d ih =>
  intro ks u nl k h1 h2 y bs hsz hk hkl' ht
  have hkl:=Nat.le_trans (Zbh ks) hkl'
  have ht0:=ht
  simp only [Th] at ht
  rcases ht with ⟨hnil,rfl,rfl⟩ | ⟨rfl,hne,cells,bs',slack,cap,hrow,hcap,rfl,rfl⟩
  ·have hks:ks=[]:=by rw [Zl] at hnil;simpa using hnil
   subst hks
   refine QD.of_codeOf Kv Qz (by simp) ⟨_,_,rfl,[],rfl,by simp [Th,Kc,Xu],rfl⟩ ?_
   simp (disch:=omega) [Z1]
   refine Wc 0 0 (fun i t h=>t 5=N 0∧t 1=N k∧h=h1++h2) (by simp) (by omega) ?_
   rintro i t1 hh hf hi ⟨e5,e1,rfl⟩
   (have e0:=hf 0 (by kernel_rfl);clear hf;simp [] at e0)
   simp (disch:=omega) [e0,e1,e5]
   refine QK (.inr rfl) (by simp) ?_
   simp [Th,Kc,Xu,YK]
  ·rw [JX] at hcap
   obtain ⟨A,hA⟩:∃ A,h1++bs'=A:=⟨_,rfl⟩
   have hAl:h1.length+bs'.length=A.length:=by rw [← hA];simp
   have hh0:h1++(bs'++[some (cells++List.replicate slack .dead)])++h2=A++some (cells++List.replicate slack .dead)::h2:=by rw [← hA];simp
   rw [hh0,hAl]
   refine QD.of_codeOf Kv Qz (by simp) (by
    obtain ⟨bs2,q1,q2⟩:=ex_sl ht0 k
    rw [hAl] at q2
    exact ⟨_,_,rfl,bs2,q1,q2,rfl⟩) ?_
   simp (disch:=omega) [Z1]
   refine Wc ks.length 0 (fun i t h=>t 5=N i∧t 1=N (k+YK (ks.take i))∧∃ cD bD cR bR,h=h1++(bD++bR)++some (cD++(cR++List.replicate slack .dead))::h2∧bD.length+bR.length=bs'.length ∧
    Xi (Xu (Kc k (ks.take i))) 4 h1.length cD bD∧Xi (Xu (ks.drop i)) 4 (h1.length+bD.length) cR bR) ?_ (by omega) ?_
   ·refine ⟨by simp,by simp [YK],[],[],cells,bs',by rw [← hA];simp,by simp,by simp [Kc,Xu,Xi],by simpa using hrow⟩
   rintro i t1 hh hf hi ⟨e5,e1,cD,bD,cR,bR,rfl,hbl,hD,hR⟩
   (have e0:=hf 0 (by kernel_rfl);clear hf;simp [] at e0)
   by_cases h6:i < ks.length
   ·have hb:ltB (i:Int) ks.length=true:=by rw [Qf];omega
    have hck:=Zqu h6
    have hct:=ZgO h6
    have hcDl:=ZlL hD
    have hsk:=Yx h6
    rw [JX,K7,List.length_take,Nat.min_eq_left hi] at hcDl
    rw [List.drop_eq_getElem_cons h6] at hR
    obtain ⟨⟨op,n,nl1,ty,nl2,kk⟩,hki⟩:∃ g,ks[i]=g:=⟨_,rfl⟩
    rw [hki] at hR hck hct hsk
    simp only [Xu,Xi,GTerm.ownF] at hR
    obtain ⟨c1,b1,c2,b2,_,hT,hR2,rfl,rfl⟩:=hR
    obtain ⟨yT,bT,yK,bK,rfl,rfl,hyT,hyK⟩:=thT.1 hT
    simp only [GTerm.cnt,GTerm.size] at hck hct hsk
    obtain ⟨A1,hA1⟩:∃ A1,h1++(bD++(bT++bK++b2))=A1:=⟨_,rfl⟩
    have hA1l:A.length=A1.length:=by rw [← hA1,← hAl];simp at hbl ⊢;omega
    rw [hA1l] at e0
    rw [hA1]
    have htk:∀ (j:Nat) (rest:List LV),List.take (i * 4+j) (cD++rest)=cD++rest.take j:=fun j rest=>by
     rw [← hcDl,List.take_append,List.take_of_length_le (by omega)];simp
    have hdr:∀ (j:Nat) (rest:List LV),List.drop (i * 4+j) (cD++rest)=rest.drop j:=fun j rest=>by
     rw [← hcDl,List.drop_append];simp
    have hdr2:∀ (rest:List LV),List.drop (i * 4+1+1) (cD++rest)=rest.drop 2:=fun rest=>hdr 2 rest
    have htk0:∀ (rest:List LV),List.take (i * 4) (cD++rest)=cD:=fun rest=>List.take_left' hcDl
    have sT:=Th.share _ _ _ _ hyT
    have sK:=Th.share _ _ _ _ hyK
    have aT:=Th.alive _ _ _ _ hyT
    have aK:=Th.alive _ _ _ _ hyK
    simp (disch:=omega) [e0,e1,e5,hb,Jb,Qg,htk,hdr,hdr2,htk0,sT,sK]
    refine ⟨by omega,by omega,⟨by omega,aT⟩,?_⟩
    obtain ⟨k',hk'⟩:∃ k':Int,k+YK (ks.take i)=k':=⟨_,rfl⟩
    rw [hk']
    rw [show k'+1+1=k'+2 by omega]
    obtain ⟨X,hX⟩:∃ X,X=cD++N k'::N (k'+1)::yT::yK::(c2++List.replicate slack .dead):=⟨_,rfl⟩
    rw [← hX]
    have MI:=KZ (!nl1) nl1 ty (k'+2) (by omega) (h1++bD) (bK++b2++some X::h2) yT bT (by simpa using hyT)
    refine Y0 MI (by simp [← hA1]) ?_
    rintro r h' ⟨rfl,bT',hbT,hyT2,rfl⟩
    obtain ⟨A2,hA2⟩:∃ A2,h1++bD++bT'++(bK++b2)=A2:=⟨_,rfl⟩
    have hA2l:A1.length=A2.length:=by rw [← hA1,← hA2];simp;omega
    have hh2:h1++bD++bT'++(bK++b2++some X::h2)=A2++some X::h2:=by rw [← hA2];simp
    rw [hA2l] at e0
    rw [hh2,hX]
    simp (disch:=omega) [e0,e1,e5,hb,Jb,Qg,htk,hdr,hdr2,htk0,sT,sK]
    refine ⟨⟨by omega,aK⟩,?_⟩
    rw [← hX]
    have MK:=ih kk (!nl2) nl2 (k'+2+ty.length) (h1++bD++bT') (b2++some X::h2) yK bK (by omega) (by omega) (by omega) (by
     have:(h1++bD++bT').length=h1.length+bD.length+bT.length:=by simp;omega
     rw [this];exact hyK)
    refine Y0 MK (by simp [← hA2]) ?_
    rintro r h' ⟨rfl,bK',hbK,hyK2,rfl⟩
    simp (disch:=omega) [e0,e1,e5,Qg,h6]
    refine ⟨by omega,cD++[N k',N (k'+1),yT,yK],bD++(bT'++bK'),c2,b2,by simp [hX],by simp at hbl ⊢;omega,?_,?_⟩
    ·rw [List.take_succ_eq_append_getElem h6,hki,ZlS,Zl,List.map_append,← Zl,hk']
     refine ZgS.2 ⟨cD,bD,_,_,rfl,rfl,hD,?_⟩
     simp only [List.map_cons,List.map_nil,mkT,GTerm.ownF,Xi]
     refine ⟨_,bT'++bK',[],[],rfl,thT.2 ⟨yT,bT',yK,bK',rfl,rfl,by simpa using hyT2,?_⟩,⟨rfl,rfl⟩,by simp,by simp⟩
     simpa [Nat.add_assoc] using hyK2
    ·have:h1.length+(bD++(bT'++bK')).length=h1.length+bD.length+(bT++bK).length:=by simp;omega
     rw [this];exact hR2
   ·have hb:ltB (i:Int) ks.length=false:=by rw [Qd];omega
    have hik:i=ks.length:=by omega
    have e:=List.take_of_length_le (l:=ks) (i:=i) (by omega)
    rw [e] at hD e1
    rw [List.drop_of_length_le (by omega)] at hR
    simp only [Xu,Xi] at hR
    obtain ⟨rfl,rfl⟩:=hR
    simp (disch:=omega) [e0,e1,e5,hb]
    refine QK (.inr rfl) (by simp at hbl ⊢;rw [← hA];simp;omega) ?_
    refine ⟨by simp,bD++[some (cD++List.replicate slack .dead)],by simp at hbl ⊢;omega,?_,by simp⟩
    simp only [Th]
    refine .inr ⟨trivial,?_,cD,bD,slack,cap,hD,by simpa using hcap,?_,rfl⟩
    ·intro h
     have:=congrArg List.length h
     rw [JX,K7] at this
     exact hne (by rw [Zl,List.eq_nil_of_length_eq_zero this];rfl)
    ·simp at hbl ⊢
     omega
def topT (k:Int):GTerm→GTerm
 | .mk op n nl1 ty nl2 ks=>.mk op n nl1 (Wu mI k ty.length) nl2 (Kc (k+ty.length) ks)
def GTerm.tcnt:GTerm→Nat
 | .mk _ _ _ ty _ ks=>ty.length+YK ks
theorem ZgT (t:GTerm) (k:Int) (h1 h2:List Box) (cs:List LV) (bs:List Box) (hk:0≤k∧k+t.tcnt≤4611686018427387904) (hs:t.size≤1000000000000000) (ht:WI t.ownF h1.length cs bs) :
  QD Tryz.prog Jx [.agg cs,N k] (h1++bs++h2) (fun r h'=>r=N (k+t.tcnt)∧∃ bs' ex,bs'.length=bs.length∧WI (topT k t).ownF h1.length cs bs'∧h'=h1++bs'++h2++ex):=by
 obtain ⟨op,n,nl1,ty,nl2,ks⟩:=t
 simp only [GTerm.ownF,GTerm.tcnt,GTerm.size,topT] at *
 obtain ⟨yT,bT,yK,bK,rfl,rfl,hT,hK⟩:=thT.1 ht
 have sT:=Th.share _ _ _ _ hT
 have sK:=Th.share _ _ _ _ hK
 have m1:=fun X=>KZ (!nl1) nl1 ty k (by omega) h1 (bK++X) yT bT hT
 have m2:=fun (bT':List Box) (hl:bT'.length=bT.length) X=>ZmB (Xb ks) ks (!nl2) nl2 (k+ty.length) (h1++bT') X yK bK (Nat.le_refl _) (by omega) (by omega) (by rw [List.length_append,hl];exact hK)
 refine QD.of_codeOf ZhA Qz (by simp) ?_ ?_
 ·obtain ⟨r1,_,rfl,c1,l1,g1,rfl⟩:=(m1 []).2.1
  obtain ⟨r2,_,rfl,c2,l2,g2,rfl⟩:=(m2 c1 l1 []).2.1
  exact ⟨_,_,rfl,c1++c2,[],by simp [l1,l2],thT.2 ⟨yT,c1,yK,c2,rfl,rfl,g1,by rw [List.length_append] at g2;exact g2⟩,rfl⟩
 ·simp (disch:=omega) [Zch,Qu,Qo,sT,sK]
  refine Y0 (m1 (h2++[none])) (by simp) ?_
  rintro r h' ⟨rfl,c1,l1,g1,rfl⟩
  simp (disch:=omega) [sT,sK]
  refine Y0 (m2 c1 l1 (h2++[none])) (by simp) ?_
  rintro r h' ⟨rfl,c2,l2,g2,rfl⟩
  simp (disch:=omega) [sT,sK]
  refine QK (.inr rfl) (by simp;omega) ?_
  exact ⟨by simp;omega,c1++c2,by simp [l1,l2],thT.2 ⟨yT,c1,yK,c2,rfl,rfl,g1,by rw [List.length_append] at g2;exact g2⟩,[none],by simp⟩
theorem Zm9 (d:Nat):∀ (ks:List GTerm) (nl:Bool) (k:Int),Xb ks≤d→0≤k∧k+YK ks≤4611686018427387904→Xb ks≤1000000000000000 →
  Qe Tryz.prog ZV [.sl false nl 4 (Wp (Kc k ks)),N k] (·=N (k+YK ks)):=by
 induction d with
 | zero =>
  intro ks nl k hsz hk _
  have hks:ks=[]:=List.eq_nil_of_length_eq_zero (by have:=Zbh ks;omega)
  subst hks
  refine Qe.of_codeOf Za8 Qz (by simp) ⟨_,rfl,by simp⟩ ?_
  simp (disch:=omega) [Ky]
  refine Wc 0 0 (fun i t _=>t 5=N 0∧t 1=N k) (by simp) (by omega) ?_
  rintro i t1 hh hf hi ⟨e5,e1⟩
  (have e0:=hf 0 (by kernel_rfl);clear hf;simp [] at e0)
  simp (disch:=omega) [e0,e1,e5,Kc,Wp,YK]
 | succ d ih =>
  intro ks nl k hsz hk hs
  have hkl:=Zbh ks
  refine Qe.of_codeOf Za8 Qz (by simp) ⟨_,rfl,by simp⟩ ?_
  simp (disch:=omega) [Ky]
  refine Wc ks.length 0 (fun i t _=>t 5=N i∧t 1=N (k+YK (ks.take i))) (by simp [YK]) (by omega) ?_
  rintro i t1 hh hf hi ⟨e5,e1⟩
  (have e0:=hf 0 (by kernel_rfl);clear hf;simp [] at e0)
  by_cases h6:i < ks.length
  ·have hb:ltB (i:Int) ks.length=true:=by rw [Qf];omega
   have hck:=Zqu h6
   have hct:=ZgO h6
   have hsk:=Yx h6
   have hix:=WO (Kc k ks) false nl i (by simpa using h6)
   rw [ZnH ks k i h6] at hix
   obtain ⟨⟨op,n,nl1,ty,nl2,kk⟩,hki⟩:∃ g,ks[i]=g:=⟨_,rfl⟩
   rw [hki] at hix hck hct hsk
   simp only [GTerm.cnt,GTerm.size,mkT,GTerm.cells] at hix hck hct hsk
   obtain ⟨k',hk'⟩:∃ k':Int,k+YK (ks.take i)=k':=⟨_,rfl⟩
   rw [hk'] at hix e1
   have HI:=Zg4 nl1 (k'+2) ty.length (by omega)
   have HK:=ih kk nl2 (k'+2+ty.length) (by omega) (by omega) (by omega)
   have q1:eqB k' k'=true:=by rw [Qc]
   have q2:eqB (k'+1) (k'+1)=true:=by rw [Qc]
   have q3:ltB (k'+2+(ty.length:Int)) 0=false:=by rw [Qd];omega
   have q4:ltB (k'+2+(ty.length:Int)+(YK kk:Int)) 0=false:=by rw [Qd];omega
   have e12:k'+1+1=k'+2:=by omega
   simp (disch:=omega) [e0,e1,e5,hb,hix,q1,q2,Qg,e12]
   refine Qa HI (by simp) ?_
   simp (disch:=omega) [e0,e1,e5,hix,q3]
   refine Qa HK (by simp) ?_
   simp (disch:=omega) [e0,e1,e5,hix,q4,Qg,h6]
   omega
  ·have hb:ltB (i:Int) ks.length=false:=by rw [Qd];omega
   have e:=List.take_of_length_le (l:=ks) (i:=i) (by omega)
   rw [e] at e1
   simp (disch:=omega) [e0,e1,e5,hb]
theorem Zon (t:GTerm) (k:Int) (hk:0≤k∧k+t.tcnt≤4611686018427387904) (hs:t.size≤1000000000000000):Qe Tryz.prog JB [(topT k t).lv,N k] (·=N (k+t.tcnt)):=by
 obtain ⟨op,n,nl1,ty,nl2,ks⟩:=t
 simp only [GTerm.tcnt,GTerm.size,topT,GTerm.lv,GTerm.cells] at *
 have HI:=Zg4 nl1 k ty.length (by omega)
 have HK:=Zm9 (Xb ks) ks nl2 (k+ty.length) (Nat.le_refl _) (by omega) (by omega)
 have q3:ltB (k+(ty.length:Int)) 0=false:=by rw [Qd];omega
 have q4:ltB (k+(ty.length:Int)+(YK ks:Int)) 0=false:=by rw [Qd];omega
 refine Qe.of_codeOf ZhU Qz (by simp) ⟨_,rfl,by simp⟩ ?_
 simp (disch:=omega) [Zcp,Qu,Qo]
 refine Qa HI (by simp) ?_
 simp (disch:=omega) [q3]
 refine Qa HK (by simp) ?_
 simp (disch:=omega) [q4]
 omega
abbrev nT:List Int:=tabL (nTm 1) 3 3 0
abbrev nilS:LV:=.sl true true 1 []
theorem ZdJ {h h1 bs h2:List Box} {t y:LV} (hw:QB t) (ht:Th t h1.length y bs) (he:h=h1++bs++h2):Zw h (share t) y :=
 Th.view h _ y _ bs hw ht fun i b hi=>by
  rw [he,List.append_assoc,List.getElem?_append_right (by omega),Nat.add_sub_cancel_left,List.getElem?_append_left]
  ·exact hi
  ·rcases Nat.lt_or_ge i bs.length with g | g
   ·exact g
   ·rw [List.getElem?_eq_none g] at hi;simp at hi
open Go.Proofs.YtbmepminmpjlcaaGreat.Ty
theorem Za5 {h:List Box} {xs ys:List LV} (k:WK h xs ys):Zw h (.agg xs) (.agg ys):=by simp only [Zw];exact ⟨ys,rfl,k⟩
theorem Zhc (h:List Box) (s:GSys):WK h s.cells s.cells :=
 QI ZbT (QI (ZdG (by simp) (by simp)) (QI (ZdG (by simp) (by simp)) (QI (ZdG (by simp) (by simp)) WY)))
theorem VD (h:List Box):∀ g:GTerm,WK h g.cells g.cells
 | .mk op n nl1 ty nl2 ks=>by
  simp only [GTerm.cells]
  exact QI ZbT (QI ZbT (QI (ZdG (by simp) (by simp)) (QI (ZdG (by simp) (by simp)) WY)))
theorem ZlX (s:GSys):QB (.agg s.own):=by
 have w1:=Kd (fun n:Int=>Value.int .i64 n) true false s.plus (.inr ⟨rfl,rfl⟩)
 have w2:=Kd (fun n:Int=>Value.int .i64 n) true false s.times (.inr ⟨rfl,rfl⟩)
 have w3:=Kd (fun n:Bool=>Value.bool n) true false s.below (.inr ⟨rfl,rfl⟩)
 simp only [GSys.own,QB,QP] at w1 w2 w3 ⊢
 exact ⟨trivial,w1,w2,w3,trivial⟩
mutual
theorem ZgH:∀ t:GTerm,QP t.own
 | .mk op n nl1 ty nl2 ks=>by
  have h:=Zjm ks
  have w:=Kd (fun n:Int=>Value.int .i64 n) true false ty (.inr ⟨rfl,rfl⟩)
  simp only [GTerm.own,QP,QB] at w ⊢
  refine ⟨trivial,trivial,w,⟨?_,h⟩,trivial⟩
  cases ks with
  | nil=>simp [ZbK]
  | cons k ks=>exact .inr ⟨trivial,trivial,fun r hr=>by rw [Zmk] at hr;obtain ⟨g,_,rfl⟩:=List.mem_map.1 hr;simp⟩
theorem Zjm:∀ ks:List GTerm,QL (ZbK ks)
 | []=>by simp [ZbK,QL]
 | t::ks=>by simp only [ZbK,QL];exact ⟨ZgH t,Zjm ks⟩
end
theorem Zhg:∀ {xs:List LV} {n:Nat} {ys:List LV} {bs:List Box},WI xs n ys bs→WD ys=true
 | [],n,ys,bs,h=>by simp only [WI] at h;simp [h.1,WD]
 | x::xs,n,ys,bs,h=>by
  simp only [WI] at h
  obtain ⟨y,b1,ys',b2,h1,h2,rfl,_⟩:=h
  simp [WD,Th.alive _ _ _ _ h1,Zhg h2]
theorem th4 {xs:List LV} {n:Nat} {y:LV} {bs:List Box} (h:Th (.agg xs) n y bs) (hl:xs.length=4):∃ a b c d,y=.agg [a,b,c,d]∧WI xs n [a,b,c,d] bs∧(share a=a∧share b=b∧share c=c∧share d=d)∧(a.alive=true∧b.alive=true∧c.alive=true∧d.alive=true):=by
 have hs:=Th.share _ _ _ _ h
 simp only [Th] at h
 obtain ⟨ys,rfl,h⟩:=h
 obtain ⟨a,b,c,d,rfl⟩:=len4 ((ZgD h).trans hl)
 have ha:=Zhg h
 simp only [share,shareAll,LV.agg.injEq,List.cons.injEq,and_true] at hs
 simp only [WD,Bool.and_eq_true,and_true] at ha
 exact ⟨a,b,c,d,rfl,h,hs,ha⟩
theorem Zph (s:GSys) (k:Int) (h1 h2:List Box) (p0 p1 p2 p3:LV) (bs:List Box) (hk:0≤k∧k+s.w≤4611686018427387904) (ht:WI s.own h1.length [p0,p1,p2,p3] bs) :
  QD Tryz.prog ZB [.agg [p0,p1,p2,p3],N k] (h1++bs++h2) (fun r h'=>r=N (k+s.w)∧∃ bs' ex,bs'.length=bs.length∧h'=h1++bs'++h2++ex):=by
 simp only [GSys.own,WI] at ht
 obtain ⟨y0,c0,_,_,t0,⟨y1,c1,_,_,t1,⟨y2,c2,_,_,t2,⟨y3,c3,_,_,t3,⟨rfl,rfl⟩,rfl,rfl⟩,rfl,rfl⟩,rfl,rfl⟩,he,rfl⟩:=ht
 simp only [Th] at t0
 obtain ⟨rfl,rfl⟩:=t0
 simp only [List.cons.injEq,and_true] at he
 obtain ⟨rfl,rfl,rfl,rfl⟩:=he
 unfold GSys.w at hk
 have:=Zj7 true false true false true false s.size s.plus s.times s.below k (by omega) h1 h2 _ _ _ c1 c2 c3 (by simpa using t1) (by simpa using t2) (by simpa [Nat.add_assoc] using t3)
 have e:h1++([]++(c1++(c2++(c3++[]))))++h2=h1++c1++c2++c3++h2:=by simp
 rw [e]
 refine this.mono fun r h' hr=>?_
 obtain ⟨rfl,d1,d2,d3,l1,l2,l3,_,_,_,ex,rfl⟩:=hr
 exact ⟨by unfold GSys.w;simp only [LV.sc.injEq,Value.int.injEq,true_and];push_cast;omega,d1++d2++d3,ex,by simp [l1,l2,l3],by simp⟩
mutual
theorem Zgd:∀ (t:GTerm) (n:Nat) (c:List LV) (b:List Box),WI t.ownF n c b→QP t.ownF
 | .mk op m nl1 ty nl2 ks,n,c,b,h=>by
  simp only [GTerm.ownF] at h ⊢
  obtain ⟨yT,bT,yK,bK,rfl,rfl,h1,h2⟩:=thT.1 h
  have w1:QB (OU (!nl1) nl1 ty):=Kd (fun n:Int=>Value.int .i64 n) (!nl1) nl1 ty (by
   rcases (Zbw (fun n:Int=>Value.int .i64 n)).1 h1 with ⟨rfl,_⟩ | ⟨rfl,_⟩
   ·exact .inl rfl
   ·exact .inr ⟨rfl,rfl⟩)
  have w2:QB (.sl (!nl2) nl2 4 (Xu ks)):=by
   simp only [Th] at h2
   simp only [QB]
   rcases h2 with ⟨hn,_⟩ | ⟨rfl,_,cells,bs',_,_,hrow,_⟩
   ·exact ⟨.inl hn,by rw [hn];simp [QL]⟩
   ·exact ⟨.inr ⟨rfl,rfl,fun r hr=>by rw [Zl] at hr;obtain ⟨g,_,rfl⟩:=List.mem_map.1 hr;simp⟩,Zlz ks _ _ _ hrow⟩
  simp only [QP,QB] at w1 w2 ⊢
  exact ⟨trivial,trivial,w1,w2,trivial⟩
theorem Zlz:∀ (ks:List GTerm) (n:Nat) (c:List LV) (b:List Box),Xi (Xu ks) 4 n c b→QL (Xu ks)
 | [],_,_,_,_=>by simp [Xu,QL]
 | t::ks,n,c,b,h=>by
  simp only [Xu,Xi,QL] at h ⊢
  obtain ⟨c1,b1,c2,b2,_,h1,h2,_⟩:=h
  exact ⟨Zgd t _ _ _ h1,Zlz ks _ _ _ h2⟩
end
mutual
theorem ZqD:∀ t:GTerm,t.wf→t.cnt≤1099511627779 * t.size
 | .mk op n nl1 ty nl2 ks,h=>by
  simp only [GTerm.wf] at h
  have:=Ziy ks h.2.2.2.2
  have:=h.2.2.1.1
  simp only [GTerm.cnt,GTerm.size];omega
theorem Ziy:∀ ks:List GTerm,wfs ks→YK ks≤1099511627779 * Xb ks
 | [],_=>by simp [YK]
 | k::ks,h=>by
  simp only [wfs] at h
  have:=ZqD k h.1
  have:=Ziy ks h.2
  simp only [YK,Xb];omega
end
theorem ZoY (t:GTerm):t.tcnt≤t.cnt:=by cases t;simp [GTerm.tcnt,GTerm.cnt]
mutual
theorem w_cnt:∀ t:GTerm,t.norm.cnt≤2+3 * t.w∧t.norm.size≤1+t.w
 | .mk op n nl1 ty nl2 ks=>by
  have:=ws_cnt ks
  simp only [GTerm.norm,GTerm.cnt,GTerm.size,GTerm.w];omega
theorem ws_cnt:∀ ks:List GTerm,YK (Jq ks)≤3 * (ks.length+tws ks)∧Xb (Jq ks)≤ks.length+tws ks
 | []=>by simp [Jq,YK,Xb]
 | k::ks=>by
  have:=w_cnt k
  have:=ws_cnt ks
  simp only [Jq,YK,Xb,tws,List.length_cons];omega
end
mutual
theorem Zh0:∀ (t:GTerm),t.norm.fl
 | .mk op n nl1 ty nl2 ks=>by simp only [GTerm.norm,GTerm.fl];exact ⟨fun h=>by simp at h,ZoE ks⟩
theorem ZoE:∀ (ks:List GTerm),fls (Jq ks)
 | []=>by simp [Jq,fls]
 | k::ks=>by simp only [Jq,fls];exact ⟨Zh0 k,ZoE ks⟩
end
mutual
theorem th_share:∀ (x x':LV) (n:Nat) (y:LV) (bs:List Box),Th x n y bs→QB x'→share x=share x'→Th x' n y bs
 | .sc v,x',n,y,bs,h,w,e=>by
  cases x'<;>simp [QB] at w<;>simp [share] at e
  subst e;exact h
 | .sl u nl sz Qj,x',n,y,bs,h,w,e=>by
  cases x'<;>simp [QB] at w<;>simp [share] at e
  rename_i u' nl' sz' rows'
  obtain ⟨rfl,rfl,e⟩:=e
  simp only [Th] at h ⊢
  rcases h with ⟨rfl,h⟩ | ⟨h1,h2,cells,bs',slack,cap,h3,h4⟩
  ·have:rows'=[]:=by
    cases rows' with
    | nil=>rfl
    | cons a b=>simp [Qv] at e
   exact .inl ⟨this,h⟩
  ·have hl:Qj.length=rows'.length:=by
    have:=congrArg List.length e
    simpa [W3] using this
   have hn:rows'≠[]:=by
    intro e0;subst e0;exact h2 (List.eq_nil_of_length_eq_zero (by simpa using hl))
   exact .inr ⟨h1,hn,cells,bs',slack,cap,Zhk _ _ _ _ _ _ h3 w.2 e,by rw [← hl];exact h4⟩
 | .agg xs,x',n,y,bs,h,w,e=>by
  cases x'<;>simp [QB] at w<;>simp [share] at e
  simp only [Th] at h ⊢
  obtain ⟨ys,h1,h2⟩:=h
  exact ⟨ys,h1,Vc _ _ _ _ _ h2 w e⟩
 | .tup xs,x',n,y,bs,h,w,e=>by
  cases x'<;>simp [QB] at w<;>simp [share] at e
  simp only [Th] at h ⊢
  obtain ⟨ys,h1,h2⟩:=h
  exact ⟨ys,h1,Vc _ _ _ _ _ h2 w e⟩
 | .ha ..,x',n,y,bs,h,w,e=>by simp [Th] at h
 | .raw ..,x',n,y,bs,h,w,e=>by simp [Th] at h
 | .ptr ..,x',n,y,bs,h,w,e=>by simp [Th] at h
 | .rp ..,x',n,y,bs,h,w,e=>by simp [Th] at h
 | .fn ..,x',n,y,bs,h,w,e=>by simp [Th] at h
 | .fnm ..,x',n,y,bs,h,w,e=>by simp [Th] at h
 | .dead,x',n,y,bs,h,w,e=>by simp [Th] at h
 | .both ..,x',n,y,bs,h,w,e=>by simp [Th] at h
theorem Vc:∀ (x x':List LV) (n:Nat) (y:List LV) (bs:List Box),WI x n y bs→QP x'→shareAll x=shareAll x'→WI x' n y bs
 | [],x',n,y,bs,h,w,e=>by
  cases x' with
  | nil=>exact h
  | cons a b=>simp [shareAll] at e
 | x::xs,x',n,y,bs,h,w,e=>by
  cases x' with
  | nil=>simp [shareAll] at e
  | cons a b =>
   simp only [shareAll,List.cons.injEq] at e
   simp only [QP] at w
   simp only [WI] at h ⊢
   obtain ⟨y,b1,ys',b2,h1,h2,h3⟩:=h
   exact ⟨y,b1,ys',b2,th_share _ _ _ _ _ h1 w.1 e.1,Vc _ _ _ _ _ h2 w.2 e.2,h3⟩
theorem Zhk:∀ (x x':List (List LV)) (sz n:Nat) (y:List LV) (bs:List Box),Xi x sz n y bs→QL x'→Qv x=Qv x'→Xi x' sz n y bs
 | [],x',sz,n,y,bs,h,w,e=>by
  cases x' with
  | nil=>exact h
  | cons a b=>simp [Qv] at e
 | x::xs,x',sz,n,y,bs,h,w,e=>by
  cases x' with
  | nil=>simp [Qv] at e
  | cons a b =>
   simp only [Qv,List.cons.injEq] at e
   simp only [QL] at w
   simp only [Xi] at h ⊢
   obtain ⟨c1,b1,c2,b2,h0,h1,h2,h3⟩:=h
   have hl:x.length=a.length:=by
    have:=congrArg List.length e.1
    simpa [Wd] using this
   exact ⟨c1,b1,c2,b2,by rw [← hl];exact h0,Vc _ _ _ _ _ h1 w.1 e.1,Zhk _ _ _ _ _ _ h2 w.2 e.2,h3⟩
end
mutual
theorem Zim:∀ (t:GTerm) (cs:List LV),QP cs→shareAll cs=t.cells→QP t.ownF
 | .mk op n nl1 ty nl2 ks,cs,h,e=>by
  simp only [GTerm.cells] at e
  obtain ⟨a,b,c,d,rfl⟩:=len4 (show cs.length=4 by rw [← Wd,e];rfl)
  simp only [shareAll,List.cons.injEq,and_true] at e
  obtain ⟨_,_,e3,e4⟩:=e
  simp only [QP,and_true] at h
  obtain ⟨_,_,hc,hd⟩:=h
  cases c<;>simp [QB] at hc<;>simp [share] at e3
  rename_i u1 m1 z1 rows1
  obtain ⟨rfl,rfl,e3⟩:=e3
  cases d<;>simp [QB] at hd<;>simp [share] at e4
  rename_i u2 m2 z2 rows2
  obtain ⟨rfl,rfl,e4⟩:=e4
  have w:=Kd (fun n:Int=>Value.int .i64 n) (!m1) m1 ty (by
   rcases hc.1 with rfl | ⟨_,rfl,_⟩
   ·left
    cases ty with
    | nil=>rfl
    | cons a b=>simp [Qv] at e3
   ·exact .inr ⟨rfl,rfl⟩)
  have h2:=ZgZ ks rows2 hd.2 e4
  simp only [GTerm.ownF,QP,QB] at w ⊢
  refine ⟨trivial,trivial,w,⟨?_,h2⟩,trivial⟩
  rcases hd.1 with rfl | ⟨_,rfl,_⟩
  ·left
   cases ks with
   | nil=>rfl
   | cons a b=>simp [Qv,Wp] at e4
  ·exact .inr ⟨rfl,rfl,fun r hr=>by rw [Zl] at hr;obtain ⟨g,_,rfl⟩:=List.mem_map.1 hr;simp⟩
theorem ZgZ:∀ (ks:List GTerm) (Qj:List (List LV)),QL Qj→Qv Qj=Wp ks→QL (Xu ks)
 | [],Qj,_,_=>by simp [Xu,QL]
 | t::ks,Qj,h,e=>by
  cases Qj with
  | nil=>simp [Qv,Wp] at e
  | cons r Qj =>
   simp only [Qv,Wp,List.cons.injEq] at e
   simp only [QL] at h
   simp only [Xu,QL];exact ⟨Zim t r h.1 e.1,ZgZ ks Qj h.2 e.2⟩
end
theorem th_isTF {v:GTerm} {r y:LV} {n:Nat} {bs:List Box} (h:isTF v r) (hw:QB r) (ht:Th r n y bs):∃ (w:GTerm) (ys:List LV),w.nm=v.nm∧w.fl∧y=.agg ys∧WI w.ownF n ys bs:=by
 obtain ⟨w,cs,rfl,h1,h2,h3⟩:=h
 simp only [QB] at hw
 simp only [Th] at ht
 obtain ⟨ys,rfl,ht⟩:=ht
 exact ⟨w,ys,h2,h3,rfl,Vc _ _ _ _ _ ht (Zim w cs hw h1) (by rw [h1,ZbE])⟩
def Xa (k:Int):Nat→List (Int×Int)
 | 0=>[]
 | n+1=>(k,k+1)::Xa (k+2) n
@[simp] theorem ZaV (k:Int) (n:Nat):(Xa k n).length=n:=by
 induction n generalizing k with
 | zero=>rfl
 | succ n ih=>simp [Xa,ih]
theorem Zod (k:Int) (n:Nat):Xa k (n+1)=Xa k n++[(k+2 * n,k+2 * n+1)]:=by
 induction n generalizing k with
 | zero=>simp [Xa]
 | succ n ih =>
  rw [Xa,ih]
  simp only [Xa,List.cons_append,Int.natCast_add,Int.natCast_one]
  rw [show k+2+2 * (n:Int)=k+2 * (n+1) by omega]
theorem Zpk (k:Int) (n i:Nat) (h:i < n):(Xa k n)[i]'(by simpa using h)=(k+2 * i,k+2 * i+1):=by
 induction n generalizing k i with
 | zero=>omega
 | succ n ih =>
  cases i with
  | zero=>simp [Xa]
  | succ i =>
   simp only [Xa,List.getElem_cons_succ]
   rw [ih (k+2) i (by omega)]
   simp only [Int.natCast_add,Int.natCast_one,Prod.mk.injEq]
   omega
def Xx:List (Int×Int)→List LV
 | []=>[]
 | c::l=>N c.1::N c.2::Xx l
theorem Ze5 (a b:List (Int×Int)):Xx (a++b)=Xx a++Xx b:=by
 induction a with
 | nil=>rfl
 | cons c a ih=>simp [Xx,ih]
theorem Zki (a:List (Int×Int)):(Xx a).length=a.length * 2:=by
 induction a with
 | nil=>rfl
 | cons c a ih=>simp [Xx,ih];omega
theorem ZjH:∀ (l:List (Int×Int)) (n:Nat) (cells:List LV) (bs:List Box),Xi (l.map fun c=>[N c.1,N c.2]) 2 n cells bs ↔ cells=Xx l∧bs=[]
 | [],n,cells,bs=>by simp [Xi,Xx]
 | c::l,n,cells,bs=>by
  simp only [List.map_cons,Xi,WI,Th]
  constructor
  ·rintro ⟨c1,b1,c2,b2,_,⟨y,b3,ys',b4,⟨rfl,rfl⟩,⟨y2,b5,ys2,b6,⟨rfl,rfl⟩,⟨rfl,rfl⟩,rfl,rfl⟩,rfl,rfl⟩,h2,rfl,rfl⟩
   obtain ⟨rfl,rfl⟩:=(ZjH l _ _ _).1 h2
   simp [Xx]
  ·rintro ⟨rfl,rfl⟩
   exact ⟨[N c.1,N c.2],[],Xx l,[],rfl,⟨N c.1,[],[N c.2],[],⟨rfl,rfl⟩,⟨N c.2,[],[],[],⟨rfl,rfl⟩,⟨rfl,rfl⟩,rfl,rfl⟩,rfl,rfl⟩,(ZjH l _ _ _).2 ⟨rfl,rfl⟩,rfl,rfl⟩
theorem Zlo {u nl:Bool} {l:List (Int×Int)} {n:Nat} {y:LV} {bs:List Box}:Th (CS u nl l) n y bs ↔ (l=[]∧y=.sl false nl 2 []∧bs=[]) ∨
  (nl=false∧l≠[]∧∃ slack cap,(l.length≤cap∧l.length * 2+slack=cap * 2)∧y=.ha n 2 0 l.length cap∧bs=[some (Xx l++List.replicate slack .dead)]):=by
 simp only [Th,ZjH,List.length_map,List.map_eq_nil_iff]
 constructor
 ·rintro (⟨h1,h2,h3⟩ | ⟨h1,h2,cells,bs',slack,cap,⟨rfl,rfl⟩,h3,h4,h5⟩)
  ·exact .inl ⟨h1,h2,h3⟩
  ·exact .inr ⟨h1,by simpa using h2,slack,cap,h3,by simpa using h4,by simpa using h5⟩
 ·rintro (⟨h1,h2,h3⟩ | ⟨h1,h2,slack,cap,h3,h4,h5⟩)
  ·exact .inl ⟨h1,h2,h3⟩
  ·exact .inr ⟨h1,by simpa using h2,_,[],slack,cap,⟨rfl,rfl⟩,h3,by simpa using h4,by simpa using h5⟩
theorem ZmS (u nl:Bool) (l:List (Int×Int)) (k:Int) (hk:0≤k∧k+2 * l.length≤4611686018427387904) (h1 h2:List Box) (y:LV) (bs:List Box) (ht:Th (CS u nl l) h1.length y bs) :
  QD Tryz.prog Kx [y,N k] (h1++bs++h2) (fun r h'=>r=N (k+2 * l.length)∧∃ bs',bs'.length=bs.length∧Th (CS u nl (Xa k l.length)) h1.length y bs'∧h'=h1++bs'++h2):=by
 rcases Zlo.1 ht with ⟨rfl,rfl,rfl⟩ | ⟨rfl,hne,slack,cap,hcap,rfl,rfl⟩
 ·refine QD.of_codeOf Zbp Qz (by simp) ⟨_,_,rfl,[],rfl,Zlo.2 (.inl ⟨rfl,rfl,rfl⟩),rfl⟩ ?_
  simp (disch:=omega) [KE]
  refine Wc 0 0 (fun i t h=>t 5=N 0∧t 1=N k∧h=h1++h2) (by simp) (by omega) ?_
  rintro i t1 hh hf hi ⟨e5,e1,rfl⟩
  (have e0:=hf 0 (by kernel_rfl);clear hf;simp [] at e0)
  simp (disch:=omega) [e0,e1,e5]
  refine QK (.inr rfl) (by simp) ?_
  simp [Th,Xa]
 ·have hm:(Xa k l.length).length=l.length:=ZaV k l.length
  have hne2:Xa k l.length≠[]:=by
   intro h;rw [h] at hm;exact hne (List.eq_nil_of_length_eq_zero (by simpa using hm.symm))
  have fin:Th (CS u false (Xa k l.length)) h1.length (.ha h1.length 2 0 l.length cap) [some (Xx (Xa k l.length)++List.replicate slack .dead)]:=Zlo.2 (.inr ⟨rfl,hne2,slack,cap,by rw [hm];exact hcap,by rw [hm],rfl⟩)
  refine QD.of_codeOf Zbp Qz (by simp) ⟨_,_,rfl,[some (Xx (Xa k l.length)++List.replicate slack .dead)],rfl,fin,rfl⟩ ?_
  simp (disch:=omega) [KE]
  refine Wc l.length 0 (fun i t h=>t 5=N i∧t 1=N (k+2 * i)∧h=h1++some (Xx (Xa k i++l.drop i)++List.replicate slack .dead)::h2) (by simp [Xa]) (by omega) ?_
  rintro i t1 hh hf hi ⟨e5,e1,rfl⟩
  (have e0:=hf 0 (by kernel_rfl);clear hf;simp [] at e0)
  by_cases h5:i < l.length
  ·have hb:ltB (i:Int) l.length=true:=by rw [Qf];omega
   have hA:(Xx (Xa k i)).length=i * 2:=by rw [Zki,ZaV]
   have e1':Xx (Xa k i++l.drop i)++List.replicate slack LV.dead=Xx (Xa k i)++N (l[i]).1::N (l[i]).2::(Xx (l.drop (i+1))++List.replicate slack LV.dead):=by
    rw [List.drop_eq_getElem_cons h5,Ze5];simp [Xx]
   have e2':Xx (Xa k (i+1)++l.drop (i+1))++List.replicate slack LV.dead=Xx (Xa k i)++N (k+2 * i)::N (k+2 * i+1)::(Xx (l.drop (i+1))++List.replicate slack LV.dead):=by
    rw [Zod,Ze5,Ze5];simp [Xx]
   have ih2:QS 2 (.ha h1.length 2 0 l.length cap) (i:Int)=some (.ptr h1.length (i * 2)):=by rw [Jb h5,Nat.zero_add]
   have hZ:i * 2+2≤(Xx (Xa k i)++N (l[i]).1::N (l[i]).2::(Xx (l.drop (i+1))++List.replicate slack LV.dead)).length:=by simp [hA]
   rw [e1',e2']
   generalize Xx (Xa k i)=A at *
   generalize Xx (l.drop (i+1))++List.replicate slack LV.dead=Z at *
   have s1:∀ a b x:LV,List.take (i * 2) (A++a::b::Z)++x::List.drop (i * 2+1) (A++a::b::Z)=A++x::b::Z:=fun a b x=>by
    rw [← hA,List.take_left,List.drop_append,List.drop_of_length_le (by omega)]
    simp [show A.length+1 - A.length=1 by omega]
   have s2:∀ a b x:LV,List.take (i * 2+1) (A++a::b::Z)++x::List.drop (i * 2+1+1) (A++a::b::Z)=A++a::x::Z:=fun a b x=>by
    rw [← hA,List.take_append,List.take_of_length_le (by omega),List.drop_append,List.drop_of_length_le (by omega)]
    simp [show A.length+1+1 - A.length=2 by omega]
   have d1:∀ a b:LV,List.drop (i * 2+1) (A++a::b::Z)=b::Z:=fun a b=>by
    rw [← hA,List.drop_append,List.drop_of_length_le (by omega)]
    simp [show A.length+1 - A.length=1 by omega]
   simp (disch:=omega) [e0,e1,e5,hb,ih2,Qg,s1,s2,d1]
   exact ⟨by omega,by omega,h5,by omega⟩
  ·have hb:ltB (i:Int) l.length=false:=by rw [Qd];omega
   simp (disch:=omega) [e0,e1,e5,hb]
   have:i=l.length:=by omega
   subst this
   refine QK (.inr rfl) (by simp) ⟨by simp,_,rfl,fin,?_⟩
   simp
theorem ZmE (nl:Bool) (k:Int) (n:Nat) (hk:0≤k∧k+2 * n≤4611686018427387904):Qe Tryz.prog ZW [CS false nl (Xa k n),N k] (·=N (k+2 * n)):=by
 refine Qe.of_codeOf ZgI Qz (by simp) ⟨_,rfl,by simp⟩ ?_
 have hlen:(Xa k n).length=n:=ZaV k n
 simp (disch:=omega) [Zbj]
 refine Wc n 0 (fun i t _=>t 5=N i∧t 1=N (k+2 * i)) (by simp) (by omega) ?_
 rintro i t1 hh hf hi ⟨e5,e1⟩
 (have e0:=hf 0 (by kernel_rfl);clear hf;simp [] at e0)
 by_cases h5:i < n
 ·have hb:ltB (i:Int) n=true:=by rw [Qf];omega
  have ix:=Zpl (Xa k n) false nl i (by omega)
  rw [Zpk k n i h5] at ix
  simp only at ix
  have q:∀ a:Int,eqB a a=true:=fun a=>by rw [Qc]
  simp (disch:=omega) [e0,e1,e5,hb,ix,hlen,q,Qg]
  exact ⟨h5,by omega⟩
 ·have hb:ltB (i:Int) n=false:=by rw [Qd];omega
  simp (disch:=omega) [e0,e1,e5,hlen,hb]
  rw [show i=n by omega]
inductive Val (s:GSys):List Int→GTerm→Prop
 | num {n:Int} {nl1 nl2:Bool} (h1:0≤n) (h2:n≤2):Val s [0] (.mk 1 n nl1 [] nl2 [])
 | pair {τ:List Int} {a b:GTerm} {nl1 nl2:Bool} (ok:okL s.size τ=true) (h:hd τ=1) (va:Val s (QJ τ) a) (vb:Val s (Wj τ) b):Val s τ (.mk 4 0 nl1 [] nl2 [a,b])
 | left {τ:List Int} {a:GTerm} {nl1 nl2:Bool} (ok:okL s.size τ=true) (h:hd τ=2) (va:Val s (QJ τ) a):Val s τ (.mk 6 0 nl1 (Wj τ) nl2 [a])
 | right {τ:List Int} {a:GTerm} {nl1 nl2:Bool} (ok:okL s.size τ=true) (h:hd τ=2) (va:Val s (Wj τ) a):Val s τ (.mk 7 0 nl1 (QJ τ) nl2 [a])
 | box {τ:List Int} {a:GTerm} {nl1 nl2:Bool} (ok:okL s.size τ=true) (h:WW (hd τ)=true) (va:Val s (QJ τ) a):Val s τ (.mk 11 (hd τ - 19) nl1 [] nl2 [a])
theorem Zby {c:Int} (h:c=1∨c=2):W2 c=some 2:=by
 rcases h with rfl | rfl<;>rfl
theorem ZqW {c:Int} (h:WW c=true):W2 c=some 1:=by
 have g:=(V0 c).1 h
 have na:¬ QW c=true:=by rw [Zm];omega
 unfold W2
 rw [if_neg (by omega),if_neg (by rintro (e | e | e);omega;omega;exact na e),if_pos h]
theorem Val.size {s:GSys} {τ:List Int} {v:GTerm} (h:Val s τ v):v.size≤τ.length:=by
 induction h with
 | num=>simp [GTerm.size,Xb]
 | pair ok h va vb iha ihb =>
  have e:=(ZZ ok (Zby (.inl h))).1
  have:=congrArg List.length e
  simp [GTerm.size,Xb] at this ⊢
  omega
 | left ok h va iha =>
  have e:=(ZZ ok (Zby (.inr h))).1
  have:=congrArg List.length e
  simp [GTerm.size,Xb] at this ⊢
  omega
 | right ok h va iha =>
  have e:=(ZZ ok (Zby (.inr h))).1
  have:=congrArg List.length e
  simp [GTerm.size,Xb] at this ⊢
  omega
 | box ok h va iha =>
  have e:=(Zh5 ok (ZqW h)).1
  have:=congrArg List.length e
  simp [GTerm.size,Xb] at this ⊢
  omega
theorem Val.wf {s:GSys} (hs:s.sys=true) {τ:List Int} {v:GTerm} (h:Val s τ v):v.wf:=by
 have h16:=(GSys.sys_of hs).hi
 have L0:Lok []:=by simp [Lok]
 have i:∀ n:Int,0≤n→n≤100→I64 n:=fun n a b=>by unfold I64;omega
 induction h with
 | num h1 h2=>simp only [GTerm.wf,wfs];exact ⟨i _ (by omega) (by omega),i _ (by omega) (by omega),L0,by simp,trivial⟩
 | pair ok h va vb iha ihb=>simp only [GTerm.wf,wfs];exact ⟨i _ (by omega) (by omega),i _ (by omega) (by omega),L0,by simp,iha,ihb,trivial⟩
 | left ok h va iha=>simp only [GTerm.wf,wfs];exact ⟨i _ (by omega) (by omega),i _ (by omega) (by omega),Zh3 (YA (ZZ ok (Zby (.inr h))).2.2),by simp,iha,trivial⟩
 | right ok h va iha=>simp only [GTerm.wf,wfs];exact ⟨i _ (by omega) (by omega),i _ (by omega) (by omega),Zh3 (YA (ZZ ok (Zby (.inr h))).2.1),by simp,iha,trivial⟩
 | @box τ a nl1 nl2 ok h va iha =>
  have:=(V0 (hd τ)).1 h
  simp only [GTerm.wf,wfs]
  exact ⟨i _ (by omega) (by omega),i _ (by omega) (by omega),L0,by simp,iha,trivial⟩
theorem of_sumty {s:GSys} (hs:s.sys=true) {cx:List (List Int)} (hc:∀ l∈cx,okL s.size l=true) {op n:Int} {nl1 nl2:Bool} {ty τ:List Int} {a:GTerm} (h:Of s cx (.mk op n nl1 ty nl2 [a]) τ):(op=6→ty=Wj τ)∧(op=7→ty=QJ τ):=by
 refine ⟨?_,?_⟩
 ·rintro rfl
  obtain ⟨ds,h1,nd,h2,h3,h4,h5,_⟩:=h.inv hs hc
  match ds,(show ds.length=1 by simpa using h1) with
  | [x],_ =>
  have k0:=h3 0 (by simp)
  simp [Qx,Qy,tyP] at k0
  have e:=(Yj (ty:=2::(tyP [x] 0++ty)) (nd:=ndP 6 [x] 0) (by simpa [QZ] using h4)).2.1
  have e':τ=2::(x.ty++ty):=by rw [h5];simpa [QZ,tyP] using e
  rw [e',ZdC (YA (k0.okL hs hc))]
 ·rintro rfl
  obtain ⟨ds,h1,nd,h2,h3,h4,h5,_⟩:=h.inv hs hc
  match ds,(show ds.length=1 by simpa using h1) with
  | [x],_ =>
  have hty:=nd.typed (by simp [XC,Qc])
  have e:=(Yj (ty:=2::(ty++tyP [x] 0)) (nd:=ndP 7 [x] 0) (by simpa [QZ] using h4)).2.1
  have e':τ=2::(ty++x.ty):=by rw [h5];simpa [QZ,tyP] using e
  rw [e',Zbr (YA hty)]
theorem of_boxn {s:GSys} (hs:s.sys=true) {cx:List (List Int)} (hc:∀ l∈cx,okL s.size l=true) {n:Int} {nl1 nl2:Bool} {ty τ:List Int} {a:GTerm} (h:Of s cx (.mk 11 n nl1 ty nl2 [a]) τ):n=hd τ - 19:=by
 obtain ⟨ds,h1,nd,h2,h3,h4,h5,_⟩:=h.inv hs hc
 match ds,(show ds.length=1 by simpa using h1) with
 | [x],_ =>
 have e:=(Yj (ty:=(19+n)::tyP [x] 0) (nd:=Wa s n (ndP 11 [x] 0)) (by simpa [QZ] using h4)).2.1
 have e':τ=(19+n)::x.ty:=by rw [h5];simpa [QZ,tyP] using e
 rw [e']
 simp [hd]
 try omega
theorem ZpY {f:Nat→List PC→GTerm→TTold} {k:GTerm} {l l2:Nat} {σ σ2:List PC} {vs:List GTerm} (h:XW f [k] l σ []=.ok l2 σ2 vs):∃ a,f l σ k=.ok l2 σ2 a∧vs=[a]:=by
 simp only [XW] at h
 split at h
 ·simp at h
 ·simp at h
 ·rename_i l1 σ1 v e
  simp only [KTold.ok.injEq,List.nil_append] at h
  obtain ⟨rfl,rfl,rfl⟩:=h
  exact ⟨v,e,rfl⟩
theorem ZpF {f:Nat→List PC→GTerm→TTold} {k1 k2:GTerm} {l l2:Nat} {σ σ2:List PC} {vs:List GTerm} (h:XW f [k1,k2] l σ []=.ok l2 σ2 vs):∃ l1 σ1 a b,f l σ k1=.ok l1 σ1 a∧f l1 σ1 k2=.ok l2 σ2 b∧vs=[a,b]:=by
 simp only [XW] at h
 split at h
 ·simp at h
 ·simp at h
 ·rename_i l1 σ1 v e
  split at h
  ·simp at h
  ·simp at h
  ·rename_i l3 σ3 w e2
   simp only [KTold.ok.injEq,List.nil_append] at h
   obtain ⟨rfl,rfl,rfl⟩:=h
   exact ⟨l1,σ1,v,w,e,e2,rfl⟩
theorem tell_val {s:GSys} (hs:s.sys=true):∀ (d l:Nat) (σ:List PC) (t:GTerm) (env:List Nat) (q:Int) (Γ:List (List Int)) (τ:List Int),WT s Γ σ→HT s Γ t env τ→s.G q→Zbk τ→∀ (l':Nat) (σ':List PC) (v:GTerm),Xk s d l σ t env q=.ok l' σ' v→Val s τ v:=by
 intro d
 induction d with
 | zero=>intro l σ t env q Γ τ w h hq hd l' σ' v e;simp [Xk] at e
 | succ d ih =>
  intro l σ t env q Γ τ w h hq hdat l' σ' v e
  rw [Xk] at e
  rcases Zlp hs (d+1) l σ t env q Γ τ w h hq with g | ⟨l1,σ1,v1,e1,Δ,g,_,_,w1,t1,v1v⟩
  ·rw [g] at e;simp at e
  ·rw [g] at e
   have hc:=w1.cx t1.eb
   have ok:=t1.of.okL hs hc
   have oh:=Yn ok
   have hmem:hd τ∈τ:=oh.2.2.2.2
   have na:=hdat _ hmem
   obtain ⟨d0,d1⟩:=ZnZ hdat
   have vh:=ZcW hs hc t1.of v1v
   have hcases:hd τ=0∨hd τ=1∨hd τ=2∨WW (hd τ)=true:=by
    rw [← Bool.not_eq_true,Zm] at na
    rw [V0]
    omega
   have one:∀ {k:GTerm} {τ':List Int} {q':Int} {l2:Nat} {σ2:List PC} {vs:List GTerm},s.G q'→Of s (e1.map fun j=>(Γ++Δ).getD j []) k τ'→Zbk τ'→XW (fun l σ k=>Xk s d l σ k e1 q') [k] l1 σ1 []=.ok l2 σ2 vs→∃ a,vs=[a]∧Val s τ' a:=by
    intro k τ' q' l2 σ2 vs hq' ho hd' hk
    obtain ⟨a,h1,h2⟩:=ZpY hk
    exact ⟨a,h2,ih _ _ _ _ _ _ _ w1 ⟨t1.eb,ho⟩ hq' hd' _ _ _ h1⟩
   have two:∀ {k1 k2:GTerm} {τ1 τ2:List Int} {q':Int} {l2:Nat} {σ2:List PC} {vs:List GTerm},s.G q'→Of s (e1.map fun j=>(Γ++Δ).getD j []) k1 τ1→Zbk τ1→Of s (e1.map fun j=>(Γ++Δ).getD j []) k2 τ2→Zbk τ2→XW (fun l σ k=>Xk s d l σ k e1 q') [k1,k2] l1 σ1 []=.ok l2 σ2 vs→∃ a b,vs=[a,b]∧Val s τ1 a∧Val s τ2 b:=by
    intro k1 k2 τ1 τ2 q' l2 σ2 vs hq' ho hd' ho2 hd2' hk
    obtain ⟨l3,σ3,a,b,h1,h2,h3⟩:=ZpF hk
    have va:=ih _ _ _ _ _ _ _ w1 ⟨t1.eb,ho⟩ hq' hd' _ _ _ h1
    rcases Zl3 hs d l1 σ1 k1 e1 q' (Γ++Δ) τ1 w1 ⟨t1.eb,ho⟩ hq' hd' with g2 | ⟨l4,σ4,v4,Δ2,g2,w2⟩
    ·rw [g2] at h1;simp at h1
    ·rw [g2] at h1
     simp only [TTold.ok.injEq] at h1
     obtain ⟨rfl,rfl,rfl⟩:=h1
     exact ⟨_,b,h3,va,ih _ _ _ _ _ _ _ w2 ((HT.mk t1.eb ho2).more Δ2) hq' hd2' _ _ _ h2⟩
   obtain ⟨op,n,nl1,ty,nl2,ks⟩:=v1
   simp only at e
   split at e
   ·simp at e
   have gq':s.G (if op=11 then s.tm q n else q):=by split;exact GSys.Gtm (GSys.sys_of hs) _ _;exact hq
   generalize (if op=11 then s.tm q n else q)=q' at *
   split at e
   ·simp at e
   ·simp at e
   rename_i l2 σ2 vs hK
   simp only [TTold.ok.injEq] at e
   obtain ⟨rfl,rfl,rfl⟩:=e
   have fm:=t1.of.fm
   simp only [Zk,Zeq,Bool.and_eq_true] at fm
   obtain ⟨⟨_,fn,ft⟩,_⟩:=fm
   rcases hcases with e | e | e | e
   ·have:=vh.1 e
    simp only [GTerm.opc] at this
    subst this
    obtain ⟨rfl,n0,n2,rfl⟩:=t1.of.numv hs hc
    have hty:ty=[]:=by simpa [tyB,XC,eqB] using ft
    subst hty
    simp only [XW,KTold.ok.injEq] at hK
    obtain ⟨_,_,rfl⟩:=hK
    exact .num n0 n2
   ·obtain ⟨n1,nl1',ty1,nl2',u1,u2,he,o1,o2⟩:=Zjh hs hc t1.of v1v e
    simp only [GTerm.mk.injEq] at he
    obtain ⟨rfl,rfl,rfl,rfl,rfl,rfl⟩:=he
    have hty:ty=[]:=by simpa [tyB,XC,eqB] using ft
    have hn:n=0:=by simpa [numB,Yd,eqB] using fn
    subst hty hn
    obtain ⟨a,b,rfl,va,vb⟩:=two gq' o1 d0 o2 d1 hK
    exact .pair ok e va vb
   ·obtain ⟨op1,n1,nl1',ty1,nl2',u1,he,ho⟩:=ZmR hs hc t1.of v1v e
    simp only [GTerm.mk.injEq] at he
    obtain ⟨rfl,rfl,rfl,rfl,rfl,rfl⟩:=he
    have tyq:=of_sumty hs hc t1.of
    rcases ho with ⟨rfl,o1⟩ | ⟨rfl,o1⟩
    ·have hn:n=0:=by simpa [numB,Yd,eqB] using fn
     subst hn
     obtain ⟨a,rfl,va⟩:=one gq' o1 d0 hK
     rw [tyq.1 rfl]
     exact .left ok e va
    ·have hn:n=0:=by simpa [numB,Yd,eqB] using fn
     subst hn
     obtain ⟨a,rfl,va⟩:=one gq' o1 d1 hK
     rw [tyq.2 rfl]
     exact .right ok e va
   ·obtain ⟨n1,nl1',ty1,nl2',u1,he,g1,o1⟩:=ZmW hs hc t1.of v1v e
    simp only [GTerm.mk.injEq] at he
    obtain ⟨rfl,rfl,rfl,rfl,rfl,rfl⟩:=he
    have hty:ty=[]:=by simpa [tyB,XC,eqB] using ft
    subst hty
    obtain ⟨a,rfl,va⟩:=one gq' o1 d0 hK
    rw [of_boxn hs hc t1.of]
    exact .box ok e va
mutual
theorem ZpX:∀ a:GTerm,a.nm.wf→a.wf
 | .mk op n nl1 ty nl2 ks,h=>by
  simp only [GTerm.wf,GTerm.nm] at *
  exact ⟨h.1,h.2.1,h.2.2.1,by have:=h.2.2.2.1;rw [Zih] at this;exact this,Zqj ks h.2.2.2.2⟩
theorem Zqj:∀ a:List GTerm,wfs (nms a)→wfs a
 | [],_=>by simp [wfs]
 | a::a',h=>by
  simp only [wfs,nms] at *
  exact ⟨ZpX a h.1,Zqj a' h.2⟩
end
structure RO where
 v:GTerm
 cl:List (Int×Int)
 lk:Int
 ok:Bool
def runU (s:GSys) (g:GTerm):RO:=match Zgu s g with
 | none=>⟨noT,[],0,false⟩
 | some (l,σ,v)=>⟨v,σ.map fun c=>(c.b,c.k),l,true⟩
def Znx (o:RO) (r:LV):Prop:=∃ z u nl,r=.tup [z,CS u nl o.cl,N o.lk,B o.ok]∧isTF o.v z
theorem ZoH.uni {s:GSys} {g:GTerm} {r:LV} (h:ZoH (Zgu s g) r) (lo:Low 0 r):∃ r',nz r'=nz r∧(Znx (runU s g) r'∧(QB r→QB r'))∧Low 0 r':=by
 unfold runU
 cases ho:Zgu s g with
 | none =>
  rw [ho] at h
  obtain ⟨u,u1,u2,rfl⟩:=h
  refine ⟨.tup [.agg noT.ownC,.sl u true 2 [],N 0,B false],by simp [noT,GTerm.ownC,KW,nz,Z6],⟨⟨_,u,true,rfl,noT.nm,_,rfl,VV _,by simp [noT,GTerm.nm,nms],by simp [noT,GTerm.nm,nms,GTerm.fl,flOk,fls]⟩,fun _=>?_⟩,by simp⟩
  have:=Zb8 noT
  simp [QB,QP,QL] at this ⊢
  exact this
 | some p =>
  obtain ⟨l,σ,v⟩:=p
  rw [ho] at h
  obtain ⟨z,u,nl,rfl,hz⟩:=h
  exact ⟨_,rfl,⟨⟨z,u,nl,rfl,hz⟩,id⟩,lo⟩
theorem runU_ok {s:GSys} {g:GTerm} (sw:s.wf) (gw:g.wf) (gf:g.fl):(runU s g).v.wf∧(runU s g).v.size≤400∧(runU s g).cl.length≤6000:=by
 have a:Arg s [] g:=⟨sw,⟨by simp,by simp⟩,gw,by simp,gf⟩
 unfold runU
 cases ho:Zgu s g with
 | none=>simp [noT,GTerm.wf,GTerm.size,wfs,Xb,I64,Lok]
 | some p =>
  obtain ⟨l,σ,v⟩:=p
  unfold Zgu at ho
  cases hx:ZQ s [] g with
  | none=>rw [hx] at ho;simp at ho
  | some x =>
   rw [hx] at ho
   simp only at ho
   split at ho
   ·rename_i hd
    obtain ⟨hs,g1,hns⟩:=Zfd a hx hd
    split at ho
    ·rename_i l' σ' v' ht
     simp only [Option.some.injEq,Prod.mk.injEq] at ho
     obtain ⟨rfl,rfl,rfl⟩:=ho
     obtain ⟨gx,_,_,ht1,_,tx⟩:=Zam a hx
     unfold GTerm.termB at ht1
     simp only [Bool.and_eq_true,decide_eq_true_eq] at ht1
     have w:WT s [] []:=⟨rfl,by simp,fun j c h=>by simp at h⟩
     have hT:HT s [] g [] x.ty:=⟨by simp,⟨by simpa using ht1.2.2,⟨x,by simpa using tx,rfl⟩,a.gw,a.gf⟩⟩
     have val:=tell_val hs 3001 0 [] g [] 1 [] x.ty w hT g1 (Zlr.1 hd) _ _ _ ht
     have h40:=QV gx.1
     have sz:=val.size
     have tl:=(VA (GSys.sys_of hs) _ _ _ _ _ _ _ _ _ ht ⟨by simp,by simp⟩ ⟨by simp,by simp⟩).1
     have:=tl.many
     have:=tl.top
     refine ⟨val.wf hs,by show v'.size≤400;omega,?_⟩
     simp at *;omega
    ·simp at ho
   ·simp at ho
theorem Zmr {s:GSys} {g:GTerm} (sw:s.wf) (gw:g.wf) (gf:g.fl):Qe Tryz.prog YC [s.lv,g.lv] (fun r=>Znx (runU s g) r∧QB r) :=
 Qe.nzR (Qe.low (Zk2 sw gw gf)) fun r h=>by
  obtain ⟨r',h1,h2,h3⟩:=h.1.1.uni h.2
  exact ⟨r',h1,⟨h2.1,h2.2 h.1.2⟩,h3⟩
theorem Zgn {s:GSys} {g:GTerm} (sw:s.wf) (gw:g.wf) (gf:g.fl):Qe Tryz.prog Zy [s.lv,g.lv] (Znx (runU s g)) :=
 Qe.nzR (Qe.low (Zfn sw gw gf)) fun r h=>by
  obtain ⟨r',h1,h2,h3⟩:=h.1.uni h.2
  exact ⟨r',h1,h2.1,h3⟩
theorem th_run {o:RO} {r y:LV} {n:Nat} {bs:List Box} (h:Znx o r) (hw:QB r) (ht:Th r n y bs):∃ (w:GTerm) (a b c d yC:LV) (bz bC:List Box) (nl:Bool),w.nm=o.v.nm∧y=.tup [.agg [a,b,c,d],yC,N o.lk,B o.ok]∧bs=bz++bC∧WI w.ownF n [a,b,c,d] bz∧(nl=true→o.cl=[])∧Th (CS (!nl) nl o.cl) (n+bz.length) yC bC ∧
  (share a=a∧share b=b∧share c=c∧share d=d∧share yC=yC)∧(a.alive=true∧b.alive=true∧c.alive=true∧d.alive=true):=by
 obtain ⟨z,u,nl,rfl,hz⟩:=h
 simp only [QB,QP] at hw
 obtain ⟨hwz,hwc,_⟩:=hw
 simp only [Th,WI] at ht
 obtain ⟨ys,rfl,y1,b1,ys1,b2,t1,⟨y2,b3,ys2,b4,t2,⟨y3,b5,ys3,b6,⟨rfl,rfl⟩,⟨y4,b7,ys4,b8,⟨rfl,rfl⟩,⟨rfl,rfl⟩,rfl,rfl⟩,rfl,rfl⟩,rfl,rfl⟩,rfl,rfl⟩:=ht
 have t2':Th (CS u nl o.cl) (n+b1.length) y2 b3:=by simpa only [Th] using t2
 obtain ⟨w,ys,w1,w2,rfl,w3⟩:=th_isTF hz hwz t1
 obtain ⟨a,b,c,d,e4,_,⟨s1,s2,s3,s4⟩,al⟩:=th4 (xs:=w.ownF) (n:=n) (y:=.agg ys) (bs:=b1) (by simp only [Th];exact ⟨_,rfl,w3⟩) (by simp)
 cases e4
 have sy:=Th.share _ _ _ _ t2'
 refine ⟨w,a,b,c,d,y2,b1,b3,nl,w1,rfl,by simp,w3,?_,?_,⟨s1,s2,s3,s4,sy⟩,al⟩
 ·rintro rfl
  rcases Zlo.1 t2' with ⟨h,_⟩ | ⟨h,_⟩
  ·exact h
  ·simp at h
 ·exact Zlo.2 (Zlo.1 t2')
theorem ZlP {nl:Bool} {l:List (Int×Int)} (h:nl=true→l=[]):QB (CS (!nl) nl l):=Zjv _ _ _ (by
 cases nl with
 | true=>exact .inl (h rfl)
 | false=>exact .inr ⟨rfl,rfl⟩)
theorem ZiY (u nl:Bool) (l:List (Int×Int)):share (CS u nl l)=CS false nl l:=by
 have:∀ l:List (Int×Int),Qv (l.map fun c=>[N c.1,N c.2])=l.map fun c=>[N c.1,N c.2]:=fun l=>by
  induction l with
  | nil=>rfl
  | cons c l ih=>simp only [List.map_cons,Qv,ih,shareAll,share]
 simp only [share,this]
theorem ZqO (h:List Box) (nl:Bool) (l:List (Int×Int)):Zw h (CS false nl l) (CS false nl l):=ZdG (by
 induction l with
 | nil=>simp
 | cons c l ih=>simp only [List.map_cons,WF];exact ⟨by simp,ih⟩) (by simp)
theorem Zkv (s:GSys) (g:GTerm) (hs:s.raw) (hg:g.raw):Qe Tryz.prog Jg [s.lv,g.lv] (·=B true):=by
 refine Qe.of_codeOf ZaM Qz (by simp) ⟨_,rfl,by simp⟩ ?_
 have whB:∀ b:Bool,∀ r,r=B b→QB r:=by rintro b r rfl;simp [QB]
 have whN:∀ b:Int,∀ r,r=N b→QB r:=by rintro b r rfl;simp [QB]
 have z1:=ZnO s hs 1048576 (by omega) (by omega)
 simp (disch:=omega) [Jn,Qu,Qo]
 refine Qa z1 (by simp) ?_
 simp (disch:=omega)
 (with_reducible first | refine Qm (fun h1=>?_) (fun h1=>?_) | refine Qn (fun h1=>?_) (fun h1=>?_))
 ·simp (disch:=omega)
 simp only [Qf,Qd,Qi,Qh,Qc,Qb,Bool.not_true,Bool.not_false] at h1
 have r1:=YX (a:=s.w) (m:=1048576) (by omega)
 have z3:=Zrv _ g (Nat.le_refl _) hg _ h1 (by omega)
 simp (disch:=omega)
 refine Qa z3 (by simp) ?_
 simp (disch:=omega)
 (with_reducible first | refine Qm (fun h3=>?_) (fun h3=>?_) | refine Qn (fun h3=>?_) (fun h3=>?_))
 ·simp (disch:=omega)
 simp only [Qf,Qd,Qi,Qh,Qc,Qb,Bool.not_true,Bool.not_false] at h3
 have r3:=YX (a:=g.w) h1
 have wb:s.w≤1048576∧g.w≤1048576:=by
  unfold XG at h1 h3 r1 r3
  grind
 clear z1 z3
 have sw:s.wf:=GSys.wf_of hs (by omega)
 have gw:g.wf:=wf_of g hg (by omega)
 have t1:=ZnG s sw
 have t3:=Zq3 _ g (Nat.le_refl _) gw
 have sw':s.norm.wf:=sw
 have SP:=Zgn sw' (norm_wf g gw) (Zh0 g)
 have IM:=Zmr sw' (norm_wf g gw) (Zh0 g)
 obtain ⟨ow,os,oc⟩:=runU_ok sw' (norm_wf g gw) (Zh0 g)
 generalize runU s.norm g.norm=o at *
 obtain ⟨G,cl,lk,ok⟩:=o
 simp only at ow os oc
 simp (disch:=omega)
 refine Qa t1 (by simp) ?_
 simp (disch:=omega)
 refine Qa t3 (by simp) ?_
 simp (disch:=omega)
 refine Qp (Qe.low SP) (by simp) ?_
 rintro r ⟨⟨z,us,ns,rfl,w,cs,rfl,csh,cn,_⟩,lo⟩
 simp only at cn
 have c4:cs.length=4:=by rw [← Wd,csh];simp
 have cal:=ZbG csh
 have tk4:List.take 4 cs=cs:=List.take_of_length_le (by omega)
 simp (disch:=omega) [c4,cal,csh,tk4]
 refine Zay t1 (QI (Za5 (Zhc _ s)) WY) (by rintro r rfl;exact ZlX s) fun x0 y0 b0 e hx0=>?_
 subst e
 have hx0':Th (.agg s.own) ([none,none,some cs]:List Box).length y0 b0:=by simpa using hx0
 obtain ⟨p0,p1,p2,p3,rfl,tx0,⟨sp0,sp1,sp2,sp3⟩,ap0,ap1,ap2,ap3⟩:=th4 hx0 rfl
 clear hx0 tx0
 simp (disch:=omega) [sp0,sp1,sp2,sp3]
 refine Zay t3 (QI (Za5 (VD _ g)) WY) (by rintro r rfl;simp only [QB];exact ZgH g) fun x2 y2 b2 e hx2=>?_
 subst e
 have hx2':Th (.agg g.own) ([none,none,some cs]++b0++[some [p0,p1,p2,p3]]:List Box).length y2 b2:=by simpa using hx2
 obtain ⟨q0,q1,q2,q3,rfl,tx2,⟨sq0,sq1,sq2,sq3⟩,aq0,aq1,aq2,aq3⟩:=th4 hx2 (by simp)
 clear hx2 tx2
 simp (disch:=omega) [sp0,sp1,sp2,sp3,ap0,ap1,ap2,ap3,sq0,sq1,sq2,sq3,aq0,aq1,aq2,aq3]
 have v0:∀ h,(∃ h2,h=[none,none,some cs]++b0++h2)→Zw h (share (.agg s.own)) (.agg [p0,p1,p2,p3]):=fun h ⟨h2,he⟩=>ZdJ (h:=h) (h2:=h2) (ZlX s) hx0' he
 have v2:∀ h,(∃ h2,h=[none,none,some cs]++b0++[some [p0,p1,p2,p3]]++b2++h2)→Zw h (share (.agg g.own)) (.agg [q0,q1,q2,q3]):=fun h ⟨h2,he⟩=>ZdJ (h:=h) (h2:=h2) (show QB (.agg g.own) by simp only [QB];exact ZgH g) hx2' he
 have ev0:share (.agg s.own)=s.norm.lv:=by simp only [share,GSys.share_own]
 have ev2:share (.agg g.own)=g.norm.lv:=by simp only [share,Ze3]
 rw [ev0] at v0
 rw [ev2] at v2
 refine Zay IM (QI (v0 _ (by simp)) (QI (v2 _ (by simp)) WY)) (fun r h=>h.2) fun x3 y3 bg hr hx3=>?_
 obtain ⟨wi,g0,g1,g2,g3,yC,bz,bC,nC,wnm,rfl,rfl,tg,hnC,tC,⟨sg0,sg1,sg2,sg3,sy⟩,ag0,ag1,ag2,ag3⟩:=th_run hr.1 hr.2 hx3
 clear hx3 hr
 simp only at wnm hnC tC
 have sv:=And.intro sp0 (And.intro sp1 (And.intro sp2 (And.intro sp3 (And.intro ap0 (And.intro ap1 (And.intro ap2 (And.intro ap3 (And.intro sq0 (And.intro sq1 (And.intro sq2 (And.intro sq3 (And.intro aq0 (And.intro aq1 (And.intro aq2 (And.intro aq3 (And.intro c4 (And.intro cal (And.intro csh (And.intro tk4 (And.intro sg0 (And.intro sg1 (And.intro sg2 (And.intro sg3 (And.intro ag0 (And.intro ag1 (And.intro ag2 (And.intro ag3 sy)))))))))))))))))))))))))))
 simp (disch:=omega) [sv]
 have Gw:wi.wf:=ZpX _ (by rw [wnm];exact wf_nm _ ow)
 have Gs:wi.size≤400:=by rw [nm_size wnm];exact os
 have EQ:=Zgw wi.size wi (Nat.le_refl _) Gw w
 rw [ZeO wi w (by rw [wnm,cn])] at EQ
 have EC:=Zid nC ns cl (by omega)
 have tg':WI wi.ownF ([none,none,some cs]++b0++[some [p0,p1,p2,p3]]++b2++[some [q0,q1,q2,q3]]:List Box).length [g0,g1,g2,g3] bz:=by simpa using tg
 have tC':Th (CS (!nC) nC cl) ([none,none,some cs]++b0++[some [p0,p1,p2,p3]]++b2++[some [q0,q1,q2,q3]]++bz:List Box).length yC bC:=(congrArg (fun n=>Th (CS (!nC) nC cl) n yC bC) (by simp;omega)).mp tC
 clear tg tC
 have vg:∀ (P h:List Box),P.length=([none,none,some cs]++b0++[some [p0,p1,p2,p3]]++b2++[some [q0,q1,q2,q3]]:List Box).length→(∃ h2,h=P++bz++h2)→Zw h wi.lv (.agg [g0,g1,g2,g3]):=fun P h hl ⟨h2,he⟩=>by
  have:=ZdJ (h:=h) (h1:=P) (h2:=h2) (t:=.agg wi.ownF) (y:=.agg [g0,g1,g2,g3]) (bs:=bz) (by simp only [QB];exact Zgd _ _ _ _ tg') (by simp only [Th];exact ⟨_,rfl,by rw [hl];exact tg'⟩) he
  simpa only [share,ZbE] using this
 have vC:∀ (P h:List Box),P.length=([none,none,some cs]++b0++[some [p0,p1,p2,p3]]++b2++[some [q0,q1,q2,q3]]++bz:List Box).length→(∃ h2,h=P++bC++h2)→Zw h (CS false nC cl) yC:=fun P h hl ⟨h2,he⟩=>by
  have:=ZdJ (h:=h) (h1:=P) (h2:=h2) (t:=CS (!nC) nC cl) (y:=yC) (bs:=bC) (ZlP hnC) (by rw [hl];exact tC') he
  rwa [ZiY] at this
 refine X9 EQ (QI (vg ([none,none,some cs]++b0++[some [p0,p1,p2,p3]]++b2++[some [q0,q1,q2,q3]]) _ rfl ⟨bC++[some [g0,g1,g2,g3]],by simp⟩) (QI (Za5 (VD _ w)) WY)) (whB _) ?_
 rintro r rfl
 have hbb:∀ x:Bool,Xw .bool .neq (B x) (B x)=some (B false):=fun x=>by simp [Xw,neg]
 have hll:eqB lk lk=true:=by rw [Qc]
 simp (disch:=omega) [sv,hbb,hll]
 refine X9 EC (QI (vC ([none,none,some cs]++b0++[some [p0,p1,p2,p3]]++b2++[some [q0,q1,q2,q3]]++bz) _ rfl ⟨[some [g0,g1,g2,g3]],by simp⟩) (QI (ZqO _ ns cl) WY)) (whB _) ?_
 rintro r rfl
 simp (disch:=omega) [sv,hbb,hll]
 have E0:=ZoN s.norm s.norm sw
 rw [GSys.same_refl] at E0
 have E2:=Zgw g.norm.size g.norm (Nat.le_refl _) (norm_wf g gw) g.norm
 rw [same_refl] at E2
 refine Qa t1 (by simp) ?_
 simp (disch:=omega) [sv]
 refine X9 E0 (QI (v0 _ (by simp)) (QI (Za5 (Zhc _ s.norm)) WY)) (whB _) ?_
 rintro r rfl
 simp (disch:=omega) [sv]
 refine Qa t3 (by simp) ?_
 simp (disch:=omega) [sv]
 refine X9 E2 (QI (v2 _ (by simp)) (QI (Za5 (VD _ g.norm)) WY)) (whB _) ?_
 rintro r rfl
 simp (disch:=omega) [sv]
 have tS:WI s.own ([none,none,some cs]:List Box).length [p0,p1,p2,p3] b0:=by
  have:=hx0'
  simp only [Th] at this
  obtain ⟨ys,e,h⟩:=this
  cases e;exact h
 have tT:WI g.norm.ownF ([none,none,some cs]++b0++[some [p0,p1,p2,p3]]:List Box).length [q0,q1,q2,q3] b2:=by
  have:=hx2'
  simp only [Th] at this
  obtain ⟨ys,e,h⟩:=this
  cases e;rw [← ZoD];exact h
 have wc:=w_cnt g
 have tcg:=ZoY g.norm
 have M1:=fun X=>Zph s 1 [none,none,some cs] X p0 p1 p2 p3 b0 (by omega) tS
 refine Y0 (M1 (some [p0,p1,p2,p3]::(b2++some [q0,q1,q2,q3]::(bz++(bC++[some [g0,g1,g2,g3]]))))) (by simp) ?_
 rintro r h' ⟨rfl,c0,ex0,l0,rfl⟩
 simp (disch:=omega) [sv,← l0]
 have M3:=fun X=>ZgT g.norm (1+s.w) ([none,none,some cs]++c0++[some [p0,p1,p2,p3]]) X [q0,q1,q2,q3] b2 (by omega) (by omega) (by
  have e:([none,none,some cs]++c0++[some [p0,p1,p2,p3]]:List Box).length=([none,none,some cs]++b0++[some [p0,p1,p2,p3]]:List Box).length:=by simp [l0]
  rw [e];exact tT)
 refine Y0 (M3 (some [q0,q1,q2,q3]::(bz++(bC++some [g0,g1,g2,g3]::ex0)))) (by simp) ?_
 rintro r h' ⟨rfl,c2,ex2,l2,_,rfl⟩
 have hk3:ltB (1+(s.w:Int)+(g.norm.tcnt:Int)) 0=false:=by rw [Qd];omega
 simp (disch:=omega) [sv,← l0,← l2,hk3]
 obtain ⟨P,hP⟩:∃ P:List Box,[none,none,some cs]++c0++[some [p0,p1,p2,p3]]++c2++[some [q0,q1,q2,q3]]=P:=⟨_,rfl⟩
 have hPl:P.length=([none,none,some cs]++b0++[some [p0,p1,p2,p3]]++b2++[some [q0,q1,q2,q3]]:List Box).length:=by rw [← hP];simp [l0,l2]
 have hPX:∀ X:List Box,none::none::some cs::(c0++some [p0,p1,p2,p3]::(c2++some [q0,q1,q2,q3]::X))=P++X:=fun X=>by rw [← hP];simp
 refine X9 EQ (QI (vg P _ hPl ⟨bC++some [g0,g1,g2,g3]::(ex0++ex2),by simp [hPX]⟩) (QI (Za5 (VD _ w)) WY)) (whB _) ?_
 rintro r rfl
 simp (disch:=omega) [sv,← l0,← l2,hbb,hll]
 have hPb:(P++bz).length=([none,none,some cs]++b0++[some [p0,p1,p2,p3]]++b2++[some [q0,q1,q2,q3]]++bz:List Box).length:=by rw [List.length_append,hPl,← List.length_append]
 refine X9 EC (QI (vC (P++bz) _ hPb ⟨some [g0,g1,g2,g3]::(ex0++ex2),by simp [hPX]⟩) (QI (ZqO _ ns cl) WY)) (whB _) ?_
 rintro r rfl
 simp (disch:=omega) [sv,← l0,← l2,hbb,hll]
 have tcG:wi.tcnt≤461168601842738:=by
  have:=ZoY wi
  have:=ZqD wi Gw
  omega
 have M4:=fun X=>ZgT wi 1 P X [g0,g1,g2,g3] bz (by omega) (by omega) (by rw [hPl];exact tg')
 refine Y0 (M4 (bC++some [g0,g1,g2,g3]::(ex0++ex2))) (by simp [hPX]) ?_
 rintro r h' ⟨rfl,cg,ex4,l4,tg4,rfl⟩
 rw [← hP]
 simp (disch:=omega) [sv,← l0,← l2,← l4]
 have M5:=fun X=>ZmS (!nC) nC cl (1+wi.tcnt) (by omega) (P++cg) X yC bC (by rw [List.length_append,l4,← List.length_append,hPb];exact tC')
 refine Y0 (M5 (some [g0,g1,g2,g3]::(ex0++(ex2++ex4)))) (by rw [← hP];simp) ?_
 rintro r h' ⟨rfl,cC,l5,tC5,rfl⟩
 have vm:∀ (h:List Box),(∃ h2,h=P++cg++h2)→Zw h (topT 1 wi).lv (.agg [g0,g1,g2,g3]):=fun h ⟨h2,he⟩=>by
  have:=ZdJ (h:=h) (h1:=P) (h2:=h2) (t:=.agg (topT 1 wi).ownF) (y:=.agg [g0,g1,g2,g3]) (bs:=cg) (by simp only [QB];exact Zgd _ _ _ _ tg4) (by simp only [Th];exact ⟨_,rfl,tg4⟩) he
  simpa only [share,ZbE] using this
 have hnM:nC=true→Xa (1+wi.tcnt) cl.length=[]:=fun e=>by rw [hnC e];rfl
 have vn:∀ (h:List Box),(∃ h2,h=P++cg++cC++h2)→Zw h (CS false nC (Xa (1+wi.tcnt) cl.length)) yC:=fun h ⟨h2,he⟩=>by
  have:=ZdJ (h:=h) (h1:=P++cg) (h2:=h2) (t:=CS (!nC) nC (Xa (1+wi.tcnt) cl.length)) (y:=yC) (bs:=cC) (ZlP hnM) tC5 he
  rwa [ZiY] at this
 have HD:=Zon wi 1 (by omega) (by omega)
 have HC:=ZmE nC (1+wi.tcnt) cl.length (by omega)
 have hq1:ltB (1+(wi.tcnt:Int)) 0=false:=by rw [Qd];omega
 have hq2:ltB (1+(wi.tcnt:Int)+2 * (cl.length:Int)) 0=false:=by rw [Qd];omega
 have hq3:eqB (1+(wi.tcnt:Int)+2 * (cl.length:Int)) (1+(wi.tcnt:Int)+2 * (cl.length:Int))=true:=by rw [Qc]
 rw [← hP]
 simp (disch:=omega) [sv,← l0,← l2,← l4,← l5]
 refine X9 HD (QI (vm _ ⟨cC++some [g0,g1,g2,g3]::(ex0++(ex2++ex4)),by simp [hPX]⟩) (QI ZbT WY)) (whN _) ?_
 rintro r rfl
 simp (disch:=omega) [sv,← l0,← l2,← l4,← l5,hq1,hq2,hq3]
 refine X9 HC (QI (vn _ ⟨some [g0,g1,g2,g3]::(ex0++(ex2++ex4)),by simp [hPX]⟩) (QI ZbT WY)) (whN _) ?_
 rintro r rfl
 simp (disch:=omega) [sv,← l0,← l2,← l4,← l5,hq1,hq2,hq3]
 refine Qa t1 (by simp) ?_
 simp (disch:=omega)
 refine Qa t3 (by simp) ?_
 simp (disch:=omega)
 refine Qp (Qe.low (IM.mono fun r h=>h.1)) (by simp) ?_
 rintro r ⟨⟨z2,u2,n2,rfl,w2,cs2,rfl,csh2,cn2,_⟩,lo2⟩
 simp only at cn2
 have c42:cs2.length=4:=by rw [← Wd,csh2];simp
 have cal2:=ZbG csh2
 have tk42:List.take 4 cs2=cs2:=List.take_of_length_le (by omega)
 have EQ2:=Zgw w2.size w2 (Nat.le_refl _) (ZpX _ (by rw [cn2];exact wf_nm _ ow)) w
 rw [ZeO w2 w (by rw [cn2,cn])] at EQ2
 have EC2:=Zid n2 ns cl (by omega)
 simp (disch:=omega) [sv,← l0,← l2,← l4,← l5,hq1,hq2,hq3,c42,cal2,csh2,tk42]
 refine Qa EQ2 (by simp) ?_
 simp (disch:=omega) [sv,← l0,← l2,← l4,← l5,hbb,hll]
 refine Qa EC2 (by simp) ?_
 simp (disch:=omega) [sv,← l0,← l2,← l4,← l5,hbb,hll]
 refine X9 HD (QI (vm _ ⟨cC++some [g0,g1,g2,g3]::(ex0++(ex2++(ex4++[some cs2]))),by simp [hPX]⟩) (QI ZbT WY)) (whN _) ?_
 rintro r rfl
 simp (disch:=omega) [sv,← l0,← l2,← l4,← l5,hq1,hq2,hq3]
 refine X9 HC (QI (vn _ ⟨some [g0,g1,g2,g3]::(ex0++(ex2++(ex4++[some cs2]))),by simp [hPX]⟩) (QI ZbT WY)) (whN _) ?_
 rintro r rfl
 simp (disch:=omega) [sv,← l0,← l2,← l4,← l5,hq1,hq2,hq3]
end Go.Proofs.YtbmepminmpjlcaaGreat