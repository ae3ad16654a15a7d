/- Part 2 of the proof of the row of the text YtbmepminmpjlcaaGreatZRowEvaluate: texts joined. No conditions. -/
import Derived.Orders
import Derived.Scope
import Derived.Test.YtbmepminmpjlcaaGreatZaRowEvaluate
set_option linter.unusedSimpArgs false
set_option linter.unusedVariables false
set_option linter.unusedSectionVars false
namespace Go.TL
def Zak (P:Program) (f:FuncId):Bool:=match P.funcs[f]? with
 | some fn=>!(fn.name == "runtime.NumGoroutine") && fn.body.isSome
 | none=>false
def Zq (w:World) (A:GM) (μ:List Nat) (h:List Box) (OH:List (List Own)) (Oa:List Own):Cx :=
 { w0:=w,A0:=A,μ0:=μ,T0:=fun b=>Kg μ h b∨K6 (Oa++OH.flatten) b }
def Ends (w:World) (A:GM) (μ:List Nat) (h:List Box) (OH:List (List Own)) (Oa:List Own) (R:LV->List Box->Prop) (e:Ending) (w':World):Prop :=
 ∃ v r h' B ν OH' O',e=.returned v∧R r h'∧Rep B (μ++ν) r v O'∧St' (Zq w A μ h OH Oa) w' B (μ++ν) h' OH' O'
def QE (P:Program) (f:FuncId) (args:List LV) (h:List Box) (R:LV->List Box->Prop):Prop :=
 Zak P f=true∧(∃ r h',R r h') ∧
 ∀ (w:World) (A:GM) (μ:List Nat) (OH:List (List Own)) (vals:List Value) (Oa:List Own),RepVals A μ args vals Oa->WInv w A μ h OH Oa ->
  Calls P f vals.toArray w (Ends w A μ h OH Oa R)
theorem QE.mono {P:Program} {f:FuncId} {args:List LV} {h:List Box} {R R':LV->List Box->Prop} (c:QE P f args h R) (hr:∀ r h',R r h'->R' r h'):QE P f args h R':=by
 obtain ⟨h1,⟨r,h',hR⟩,h2⟩:=c
 refine ⟨h1,⟨r,h',hr r h' hR⟩,fun w A μ OH vals Oa hv hi=>(h2 w A μ OH vals Oa hv hi).mono fun e w' he=>?_⟩
 obtain ⟨v,r,h',B,ν,OH',O',g1,g2,g3⟩:=he
 exact ⟨v,r,h',B,ν,OH',O',g1,hr _ _ g2,g3⟩
mutual
def Low (k:Nat):LV->Prop
 | .sc _=>True
 | .sl _ _ _ xs=>WV k xs
 | .ha l _ _ _ _=>l < k
 | .ptr l _=>l < k
 | .rp xs=>QI k xs
 | .fn _ xs=>QI k xs
 | .fnm _ xs=>QI k xs
 | .agg xs=>QI k xs
 | .tup xs=>QI k xs
 | .raw _=>True
 | .dead=>True
 | .both _ t=>Low k t
def QI (k:Nat):List LV->Prop
 | []=>True
 | x::xs=>Low k x∧QI k xs
def WV (k:Nat):List (List LV)->Prop
 | []=>True
 | x::xs=>QI k x∧WV k xs
end
section
variable {A:GM} {μ ν:List Nat} {k:Nat}
mutual
theorem Rep.low (hl:k<=ν.length) (he:∀ l,l < k->ν.getD l 0=μ.getD l 0):∀ (x:LV) (v:Value) (O:List Own),Low k x->Rep A μ x v O->Rep A ν x v O
 | .sc _,_,_,_,h=>by simpa only [Rep] using h
 | .sl _ _ _ xs,_,_,lo,h=>by
  simp only [Rep] at h ⊢
  simp only [Low] at lo
  rcases h with h | ⟨h1,b,off,sp,cap,O',h2,hs,h3,h4,h5⟩
  ·exact .inl h
  ·exact .inr ⟨h1,b,off,sp,cap,O',h2,hs,h3,Qw.low hl he xs _ _ _ _ lo h4,h5⟩
 | .ha l _ _ _ _,_,_,lo,h=>by
  simp only [Rep] at h ⊢
  simp only [Low] at lo
  obtain ⟨h1,h2,h3⟩:=h
  rw [<- he _ lo] at h3
  exact ⟨h1,by omega,h3⟩
 | .ptr _ _,_,_,lo,h=>by
  simp only [Rep] at h ⊢
  simp only [Low] at lo
  obtain ⟨h1,h2,h3⟩:=h
  rw [<- he _ lo] at h3
  exact ⟨h1,by omega,h3⟩
 | .rp xs,_,_,lo,h=>by
  simp only [Rep] at h ⊢
  simp only [Low] at lo
  obtain ⟨b,off,h1,h2⟩:=h
  exact ⟨b,off,h1,Qu.low hl he xs _ _ _ lo h2⟩
 | .fn _ xs,_,_,lo,h=>by
  simp only [Rep] at h ⊢
  simp only [Low] at lo
  obtain ⟨vs,h1,h2⟩:=h
  exact ⟨vs,h1,RepVals.low hl he xs _ _ lo h2⟩
 | .fnm _ xs,_,_,lo,h=>by
  simp only [Rep] at h ⊢
  simp only [Low] at lo
  obtain ⟨vs,h1,h2⟩:=h
  exact ⟨vs,h1,RepVals.low hl he xs _ _ lo h2⟩
 | .agg xs,_,_,lo,h=>by
  simp only [Rep] at h ⊢
  simp only [Low] at lo
  obtain ⟨vs,h1,h0,h2⟩:=h
  exact ⟨vs,h1,h0,RepVals.low hl he xs _ _ lo h2⟩
 | .tup xs,_,_,lo,h=>by
  simp only [Rep] at h ⊢
  simp only [Low] at lo
  obtain ⟨vs,h1,h2⟩:=h
  exact ⟨vs,h1,RepVals.low hl he xs _ _ lo h2⟩
 | .raw _,_,_,_,h=>by simpa only [Rep] using h
 | .dead,_,_,_,h=>by simpa only [Rep] using h
 | .both _ t,_,_,lo,h=>by
  simp only [Rep] at h ⊢
  simp only [Low] at lo
  exact ⟨h.1,h.2.1,Rep.low hl he t _ _ lo h.2.2⟩
theorem Qw.low (hl:k<=ν.length) (he:∀ l,l < k->ν.getD l 0=μ.getD l 0):∀ (xs:List (List LV)) (sz b off:Nat) (O:List Own),WV k xs->Qw A μ xs sz b off O->Qw A ν xs sz b off O
 | [],_,_,_,_,_,h=>by simpa only [Qw] using h
 | x::xs,_,_,_,_,lo,h=>by
  simp only [Qw] at h ⊢
  simp only [WV] at lo
  obtain ⟨O1,O2,h1,h2,h3,h4⟩:=h
  exact ⟨O1,O2,h1,h2,Qu.low hl he x _ _ _ lo.1 h3,Qw.low hl he xs _ _ _ _ lo.2 h4⟩
theorem Qu.low (hl:k<=ν.length) (he:∀ l,l < k->ν.getD l 0=μ.getD l 0):∀ (xs:List LV) (b off:Nat) (O:List Own),QI k xs->Qu A μ xs b off O->Qu A ν xs b off O
 | [],_,_,_,_,h=>by simpa only [Qu] using h
 | x::xs,_,_,_,lo,h=>by
  simp only [Qu] at h ⊢
  simp only [QI] at lo
  obtain ⟨v,O1,O2,h1,h2,h2',h3,h4⟩:=h
  exact ⟨v,O1,O2,h1,h2,h2',Rep.low hl he x _ _ lo.1 h3,Qu.low hl he xs _ _ _ lo.2 h4⟩
theorem RepVals.low (hl:k<=ν.length) (he:∀ l,l < k->ν.getD l 0=μ.getD l 0):∀ (xs:List LV) (vs:List Value) (O:List Own),QI k xs->RepVals A μ xs vs O->RepVals A ν xs vs O
 | [],_,_,_,h=>by simpa only [RepVals] using h
 | x::xs,_,_,lo,h=>by
  simp only [RepVals] at h ⊢
  simp only [QI] at lo
  obtain ⟨v,ws,O1,O2,h1,h2,h3,h4⟩:=h
  exact ⟨v,ws,O1,O2,h1,h2,Rep.low hl he x _ _ lo.1 h3,RepVals.low hl he xs _ _ lo.2 h4⟩
end
end
section
variable {x:Cx} {w:World} {A:GM} {μ:List Nat} {h:List Box} {OH:List (List Own)} {O:List Own}
theorem St'.cut (s:St' x w A μ h OH O) (k:Nat) (hk:x.μ0.length<=k) (hlow:∀ l xs,l < k->h[l]?=some (some xs)->QI k xs) (hkl:k<=h.length):St' x w A (μ.take k) (h.take k) (OH.take k) O:=by
 have hlen:=s.inv.len
 have hlenO:=s.inv.lenO
 have hget:∀ l,l < k->(μ.take k).getD l 0=μ.getD l 0:=fun l hl=>by
  rw [List.getD_eq_getElem?_getD,List.getElem?_take,if_pos hl,<- List.getD_eq_getElem?_getD]
 have hbox:∀ (l:Nat) (xs:List LV),(h.take k)[l]?=some (some xs)->l < k∧h[l]?=some (some xs):=by
  intro l xs hl
  rw [List.getElem?_take] at hl
  split at hl
  ·exact ⟨by assumption,hl⟩
  ·simp at hl
 have hlive:∀ b,Kg (μ.take k) (h.take k) b->Kg μ h b:=by
  rintro b ⟨l,xs,h1,h2⟩
  obtain ⟨h3,h4⟩:=hbox l xs h1
  exact ⟨l,xs,h4,by rw [<- hget l h3];exact h2⟩
 have hfl:Zi (O++(OH.take k).flatten) (O++OH.flatten):=by
  intro p
  simp only [List.countP_append]
  have:OH.flatten=(OH.take k).flatten++(OH.drop k).flatten:=by rw [<- List.flatten_append,List.take_append_drop]
  rw [this,List.countP_append];omega
 refine ⟨⟨by simp [hlen],by simp [hlenO],s.inv.cells,?_,?_,?_,?_,fun b=>Nat.le_trans (hfl (XF b)) (s.inv.once b)⟩,⟨s.since.size,s.since.kept,?_,fun b hb=>s.since.liveT b (hlive b hb),s.since.le,?_,s.since.still⟩⟩
 ·intro l xs hl
  obtain ⟨h1,h2⟩:=hbox l xs hl
  obtain ⟨c,e,g1,g2,g3⟩:=s.inv.box l xs h2
  refine ⟨c,e,by rw [hget l h1];exact g1,?_,g3⟩
  rw [List.getD_eq_getElem?_getD,List.getElem?_take,if_pos h1,<- List.getD_eq_getElem?_getD]
  exact RepVals.low (k:=k) (by simp;omega) (fun j hj=>hget j hj) xs _ _ (hlow l xs h1 h2) g2
 ·exact fun b hb i=>s.inv.loose b (hlive b hb) i
 ·intro l l' xs xs' hl hl' he
  obtain ⟨h1,h2⟩:=hbox l xs hl
  obtain ⟨h3,h4⟩:=hbox l' xs' hl'
  rw [hget l h1,hget l' h3] at he
  exact s.inv.apart l l' xs xs' h2 h4 he
 ·intro b m c hm
  obtain ⟨g1,g2,g3⟩:=s.inv.own b m c (hfl.mem hm)
  exact ⟨g1,g2,fun hl=>g3 (hlive b hl)⟩
 ·exact fun b m c hm=>s.since.ownT b m c (hfl.mem hm)
 ·obtain ⟨ν,hν⟩:=s.since.ext
  exact ⟨ν.take (k - x.μ0.length),by rw [hν,List.take_append,List.take_of_length_le hk]⟩
end
section
variable {w w':World} {A B:GM} {μ:List Nat} {h:List Box} {OH:List (List Own)} {Oa O':List Own}
theorem St'.frame (i:WInv w A μ h OH Oa) (c:St' (Zq w A [] [] [] Oa) w' B [] [] [] O'):St' (Zq w A μ h OH Oa) w' B μ h OH O':=by
 have csz:w.heap.size<=w'.heap.size:=c.since.size
 have nlive:∀ b,Kg μ h b->b < w.heap.size∧¬ (Kg [] [] b∨K6 (Oa++([]:List (List Own)).flatten) b):=by
  intro b hb
  refine ⟨i.live_lt hb,?_⟩
  rintro (⟨l,xs,h1,_⟩ | ⟨m,k,ho⟩)
  ·simp at h1
  ·exact (i.own b m k (by simp at ho;exact List.mem_append.2 (.inl ho))).2.2 hb
 have nown:∀ b m k,(b,m,k)∈OH.flatten->b < w.heap.size∧¬ (Kg [] [] b∨K6 (Oa++([]:List (List Own)).flatten) b):=by
  intro b m k hm
  refine ⟨i.own_lt (List.mem_append.2 (.inr hm)),?_⟩
  rintro (⟨l,xs,h1,_⟩ | ⟨m',k',ho⟩)
  ·simp at h1
  ·have h1:=i.once b
   simp only [List.countP_append] at h1
   have h2:0 < OH.flatten.countP (XF b):=W4.1 ⟨m,k,hm⟩
   have h3:0 < Oa.countP (XF b):=W4.1 ⟨m',k',by simpa using ho⟩
   omega
 have cown:∀ b m k,(b,m,k)∈O'->w.heap.size<=b∨K6 Oa b:=by
  intro b m k hm
  rcases c.since.ownT b m k (by simpa using hm) with h1 | h1 | ⟨m',k',ho⟩
  ·exact .inl h1
  ·obtain ⟨l,xs,h2,_⟩:=h1;simp at h2
  ·exact .inr ⟨m',k',by simpa using ho⟩
 refine ⟨⟨i.len,i.lenO,c.inv.cells,?_,?_,i.apart,?_,?_⟩,⟨csz,?_,?_,fun b hb=>.inr (.inl hb),c.since.le,⟨[],by simp [Zq]⟩,c.since.still⟩⟩
 ·intro l xs hl
  obtain ⟨cs,e,g1,g2,g3⟩:=i.box l xs hl
  obtain ⟨hlt,hT⟩:=nlive _ ⟨l,xs,hl,rfl⟩
  obtain ⟨k1,k2⟩:=c.since.kept _ hlt hT
  refine ⟨cs,e,by rw [k1];exact g1,?_,g3⟩
  have:=RepVals.mono (ν:=[]) c.since.le xs cs.toList _ g2
  rwa [List.append_nil] at this
 ·intro b hb j
  obtain ⟨hlt,hT⟩:=nlive b hb
  obtain ⟨_,k2⟩:=c.since.kept _ hlt hT
  rw [k2 j];exact i.loose b hb j
 ·intro b m k hm
  rcases List.mem_append.1 hm with hm | hm
  ·obtain ⟨g1,g2,_⟩:=c.inv.own b m k (by simpa using hm)
   refine ⟨g1,g2,fun hl=>?_⟩
   rcases cown b m k hm with h1 | ⟨m',k',h1⟩
   ·have:=i.live_lt hl;omega
   ·exact (i.own b m' k' (List.mem_append.2 (.inl h1))).2.2 hl
  ·obtain ⟨hlt,hT⟩:=nown b m k hm
   obtain ⟨⟨cs,e,g1,g2⟩,g3,g4⟩:=i.own b m k (List.mem_append.2 (.inr hm))
   obtain ⟨k1,k2⟩:=c.since.kept _ hlt hT
   exact ⟨⟨cs,e,by rw [k1];exact g1,g2⟩,fun j hj=>by rw [k2 j];exact g3 j hj,g4⟩
 ·intro b
  have h1:=i.once b
  have h2:=c.inv.once b
  simp only [List.countP_append,List.flatten_nil,List.countP_nil] at h1 h2 ⊢
  by_cases hb:0 < OH.flatten.countP (XF b)
  ·have h4:O'.countP (XF b)=0:=by
    refine Nat.eq_zero_of_not_pos fun hp=>?_
    obtain ⟨m,k,hm⟩:=W4.2 hp
    obtain ⟨m',k',hm'⟩:=W4.2 hb
    rcases cown b m k hm with h5 | h5
    ·have:=(nown b m' k' hm').1;omega
    ·have:=W4.1 h5;omega
   omega
  ·omega
 ·intro b hb ht
  refine c.since.kept b hb fun hc=>ht ?_
  rcases hc with ⟨l,xs,h1,_⟩ | ⟨m,k,ho⟩
  ·simp at h1
  ·exact .inr ⟨m,k,List.mem_append.2 (.inl (by simpa using ho))⟩
 ·intro b m k hm
  rcases List.mem_append.1 hm with hm | hm
  ·rcases cown b m k hm with h1 | ⟨m',k',h1⟩
   ·exact .inl h1
   ·exact .inr (.inr ⟨m',k',List.mem_append.2 (.inl h1)⟩)
  ·exact .inr (.inr ⟨m,k,List.mem_append.2 (.inr hm)⟩)
end
def Qe (P:Program) (f:FuncId) (args:List LV) (R:LV->Prop):Prop:=QE P f args [] fun r _=>R r∧Low 0 r
theorem QI.mono {k m:Nat} (h:k<=m) {xs:List LV} (hx:QI k xs):QI m xs:=goA xs hx
where
 go:∀ x:LV,Low k x->Low m x
  | .sc _,_=>trivial
  | .sl _ _ _ xs,hx=>goR xs hx
  | .ha _ _ _ _ _,hx=>Nat.lt_of_lt_of_le hx h
  | .ptr _ _,hx=>Nat.lt_of_lt_of_le hx h
  | .rp xs,hx=>goA xs hx
  | .fn _ xs,hx=>goA xs hx
  | .fnm _ xs,hx=>goA xs hx
  | .agg xs,hx=>goA xs hx
  | .tup xs,hx=>goA xs hx
  | .raw _,_=>trivial
  | .dead,_=>trivial
  | .both _ t,hx=>go t hx
 goA:∀ xs:List LV,QI k xs->QI m xs
  | [],_=>trivial
  | x::xs,hx=>⟨go x hx.1,goA xs hx.2⟩
 goR:∀ xs:List (List LV),WV k xs->WV m xs
  | [],_=>trivial
  | x::xs,hx=>⟨goA x hx.1,goR xs hx.2⟩
section
variable {P:Program}
theorem Qe.lift {f:FuncId} {args:List LV} {R:LV->Prop} (c:Qe P f args R) (ha:QI 0 args) (h:List Box):QE P f args h fun r h'=>h'=h∧R r:=by
 obtain ⟨h1,⟨r,_,hr,_⟩,h2⟩:=c
 refine ⟨h1,⟨r,h,rfl,hr⟩,fun w A μ OH vals Oa hv hi=>?_⟩
 have hv0:RepVals A [] args vals Oa:=RepVals.low (k:=0) (by simp) (fun l hl=>by omega) args vals Oa ha hv
 have hi0:WInv w A [] [] [] Oa:=by
  refine ⟨rfl,rfl,hi.cells,by simp,?_,by simp,?_,?_⟩
  ·rintro b ⟨l,xs,hl,_⟩;simp at hl
  ·intro b m k hm
   obtain ⟨g1,g2,_⟩:=hi.own b m k (List.mem_append.2 (.inl (by simpa using hm)))
   exact ⟨g1,g2,by rintro ⟨l,xs,hl,_⟩;simp at hl⟩
  ·intro b
   have:=hi.once b
   simp only [List.countP_append,List.flatten_nil,List.countP_nil] at this ⊢
   omega
 refine (h2 w A [] [] vals Oa hv0 hi0).mono fun e w' he=>?_
 obtain ⟨v,r,h',B,ν,OH',O',g1,⟨g2,glow⟩,g3,g4⟩:=he
 have g5:=g4.cut 0 (by simp [Zq]) (fun l xs hl=>by omega) (Nat.zero_le _)
 simp only [List.take_zero] at g5
 have g6:=St'.frame hi g5
 refine ⟨v,r,h,B,[],OH,O',g1,⟨rfl,g2⟩,?_,by rw [List.append_nil];exact g6⟩
 refine Rep.low (k:=0) (by simp) (fun l hl=>by omega) r v O' glow g3
theorem Qe.mono {f:FuncId} {args:List LV} {R R':LV->Prop} (c:Qe P f args R) (h:∀ r,R r->R' r):Qe P f args R' :=
 QE.mono c fun r _ hr=>⟨h r hr.1,hr.2⟩
end
def ZgP (t:Nat->LV):Option Nat->LV->(Nat->LV)
 | some d,v=>upd t d v
 | none,_=>t
def WA (s:St) (d:Option Nat) (r:LV) (h':List Box):St:={ t:=ZgP s.t d r,h:=h' }
def apWp (sz:Nat) (vals:List LV) (h:List Box) (Kr:LV->List Box->Prop):Prop:=∃ x nil2 ys,vals=[x,.sl false nil2 sz ys]∧ys≠[] ∧
 ((∃ u z,x=.sl u true z []∧ys.length<=WX∧∀ cap slack,ys.length<=cap->ys.length * sz+slack=cap * sz->Kr (.ha h.length sz 0 ys.length cap) (h++[some (ys.flatten++List.replicate slack .dead)])) ∨
  (∃ l n cap xs,x=.ha l sz 0 n cap∧h[l]?=some (some xs)∧xs.length=cap * sz∧n<=cap∧n+ys.length<=WX ∧
   (n+ys.length<=cap->Kr (.ha l sz 0 (n+ys.length) cap) (h.set l (some (splice xs (n * sz) ys.flatten)))) ∧
   (cap < n+ys.length->∀ cap' slack,n+ys.length<=cap'->(n+ys.length) * sz+slack=cap' * sz->Kr (.ha h.length sz 0 (n+ys.length) cap') (h.set l (some (List.replicate xs.length .dead))++[some (xs.take (n * sz)++ys.flatten++List.replicate slack .dead)]))))
theorem ZnM {sz:Nat} {vals:List LV} {h:List Box} {Kr Kr':LV->List Box->Prop} (c:apWp sz vals h Kr) (hk:∀ r h',Kr r h'->Kr' r h'):apWp sz vals h Kr':=by
 obtain ⟨x,nil2,ys,e,hne,c⟩:=c
 refine ⟨x,nil2,ys,e,hne,?_⟩
 rcases c with ⟨u,z,c1,c2,c3⟩ | ⟨l,n,cap,xs,c1,c2,c3,c4,c5,c6,c7⟩
 ·exact .inl ⟨u,z,c1,c2,fun cap slack q1 q2=>hk _ _ (c3 cap slack q1 q2)⟩
 ·exact .inr ⟨l,n,cap,xs,c1,c2,c3,c4,c5,fun q=>hk _ _ (c6 q),fun q cap' slack q1 q2=>hk _ _ (c7 q cap' slack q1 q2)⟩
theorem apWp_ex {sz:Nat} {vals:List LV} {h:List Box} {Kr:LV->List Box->Prop} (c:apWp sz vals h Kr):∃ r h',Kr r h':=by
 obtain ⟨x,nil2,ys,e,hne,c⟩:=c
 rcases c with ⟨u,z,c1,c2,c3⟩ | ⟨l,n,cap,xs,c1,c2,c3,c4,c5,c6,c7⟩
 ·exact ⟨_,_,c3 ys.length 0 (Nat.le_refl _) rfl⟩
 ·by_cases q:n+ys.length<=cap
  ·exact ⟨_,_,c6 q⟩
  ·exact ⟨_,_,c7 (by omega) (n+ys.length) 0 (Nat.le_refl _) rfl⟩
def Zb8 (P:Program) (rw:Rw) (fid:FuncId) (vals:List LV) (h:List Box) (Kr:LV->List Box->Prop):Prop :=
 match rw with
 | .any=>QE P fid vals h Kr
 | .no=>QI 0 vals∧∃ R,Qe P fid vals R∧∀ r,R r->Kr r h
 | .fr=>∃ (l o:Nat) (xs:List LV) (Q:LV->List LV->Prop),.ptr l o∈vals∧h[l]?=some (some xs)∧(∀ h2:List Box,h2[l]?=some (some xs)->QE P fid vals h2 fun r h'=>∃ xs',Q r xs'∧h'=h2.set l (some xs')) ∧
   ∀ r xs',Q r xs'->Kr r (h.set l (some xs'))
 | .ap sz=>apWp sz vals h Kr
theorem Zha {P:Program} {sz:Nat} {fid:FuncId} {vals:List LV} {h:List Box} {Kr:LV->List Box->Prop}:Zb8 P (.ap sz) fid vals h Kr ↔ apWp sz vals h Kr:=Iff.rfl
theorem Zag {P:Program} {fid:FuncId} {vals:List LV} {h:List Box} {Kr:LV->List Box->Prop}:Zb8 P .any fid vals h Kr ↔ QE P fid vals h Kr:=Iff.rfl
theorem Zcb {P:Program} {fid:FuncId} {vals:List LV} {h:List Box} {Kr:LV->List Box->Prop}:Zb8 P .no fid vals h Kr ↔ QI 0 vals∧∃ R,Qe P fid vals R∧∀ r,R r->Kr r h:=Iff.rfl
theorem V0 {P:Program} {fid:FuncId} {vals:List LV} {h:List Box} {Kr:LV->List Box->Prop}:Zb8 P .fr fid vals h Kr ↔ ∃ (l o:Nat) (xs:List LV) (Q:LV->List LV->Prop),.ptr l o∈vals∧h[l]?=some (some xs) ∧
  (∀ h2:List Box,h2[l]?=some (some xs)->QE P fid vals h2 fun r h'=>∃ xs',Q r xs'∧h'=h2.set l (some xs'))∧∀ r xs',Q r xs'->Kr r (h.set l (some xs')):=Iff.rfl
theorem VX {P:Program} {rw:Rw} {fid:FuncId} {vals:List LV} {h:List Box} {Kr Kr':LV->List Box->Prop} (c:Zb8 P rw fid vals h Kr) (hk:∀ r h',Kr r h'->Kr' r h'):Zb8 P rw fid vals h Kr':=by
 cases rw with
 | any=>rw [Zag] at c ⊢;exact c.mono hk
 | no =>
  rw [Zcb] at c ⊢
  obtain ⟨lo,R,h1,h2⟩:=c
  exact ⟨lo,R,h1,fun r hr=>hk r h (h2 r hr)⟩
 | fr =>
  rw [V0] at c ⊢
  obtain ⟨l,o,xs,Q,h0,h1,h2,h3⟩:=c
  exact ⟨l,o,xs,Q,h0,h1,h2,fun r xs' hq=>hk _ _ (h3 r xs' hq)⟩
 | ap sz=>rw [Zha] at c ⊢;exact ZnM c hk
theorem ZmG {P:Program} {rw:Rw} {fid:FuncId} {vals:List LV} {h:List Box} {Kr:LV->List Box->Prop} (hna:∀ sz,rw≠.ap sz) (c:Zb8 P rw fid vals h Kr):QE P fid vals h Kr:=by
 cases rw with
 | any=>rwa [Zag] at c
 | no =>
  rw [Zcb] at c
  obtain ⟨lo,R,h1,h2⟩:=c
  exact (h1.lift lo h).mono fun r h' hr=>by rw [hr.1];exact h2 r hr.2
 | fr =>
  rw [V0] at c
  obtain ⟨l,o,xs,Q,h0,h1,h2,h3⟩:=c
  exact (h2 h h1).mono fun r h' hr=>by
   obtain ⟨xs',hq,rfl⟩:=hr
   exact h3 r xs' hq
 | ap sz=>exact absurd rfl (hna sz)
def ZW (v:LV) (as:List LV):Option (FuncId×List LV) :=
 match v with
 | .fn f caps=>some (f,as++shareAll caps)
 | .fnm f first=>some (f,shareAll first++as)
 | _=>none
def Z7 (P:Program) (rw:Rw) (d:Option Nat) (f:X) (args:List X) (K:St->Prop) (s:St):Prop :=
 ∃ fid vals,ZW (get s.t f) (args.map (fun x=>share (get s.t x)))=some (fid,vals)∧Zb8 P rw fid vals s.h (fun r h'=>K (WA s d r h'))
def wpG (P:Program) (g:GI) (K:St->Prop) (s:St):Prop :=
 match g.2 with
 | .call rw d f args=>match g.1 with
  | none=>Z7 P rw d f args K s
  | some (j,want)=>∃ b,gd want (s.t j)=some b∧(b=want->Z7 P rw d f args K s)∧(¬ b=want->K (TL.skip g.2 s))
 | _=>∃ s',Wj g s=some s'∧K s'
def wpL (P:Program):List GI->(St->Prop)->St->Prop
 | [],Q,s=>Q s
 | g::gs,Q,s=>wpG P g (wpL P gs Q) s
section
variable {P:Program}
theorem Ziz {rw:Rw} {d:Option Nat} {f:X} {args:List X} {K K':St->Prop} {s:St} (h:Z7 P rw d f args K s) (hk:∀ s',K s'->K' s'):Z7 P rw d f args K' s:=by
 obtain ⟨fid,caps,h1,h2⟩:=h
 exact ⟨fid,caps,h1,VX h2 fun r h' hr=>hk _ hr⟩
theorem WF {g:GI} {K K':St->Prop} {s:St} (h:wpG P g K s) (hk:∀ s',K s'->K' s'):wpG P g K' s:=by
 unfold wpG at h ⊢
 split
 ·split
  ·rename_i hg1;simp only [hg1] at h
   rename_i hg2 _;simp only [hg2] at h
   exact Ziz h hk
  ·rename_i hg2 _ _ _ hg1
   simp only [hg2,hg1] at h
   obtain ⟨b,h1,h2,h3⟩:=h
   exact ⟨b,h1,fun e=>Ziz (h2 e) hk,fun e=>hk _ (by simpa [hg2] using h3 e)⟩
 ·rename_i hne
  split at h
  ·rename_i rw d f args hg2
   exact absurd hg2 (hne rw d f args)
  ·obtain ⟨s',h1,h2⟩:=h
   exact ⟨s',h1,hk _ h2⟩
theorem Wl {g:GI} {K:St->Prop} {s:St} (hc:g.2.isCall=false):wpG P g K s ↔ ∃ s',Wj g s=some s'∧K s':=by
 unfold wpG
 split
 ·rename_i hg;simp [hg,I.isCall] at hc
 ·exact Iff.rfl
theorem JY {g:GI} {K:St->Prop} {s:St} {rw:Rw} {d:Option Nat} {f:X} {args:List X} (hg:g.2=.call rw d f args) :
  wpG P g K s ↔ match g.1 with
   | none=>Z7 P rw d f args K s
   | some (j,want)=>∃ b,gd want (s.t j)=some b∧(b=want->Z7 P rw d f args K s)∧(¬ b=want->K (TL.skip (.call rw d f args) s)):=by
 unfold wpG
 simp only [hg]
theorem KR {t:Nat->LV} {d:Option Nat} {v:LV} {k:Nat} (h:k ∉ d.toList):ZgP t d v k=t k:=by
 cases d with
 | none=>rfl
 | some d=>exact Ws _ _ _ (fun e=>h (by simp [e]))
theorem Zg0 {g:GI} {d:Option Nat} {s s1:St} {r:LV} {h':List Box} (h1:Wj g s=some s1) (hd1:∀ k∈d.toList,k ∉ Wd g) (hd2:∀ k∈d.toList,k ∉ g.2.writes) (hhw:g.2.hw=false)
  (hh:g.2.hr=true->h'=s.h):Wj g (WA s d r h')=some (WA s1 d r h'):=by
 have l:=KG g s (WA s d r h') (fun k hk=>(KR (fun hk'=>hd1 k hk' hk)).symm) (fun h=>(hh h).symm) (Zj9 _)
 rw [h1] at l
 cases h2:Wj g (WA s d r h') with
 | none=>rw [h2] at l;exact l.elim
 | some s2 =>
  rw [h2] at l
  have f1:=Ww g s s1 h1
  have f2:=Ww g _ s2 h2
  congr 1
  have et:s2.t=ZgP s1.t d r:=by
   funext k
   by_cases hk:k∈g.2.writes
   ·rw [<- l.1 k hk,KR (fun hk'=>hd2 k hk' hk)]
   ·rw [f2.1 k hk]
    show ZgP s.t d r k=_
    cases d with
    | none=>exact (f1.1 k hk).symm
    | some d =>
     simp only [ZgP]
     by_cases e:k=d
     ·subst e;rw [QO,QO]
     ·rw [Ws _ _ _ e,Ws _ _ _ e];exact (f1.1 k hk).symm
  have eh:s2.h=h':=f2.2 hhw
  cases s2
  simp only at et eh
  rw [et,eh];rfl
theorem ZP {g:GI} {d:Option Nat} {s s2:St} {r:LV} {h':List Box} (h2:Wj g (WA s d r h')=some s2) (hd1:∀ k∈d.toList,k ∉ Wd g) (hd2:∀ k∈d.toList,k ∉ g.2.writes) (hhw:g.2.hw=false)
  (hh:g.2.hr=true->h'=s.h):∃ s1,Wj g s=some s1∧s2=WA s1 d r h':=by
 have l:=KG g s (WA s d r h') (fun k hk=>(KR (fun hk'=>hd1 k hk' hk)).symm) (fun h=>(hh h).symm) (Zj9 _)
 rw [h2] at l
 cases h1:Wj g s with
 | none=>rw [h1] at l;exact l.elim
 | some s1 =>
  have:=Zg0 (r:=r) (h':=h') h1 hd1 hd2 hhw hh
  rw [this] at h2
  exact ⟨s1,rfl,by simpa using h2.symm⟩
theorem ZkH {g:GI} {d:Option Nat} {s s1:St} {r:LV} (h1:Wj g s=some s1) (hd1:∀ k∈d.toList,k ∉ Wd g) (hd2:∀ k∈d.toList,k ∉ g.2.writes) :
  Wj g (WA s d r s.h)=some (WA s1 d r s1.h):=by
 have l:=KG g s (WA s d r s.h) (fun k hk=>(KR (fun hk'=>hd1 k hk' hk)).symm) (fun _=>rfl) (Zj9 _)
 rw [h1] at l
 cases h2:Wj g (WA s d r s.h) with
 | none=>rw [h2] at l;exact l.elim
 | some s2 =>
  rw [h2] at l
  have f1:=Ww g s s1 h1
  have f2:=Ww g _ s2 h2
  congr 1
  have et:s2.t=ZgP s1.t d r:=by
   funext k
   by_cases hk:k∈g.2.writes
   ·rw [<- l.1 k hk,KR (fun hk'=>hd2 k hk' hk)]
   ·rw [f2.1 k hk]
    show ZgP s.t d r k=_
    cases d with
    | none=>exact (f1.1 k hk).symm
    | some d =>
     simp only [ZgP]
     by_cases e:k=d
     ·subst e;rw [QO,QO]
     ·rw [Ws _ _ _ e,Ws _ _ _ e];exact (f1.1 k hk).symm
  have eh:s2.h=s1.h:=by
   cases hw:g.2.hw with
   | true=>exact (l.2 hw).symm
   | false=>rw [f2.2 hw,f1.2 hw];rfl
  cases s2
  simp only at et eh
  rw [et,eh];rfl
theorem ZbX {g:GI} {d:Option Nat} {s s2:St} {r:LV} (h2:Wj g (WA s d r s.h)=some s2) (hd1:∀ k∈d.toList,k ∉ Wd g) (hd2:∀ k∈d.toList,k ∉ g.2.writes) :
  ∃ s1,Wj g s=some s1∧s2=WA s1 d r s1.h:=by
 have l:=KG g s (WA s d r s.h) (fun k hk=>(KR (fun hk'=>hd1 k hk' hk)).symm) (fun _=>rfl) (Zj9 _)
 rw [h2] at l
 cases h1:Wj g s with
 | none=>rw [h1] at l;exact l.elim
 | some s1 =>
  have:=ZkH (r:=r) h1 hd1 hd2
  rw [this] at h2
  exact ⟨s1,rfl,by simpa using h2.symm⟩
theorem Jj {rw:Rw} {d:Option Nat} {f:X} {args:List X} {k:Nat}:k∈(I.call rw d f args).reads ↔ k∈YZ f∨∃ x∈args,k∈YZ x:=by
 simp [I.reads,I.ops,QZ]
theorem Yl {rw:Rw} {d:Option Nat} {f:X} {args:List X} {s:St}:TL.skip (.call rw d f args) s=WA s d (.sc undef) s.h:=by
 unfold TL.skip WA ZgP
 simp only [I.dst]
 cases d<;>rfl
theorem ZmW {p g:GI} {K:St->Prop} {s:St} (hi:Vl p g=true) (hp:p.2.isCall=true) (hg:g.2.isCall=false) (h:wpG P p (wpG P g K) s):wpG P g (wpG P p K) s:=by
 obtain ⟨i1,i2,i3,i4,i5,_⟩:=VH hi (.inl hp)
 cases hpc:p.2<;>(try (simp [hpc,I.isCall] at hp;done))
 rename_i rw d f args
 have hdw:∀ k∈d.toList,k∈p.2.writes:=fun k hk=>by rw [hpc];simp [I.writes,I.dst] at hk ⊢;exact .inl hk
 have hd1:∀ k∈d.toList,k ∉ Wd g:=fun k hk=>i1 k (hdw k hk)
 have hd2:∀ k∈d.toList,k ∉ g.2.writes:=fun k hk=>i2 k (hdw k hk)
 have hr1:∀ k,k∈p.2.reads->k∈Wd p:=fun k hk=>by simp [Wd,hk]
 rw [Wl hg]
 rw [JY hpc] at h
 have same':∀ s1,Wj g s=some s1->∀ x,(∀ k∈YZ x,k∈Wd p)->get s1.t x=get s.t x:=fun s1 q3 x hx=>X4 fun k hk=>(Ww g s s1 q3).1 k (fun hkw=>i3 k hkw (hx k hk))
 have args':∀ s1,Wj g s=some s1->args.map (fun x=>share (get s1.t x))=args.map (fun x=>share (get s.t x)):=fun s1 q3=>List.map_congr_left fun x hx=>by
  rw [same' s1 q3 x (fun k hk=>hr1 k (by rw [hpc,Jj];exact .inr ⟨x,hx,hk⟩))]
 have fun':∀ s1,Wj g s=some s1->get s1.t f=get s.t f:=fun s1 q3=>same' s1 q3 f (fun k hk=>hr1 k (by rw [hpc,Jj];exact .inl hk))
 have core:Z7 P rw d f args (wpG P g K) s->∃ s1,Wj g s=some s1∧Z7 P rw d f args K s1:=by
  cases rw with
  | ap sz =>
   have phr:p.2.hr=true:=by rw [hpc];rfl
   have phw:p.2.hw=true:=by rw [hpc];rfl
   have ghw:g.2.hw=false:=by
    cases hh:g.2.hw with
    | true=>exact absurd ⟨hh,phr⟩ i5
    | false=>rfl
   have ghr:¬ g.2.hr=true:=fun hh=>i4 ⟨phw,hh⟩
   rintro ⟨fid,caps,c1,c2⟩
   rw [Zha] at c2
   obtain ⟨r0,h0,k0⟩:=apWp_ex c2
   rw [Wl hg] at k0
   obtain ⟨s2,q1,q2⟩:=k0
   obtain ⟨s1,q3,_⟩:=ZP q1 hd1 hd2 ghw (fun hgr=>absurd hgr ghr)
   have fr:=Ww g s s1 q3
   refine ⟨s1,q3,fid,caps,?_,?_⟩
   ·rw [fun' s1 q3,args' s1 q3];exact c1
   ·rw [fr.2 ghw,Zha]
    refine ZnM c2 fun r h' k1=>?_
    rw [Wl hg] at k1
    obtain ⟨s3,q4,q5⟩:=k1
    obtain ⟨s1',q6,q7⟩:=ZP q4 hd1 hd2 ghw (fun hgr=>absurd hgr ghr)
    rw [q3] at q6
    obtain rfl:s1=s1':=by simpa using q6
    rw [q7] at q5
    exact q5
  | any =>
   have phr:p.2.hr=true:=by rw [hpc];rfl
   have phw:p.2.hw=true:=by rw [hpc];rfl
   have ghw:g.2.hw=false:=by
    cases hh:g.2.hw with
    | true=>exact absurd ⟨hh,phr⟩ i5
    | false=>rfl
   have ghr:¬ g.2.hr=true:=fun hh=>i4 ⟨phw,hh⟩
   rintro ⟨fid,caps,c1,c2⟩
   rw [Zag] at c2
   obtain ⟨r0,h0,k0⟩:=c2.2.1
   rw [Wl hg] at k0
   obtain ⟨s2,q1,q2⟩:=k0
   obtain ⟨s1,q3,_⟩:=ZP q1 hd1 hd2 ghw (fun hgr=>absurd hgr ghr)
   have fr:=Ww g s s1 q3
   refine ⟨s1,q3,fid,caps,?_,?_⟩
   ·rw [fun' s1 q3,args' s1 q3];exact c1
   ·rw [fr.2 ghw,Zag]
    refine c2.mono fun r h' k1=>?_
    rw [Wl hg] at k1
    obtain ⟨s3,q4,q5⟩:=k1
    obtain ⟨s1',q6,q7⟩:=ZP q4 hd1 hd2 ghw (fun hgr=>absurd hgr ghr)
    rw [q3] at q6
    obtain rfl:s1=s1':=by simpa using q6
    rw [q7] at q5
    exact q5
  | fr =>
   have phr:p.2.hr=true:=by rw [hpc];rfl
   have phw:p.2.hw=true:=by rw [hpc];rfl
   have ghw:g.2.hw=false:=by
    cases hh:g.2.hw with
    | true=>exact absurd ⟨hh,phr⟩ i5
    | false=>rfl
   have ghr:¬ g.2.hr=true:=fun hh=>i4 ⟨phw,hh⟩
   rintro ⟨fid,caps,c1,c2⟩
   rw [V0] at c2
   obtain ⟨l,o,xs,Q,e0,e1,e2,e3⟩:=c2
   obtain ⟨r0,_,xs0,hq0,_⟩:=(e2 s.h e1).2.1
   have k0:=e3 r0 xs0 hq0
   rw [Wl hg] at k0
   obtain ⟨s2,q1,q2⟩:=k0
   obtain ⟨s1,q3,_⟩:=ZP q1 hd1 hd2 ghw (fun hgr=>absurd hgr ghr)
   have fr:=Ww g s s1 q3
   refine ⟨s1,q3,fid,caps,?_,?_⟩
   ·rw [fun' s1 q3,args' s1 q3];exact c1
   ·rw [fr.2 ghw,V0]
    refine ⟨l,o,xs,Q,e0,e1,e2,fun r xs' hq=>?_⟩
    have k1:=e3 r xs' hq
    rw [Wl hg] at k1
    obtain ⟨s3,q4,q5⟩:=k1
    obtain ⟨s1',q6,q7⟩:=ZP q4 hd1 hd2 ghw (fun hgr=>absurd hgr ghr)
    rw [q3] at q6
    obtain rfl:s1=s1':=by simpa using q6
    rw [q7] at q5
    exact q5
  | no =>
   rintro ⟨fid,caps,c1,c2⟩
   rw [Zcb] at c2
   obtain ⟨lo,R,c3,c4⟩:=c2
   obtain ⟨r0,_,hr0,_⟩:=c3.2.1
   have k0:=c4 r0 hr0
   rw [Wl hg] at k0
   obtain ⟨s2,q1,q2⟩:=k0
   obtain ⟨s1,q3,_⟩:=ZbX q1 hd1 hd2
   refine ⟨s1,q3,fid,caps,?_,?_⟩
   ·rw [fun' s1 q3,args' s1 q3];exact c1
   ·rw [Zcb]
    refine ⟨lo,R,c3,fun r hr=>?_⟩
    have k1:=c4 r hr
    rw [Wl hg] at k1
    obtain ⟨s3,q4,q5⟩:=k1
    obtain ⟨s1',q6,q7⟩:=ZbX q4 hd1 hd2
    rw [q3] at q6
    obtain rfl:s1=s1':=by simpa using q6
    rw [q7] at q5
    exact q5
 cases hp1:p.1 with
 | none =>
  rw [hp1] at h
  obtain ⟨s1,q1,q2⟩:=core h
  exact ⟨s1,q1,by rw [JY hpc,hp1];exact q2⟩
 | some jw =>
  obtain ⟨j,want⟩:=jw
  rw [hp1] at h
  obtain ⟨b,hb,h1,h2⟩:=h
  have hj:∀ s1,Wj g s=some s1->s1.t j=s.t j:=fun s1 q=>(Ww g s s1 q).1 j (fun hkw=>i3 j hkw (by simp [Wd,hp1]))
  by_cases hbw:b=want
  ·obtain ⟨s1,q1,q2⟩:=core (h1 hbw)
   refine ⟨s1,q1,?_⟩
   rw [JY hpc,hp1]
   exact ⟨b,by rw [hj s1 q1];exact hb,fun _=>q2,fun e=>absurd hbw e⟩
  ·have h3:=h2 hbw
   rw [Wl hg] at h3
   obtain ⟨s2,q1,q2⟩:=h3
   rw [Yl] at q1
   obtain ⟨s1,q3,rfl⟩:=ZbX q1 hd1 hd2
   refine ⟨s1,q3,?_⟩
   rw [JY hpc,hp1]
   refine ⟨b,by rw [hj s1 q3];exact hb,fun e=>absurd e hbw,fun _=>?_⟩
   rw [Yl];exact q2
theorem ZlA {p g:GI} {K:St->Prop} {s:St} (hi:Vl p g=true) (hp:p.2.isCall=false) (hg:g.2.isCall=true) (h:wpG P p (wpG P g K) s):wpG P g (wpG P p K) s:=by
 obtain ⟨i1,i2,i3,i4,i5,_⟩:=VH hi (.inr hg)
 cases hgc:g.2<;>(try (simp [hgc,I.isCall] at hg;done))
 rename_i rw d f args
 have hdw:∀ k∈d.toList,k∈g.2.writes:=fun k hk=>by rw [hgc];simp [I.writes,I.dst] at hk ⊢;exact .inl hk
 have hd1:∀ k∈d.toList,k ∉ Wd p:=fun k hk=>i3 k (hdw k hk)
 have hd2:∀ k∈d.toList,k ∉ p.2.writes:=fun k hk hk'=>i2 k hk' (hdw k hk)
 rw [Wl hp] at h
 obtain ⟨s1,q1,q2⟩:=h
 have fr:=Ww p s s1 q1
 have same:∀ x,(∀ k∈YZ x,k∈Wd g)->get s1.t x=get s.t x:=fun x hx=>X4 fun k hk=>fr.1 k (fun hkw=>i1 k hkw (hx k hk))
 have hr1:∀ k,k∈g.2.reads->k∈Wd g:=fun k hk=>by simp [Wd,hk]
 have core:Z7 P rw d f args K s1->Z7 P rw d f args (wpG P p K) s:=by
  rintro ⟨fid,caps,c1,c2⟩
  have ea:args.map (fun x=>share (get s1.t x))=args.map (fun x=>share (get s.t x)):=List.map_congr_left fun x hx=>by
   rw [same x (fun k hk=>hr1 k (by rw [hgc,Jj];exact .inr ⟨x,hx,hk⟩))]
  refine ⟨fid,caps,?_,?_⟩
  ·rw [<- same f (fun k hk=>hr1 k (by rw [hgc,Jj];exact .inl hk)),<- ea];exact c1
  ·cases rw with
   | ap sz =>
    have ghr:g.2.hr=true:=by rw [hgc];rfl
    have ghw:g.2.hw=true:=by rw [hgc];rfl
    have phw:p.2.hw=false:=by
     cases hh:p.2.hw with
     | true=>exact absurd ⟨hh,ghr⟩ i4
     | false=>rfl
    have phr:¬ p.2.hr=true:=fun hh=>i5 ⟨ghw,hh⟩
    rw [fr.2 phw] at c2
    refine VX c2 fun r h' hr=>?_
    rw [Wl hp]
    exact ⟨_,Zg0 q1 hd1 hd2 phw (fun hpr=>absurd hpr phr),hr⟩
   | any =>
    have ghr:g.2.hr=true:=by rw [hgc];rfl
    have ghw:g.2.hw=true:=by rw [hgc];rfl
    have phw:p.2.hw=false:=by
     cases hh:p.2.hw with
     | true=>exact absurd ⟨hh,ghr⟩ i4
     | false=>rfl
    have phr:¬ p.2.hr=true:=fun hh=>i5 ⟨ghw,hh⟩
    rw [fr.2 phw] at c2
    refine VX c2 fun r h' hr=>?_
    rw [Wl hp]
    exact ⟨_,Zg0 q1 hd1 hd2 phw (fun hpr=>absurd hpr phr),hr⟩
   | fr =>
    have ghr:g.2.hr=true:=by rw [hgc];rfl
    have ghw:g.2.hw=true:=by rw [hgc];rfl
    have phw:p.2.hw=false:=by
     cases hh:p.2.hw with
     | true=>exact absurd ⟨hh,ghr⟩ i4
     | false=>rfl
    have phr:¬ p.2.hr=true:=fun hh=>i5 ⟨ghw,hh⟩
    rw [fr.2 phw] at c2
    refine VX c2 fun r h' hr=>?_
    rw [Wl hp]
    exact ⟨_,Zg0 q1 hd1 hd2 phw (fun hpr=>absurd hpr phr),hr⟩
   | no =>
    rw [Zcb] at c2 ⊢
    obtain ⟨lo,R,c3,c4⟩:=c2
    refine ⟨lo,R,c3,fun r hr=>?_⟩
    rw [Wl hp]
    exact ⟨_,ZkH q1 hd1 hd2,c4 r hr⟩
 rw [JY hgc] at q2 ⊢
 cases hg1:g.1 with
 | none=>rw [hg1] at q2;exact core q2
 | some jw =>
  obtain ⟨j,want⟩:=jw
  rw [hg1] at q2
  obtain ⟨b,hb,h1,h2⟩:=q2
  have hj:s1.t j=s.t j:=fr.1 j (fun hkw=>i1 j hkw (by simp [Wd,hg1]))
  rw [hj] at hb
  refine ⟨b,hb,fun e=>core (h1 e),fun e=>?_⟩
  rw [Wl hp,Yl]
  exact ⟨_,ZkH q1 hd1 hd2,by rw [<- Yl (rw:=rw) (f:=f) (args:=args)];exact h2 e⟩
theorem swap {p g:GI} {K:St->Prop} {s:St} (hi:Vl p g=true) (h:wpG P p (wpG P g K) s):wpG P g (wpG P p K) s:=by
 cases hp:p.2.isCall with
 | true =>
  cases hg:g.2.isCall with
  | true=>exact absurd ⟨hp,hg⟩ (VH hi (.inl hp)).2.2.2.2.2
  | false=>exact ZmW hi hp hg h
 | false =>
  cases hg:g.2.isCall with
  | true=>exact ZlA hi hp hg h
  | false =>
   rw [Wl hp] at h
   obtain ⟨s1,q1,q2⟩:=h
   rw [Wl hg] at q2
   obtain ⟨s2,q3,q4⟩:=q2
   obtain ⟨s1',q5,q6⟩:=Zsa hi q1 q3
   rw [Wl hg]
   exact ⟨s1',q5,by rw [Wl hp];exact ⟨s2,q6,q4⟩⟩
mutual
theorem Low.share_go {k:Nat}:∀ x:LV,Low k x->Low k (share x)
 | .sc _,h=>by simp only [share];exact h
 | .sl _ _ _ xs,h=>by simp only [share,Low] at h ⊢;exact Low.shareRow_go xs h
 | .ha _ _ _ _ _,h=>by simp only [share];exact h
 | .ptr _ _,h=>by simp only [share];exact h
 | .rp xs,h=>by simp only [share,Low] at h ⊢;exact Low.shareAll_go xs h
 | .fn _ xs,h=>by simp only [share,Low] at h ⊢;exact Low.shareAll_go xs h
 | .fnm _ xs,h=>by simp only [share,Low] at h ⊢;exact Low.shareAll_go xs h
 | .agg xs,h=>by simp only [share,Low] at h ⊢;exact Low.shareAll_go xs h
 | .tup xs,h=>by simp only [share,Low] at h ⊢;exact Low.shareAll_go xs h
 | .raw _,_=>by simp only [share,Low]
 | .dead,_=>by simp only [share,Low]
 | .both _ t,h=>by simp only [share,Low] at h ⊢;exact Low.share_go t h
theorem Low.shareAll_go {k:Nat}:∀ xs:List LV,QI k xs->QI k (shareAll xs)
 | [],_=>by simp only [shareAll,QI]
 | x::xs,h=>by simp only [shareAll,QI] at h ⊢;exact ⟨Low.share_go x h.1,Low.shareAll_go xs h.2⟩
theorem Low.shareRow_go {k:Nat}:∀ xs:List (List LV),WV k xs->WV k (Qv xs)
 | [],_=>by simp only [Qv,WV]
 | x::xs,h=>by simp only [Qv,WV] at h ⊢;exact ⟨Low.shareAll_go x h.1,Low.shareRow_go xs h.2⟩
end
theorem Low.mono_go {k m:Nat} (h:k<=m) (x:LV) (hx:Low k x):Low m x:=by
 have:=QI.mono h (xs:=[x]) (by simp only [QI];exact ⟨hx,trivial⟩)
 simp only [QI] at this
 exact this.1
section
mutual
theorem Rep.seen {A:GM} {μ:List Nat}:∀ (x:LV) (v:Value) (O:List Own),Rep A μ x v O->Low μ.length x
 | .sc _,_,_,_=>by simp only [Low]
 | .sl _ _ _ xs,_,_,h=>by
  simp only [Rep] at h
  simp only [Low]
  rcases h with ⟨_,_,h3,_⟩ | ⟨_,b,off,sp,cap,O',_,_,_,h4,_⟩
  ·subst h3;simp only [WV]
  ·exact Qw.seen xs _ _ _ _ h4
 | .ha _ _ _ _ _,_,_,h=>by simp only [Rep] at h;simp only [Low];exact h.2.1
 | .ptr _ _,_,_,h=>by simp only [Rep] at h;simp only [Low];exact h.2.1
 | .rp xs,_,_,h=>by
  simp only [Rep] at h
  obtain ⟨b,off,_,h2⟩:=h
  simp only [Low];exact Qu.seen xs _ _ _ h2
 | .fn _ xs,_,_,h=>by
  simp only [Rep] at h
  obtain ⟨vs,_,h2⟩:=h
  simp only [Low];exact RepVals.seen xs _ _ h2
 | .fnm _ xs,_,_,h=>by
  simp only [Rep] at h
  obtain ⟨vs,_,h2⟩:=h
  simp only [Low];exact RepVals.seen xs _ _ h2
 | .agg xs,_,_,h=>by
  simp only [Rep] at h
  obtain ⟨vs,_,_,h2⟩:=h
  simp only [Low];exact RepVals.seen xs _ _ h2
 | .tup xs,_,_,h=>by
  simp only [Rep] at h
  obtain ⟨vs,_,h2⟩:=h
  simp only [Low];exact RepVals.seen xs _ _ h2
 | .raw _,_,_,_=>by simp only [Low]
 | .dead,_,_,_=>by simp only [Low]
 | .both _ t,_,_,h=>by simp only [Rep] at h;simp only [Low];exact Rep.seen t _ _ h.2.2
theorem Qw.seen {A:GM} {μ:List Nat}:∀ (xs:List (List LV)) (sz b off:Nat) (O:List Own),Qw A μ xs sz b off O->WV μ.length xs
 | [],_,_,_,_,_=>by simp only [WV]
 | x::xs,_,_,_,_,h=>by
  simp only [Qw] at h
  obtain ⟨O1,O2,_,_,h3,h4⟩:=h
  simp only [WV];exact ⟨Qu.seen x _ _ _ h3,Qw.seen xs _ _ _ _ h4⟩
theorem Qu.seen {A:GM} {μ:List Nat}:∀ (xs:List LV) (b off:Nat) (O:List Own),Qu A μ xs b off O->QI μ.length xs
 | [],_,_,_,_=>by simp only [QI]
 | x::xs,_,_,_,h=>by
  simp only [Qu] at h
  obtain ⟨v,O1,O2,_,_,_,h3,h4⟩:=h
  simp only [QI];exact ⟨Rep.seen x _ _ h3,Qu.seen xs _ _ _ h4⟩
theorem RepVals.seen {A:GM} {μ:List Nat}:∀ (xs:List LV) (vs:List Value) (O:List Own),RepVals A μ xs vs O->QI μ.length xs
 | [],_,_,_=>by simp only [QI]
 | x::xs,_,_,h=>by
  simp only [RepVals] at h
  obtain ⟨v,ws,O1,O2,_,_,h3,h4⟩:=h
  simp only [QI];exact ⟨Rep.seen x _ _ h3,RepVals.seen xs _ _ h4⟩
end
end
def I.app:I->Bool
 | .alloc _ _ | .box _ _ | .mkslice _ _ _ _=>true
 | _=>false
def I.frc:I->Bool
 | .call .fr _ _ _=>true
 | _=>false
def apart (a b:GI):Bool:=(a.2.writes.all fun k=>!(Wd b).contains k && !b.2.writes.contains k) && (b.2.writes.all fun k=>!(Wd a).contains k)
theorem Zc2 {a b:GI} (h:apart a b=true):(∀ k∈a.2.writes,k ∉ Wd b)∧(∀ k∈a.2.writes,k ∉ b.2.writes)∧(∀ k∈b.2.writes,k ∉ Wd a):=by
 simp only [apart,Bool.and_eq_true,List.all_eq_true,Bool.not_eq_true'] at h
 obtain ⟨h1,h2⟩:=h
 refine ⟨fun k hk hm=>?_,fun k hk hm=>?_,fun k hk hm=>?_⟩
 ·have:=(h1 k hk).1;simp [hm] at this
 ·have:=(h1 k hk).2;simp [hm] at this
 ·have:=h2 k hk;simp [hm] at this
def I.isP:I->Bool
 | .loadP _ _ _ _ _=>true
 | _=>false
def ZhA (a b:GI):Bool:=apart a b && ((a.2.frc && b.2.app && b.1.isNone) || (a.2.app && b.2.frc && a.1.isNone) || (a.2.isP && b.2.app && a.1.isNone && b.1.isNone))
def ZdX (a b:GI):Bool:=Vl a b || ZhA a b
theorem ZeH {t:Nat->LV} {d:Option Nat} {r v:LV} {k:Nat} (h:k ∉ d.toList):upd (ZgP t d r) k v=ZgP (upd t k v) d r:=by
 cases d with
 | none=>rfl
 | some d =>
  simp only [ZgP]
  have hk:k≠d:=fun e=>h (by simp [e])
  funext j
  simp only [upd]
  by_cases h1:j=k
  ·subst h1;simp [hk]
  ·simp [h1]
theorem J2 {g:GI} {d:Option Nat} {s:St} {r:LV} {h':List Box} (hg1:g.1=none) (happ:g.2.app=true) (hd1:∀ k∈d.toList,k ∉ Wd g) (hd2:∀ k∈d.toList,k ∉ g.2.writes) (hl:h'.length=s.h.length) :
  Wj g (WA s d r h')=(Wj g s).map fun s1=>WA s1 d r (h'++s1.h.drop s.h.length):=by
 obtain ⟨g1,i⟩:=g
 simp only at hg1 happ
 subst hg1
 have gx:∀ x:X,(∀ k∈YZ x,k∈i.reads)->get (ZgP s.t d r) x=get s.t x:=fun x hx=>X4 fun k hk=>KR (fun hk'=>hd1 k hk' (by simp only [Wd,List.mem_append];exact .inr (hx k hk)))
 cases i<;>(try (simp [I.app] at happ;done))
 case box k x =>
  have hx:=gx x (fun k hk=>by simpa [I.reads,I.ops,QZ] using hk)
  have hk:k ∉ d.toList:=fun h=>hd2 k h (by simp [I.writes,I.dst])
  simp only [Wj,step,WA,hx]
  split
  ·simp only [Option.map_some,St.put,St.give,List.drop_left,hl]
   congr 2
   cases x with
   | t j =>
    have hj:j ∉ d.toList:=fun h=>hd1 j h (by simp [Wd,I.reads,I.ops,QZ,YZ])
    simp only [TL.give]
    rw [show ZgP s.t d r j=s.t j from KR hj,ZeH hj,ZeH hk]
   | k v=>simp only [TL.give];rw [ZeH hk]
  ·rfl
 case alloc k z =>
  have hk:k ∉ d.toList:=fun h=>hd2 k h (by simp [I.writes,I.dst])
  simp only [Wj,step,WA,Option.map_some,St.put,List.drop_left,hl]
  rw [ZeH hk]
 case mkslice k sz z x =>
  have hx:=gx x (fun k hk=>by simpa [I.reads,I.ops,QZ] using hk)
  have hk:k ∉ d.toList:=fun h=>hd2 k h (by simp [I.writes,I.dst])
  simp only [Wj,step,WA,hx]
  cases intOf (get s.t x) with
  | none=>rfl
  | some n =>
   simp only
   split
   ·simp only [Option.map_some,St.put,List.drop_left,hl]
    rw [ZeH hk]
   ·rfl
theorem Zig {g:GI} {s s1:St} (hg1:g.1=none) (happ:g.2.app=true) (h:Wj g s=some s1):∃ b,s1.h=s.h++[b]:=by
 obtain ⟨g1,i⟩:=g
 simp only at hg1 happ
 subst hg1
 cases i<;>(try (simp [I.app] at happ;done))
 case box k x =>
  simp only [Wj,step] at h
  split at h
  ·simp only [Option.some.injEq] at h;subst h;exact ⟨_,rfl⟩
  ·simp at h
 case alloc k z =>
  simp only [Wj,step,Option.some.injEq] at h;subst h;exact ⟨_,rfl⟩
 case mkslice k sz z x =>
  simp only [Wj,step] at h
  split at h
  ·split at h
   ·simp only [Option.some.injEq] at h;subst h;exact ⟨_,rfl⟩
   ·simp at h
  ·simp at h
theorem Zoq {α:Type} {h:List α} {l:Nat} {x:α} {t:List α} (hl:l < h.length):(h++t).set l x=h.set l x++t:=by
 rw [List.set_append_left _ _ hl]
theorem Zp0 {i:I} (h:i.frc=true):∃ d f args,i=.call .fr d f args:=by
 cases i<;>(try (simp [I.frc] at h;done))
 rename_i rw d f args
 cases rw<;>simp [I.frc] at h
 exact ⟨_,_,_,rfl⟩
theorem ZeZ {i:I} (h:i.app=true):i.isCall=false:=by
 cases i<;>simp [I.app] at h<;>rfl
theorem Zlb {g:GI} {d:Option Nat} {f:X} {args:List X} {K K':St->Prop} {s s':St} (hgc:g.2=.call .fr d f args) (hj:∀ j w,g.1=some (j,w)->s'.t j=s.t j)
  (core:Z7 P .fr d f args K s->Z7 P .fr d f args K' s') (hskip:K (WA s d (.sc undef) s.h)->K' (WA s' d (.sc undef) s'.h)) (h:wpG P g K s):wpG P g K' s':=by
 rw [JY hgc] at h ⊢
 cases hg1:g.1 with
 | none=>rw [hg1] at h;exact core h
 | some jw =>
  obtain ⟨j,want⟩:=jw
  rw [hg1] at h
  obtain ⟨b,hb,h1,h2⟩:=h
  rw [<- hj j want hg1] at hb
  refine ⟨b,hb,fun e=>core (h1 e),fun e=>?_⟩
  rw [Yl]
  have:=h2 e
  rw [Yl] at this
  exact hskip this
def Seen (g:GI) (s:St):Prop:=g.2.isCall=true->∀ x∈g.2.ops,Low s.h.length (get s.t x)
theorem Ztp {k:Nat}:∀ x:LV,Low k x->Low k (share x):=fun x h=>by
 have:=Low.share_go x h
 exact this
theorem Zrb {p g:GI} {K:St->Prop} {s:St} (ha:apart p g=true) (hp:p.2.frc=true) (hg:g.2.app=true) (hg1:g.1=none) (h:wpG P p (wpG P g K) s):wpG P g (wpG P p K) s:=by
 obtain ⟨i1,i2,i3⟩:=Zc2 ha
 obtain ⟨d,f,args,hpc⟩:=Zp0 hp
 have hdw:∀ k∈d.toList,k∈p.2.writes:=fun k hk=>by rw [hpc];simp [I.writes,I.dst] at hk ⊢;exact .inl hk
 have hd1:∀ k∈d.toList,k ∉ Wd g:=fun k hk=>i1 k (hdw k hk)
 have hd2:∀ k∈d.toList,k ∉ g.2.writes:=fun k hk=>i2 k (hdw k hk)
 have hr1:∀ k,k∈p.2.reads->k∈Wd p:=fun k hk=>by simp [Wd,hk]
 have hgd:=ZeZ hg
 obtain ⟨s1,q3⟩:∃ s1,Wj g s=some s1:=by
  have key:∀ r h',h'.length=s.h.length->wpG P g K (WA s d r h')->∃ s1,Wj g s=some s1:=fun r h' hl k0=>by
   rw [Wl hgd] at k0
   obtain ⟨s2,q1,_⟩:=k0
   rw [J2 hg1 hg hd1 hd2 hl] at q1
   obtain ⟨s1,q3,_⟩:=Option.map_eq_some_iff.1 q1
   exact ⟨s1,q3⟩
  have ofCall:Z7 P .fr d f args (wpG P g K) s->∃ s1,Wj g s=some s1:=by
   rintro ⟨fid,caps,c1,c2⟩
   rw [V0] at c2
   obtain ⟨l,o,xs,Q,e0,e1,e2,e3⟩:=c2
   obtain ⟨r0,_,xs0,hq0,_⟩:=(e2 s.h e1).2.1
   exact key r0 _ (by simp) (e3 r0 xs0 hq0)
  rw [JY hpc] at h
  cases hp1:p.1 with
  | none=>rw [hp1] at h;exact ofCall h
  | some jw =>
   obtain ⟨j,want⟩:=jw
   rw [hp1] at h
   obtain ⟨b,hb,h1,h2⟩:=h
   by_cases hbw:b=want
   ·exact ofCall (h1 hbw)
   ·have h3:=h2 hbw
    rw [Yl] at h3
    exact key _ _ rfl h3
 obtain ⟨b,hb⟩:=Zig hg1 hg q3
 have frm:=Ww g s s1 q3
 have same:∀ x,(∀ k∈YZ x,k∈Wd p)->get s1.t x=get s.t x:=fun x hx=>X4 fun k hk=>frm.1 k (fun hkw=>i3 k hkw (hx k hk))
 rw [Wl hgd]
 refine ⟨s1,q3,Zlb hpc (fun j w hj=>frm.1 j (fun hkw=>i3 j hkw (by simp [Wd,hj]))) ?_ ?_ h⟩
 ·rintro ⟨fid,caps,c1,c2⟩
  rw [V0] at c2
  obtain ⟨l,o,xs,Q,e0,e1,e2,e3⟩:=c2
  have hll:l < s.h.length:=by
   rcases Nat.lt_or_ge l s.h.length with h | h
   ·exact h
   ·rw [List.getElem?_eq_none h] at e1;simp at e1
  refine ⟨fid,caps,?_,?_⟩
  ·rw [same f (fun k hk=>hr1 k (by rw [hpc,Jj];exact .inl hk)),List.map_congr_left (fun x hx=>by rw [same x (fun k hk=>hr1 k (by rw [hpc,Jj];exact .inr ⟨x,hx,hk⟩))])]
   exact c1
  ·rw [V0]
   refine ⟨l,o,xs,Q,e0,by rw [hb,List.getElem?_append_left hll];exact e1,e2,fun r xs' hq=>?_⟩
   have k1:=e3 r xs' hq
   rw [Wl hgd] at k1
   obtain ⟨s3,q4,q5⟩:=k1
   rw [J2 hg1 hg hd1 hd2 (by simp),q3] at q4
   simp only [Option.map_some,Option.some.injEq] at q4
   rw [<- q4,hb,List.drop_left] at q5
   rw [hb,Zoq hll]
   exact q5
 ·intro k0
  rw [Wl hgd] at k0
  obtain ⟨s3,q4,q5⟩:=k0
  rw [J2 hg1 hg hd1 hd2 rfl,q3] at q4
  simp only [Option.map_some,Option.some.injEq] at q4
  rw [<- q4,hb,List.drop_left,<- hb] at q5
  exact q5
theorem Zsg {k l o:Nat}:∀ {xs:List LV},QI k xs->LV.ptr l o∈xs->l < k
 | x::xs,h,hm=>by
  simp only [QI] at h
  rcases List.mem_cons.1 hm with e | hm
  ·subst e;simpa [Low] using h.1
  ·exact Zsg h.2 hm
theorem ZbT {k:Nat}:∀ {xs ys:List LV},QI k xs->QI k ys->QI k (xs++ys)
 | [],ys,_,h=>h
 | x::xs,ys,h,h2=>by
  simp only [QI,List.cons_append] at h ⊢
  exact ⟨h.1,ZbT h.2 h2⟩
theorem Zna {k:Nat}:∀ {xs:List LV},(∀ x∈xs,Low k x)->QI k xs
 | [],_=>by simp only [QI]
 | x::xs,h=>by simp only [QI];exact ⟨h x (by simp),Zna fun y hy=>h y (by simp [hy])⟩
theorem Zrq {k:Nat} {v:LV} {as vals:List LV} {fid:FuncId} (h:ZW v as=some (fid,vals)) (hv:Low k v) (ha:QI k as):QI k vals:=by
 unfold ZW at h
 split at h
 ·simp only [Option.some.injEq,Prod.mk.injEq] at h
  obtain ⟨_,rfl⟩:=h
  refine ZbT ha (Low.shareAll_go _ ?_)
  simpa only [Low] using hv
 ·simp only [Option.some.injEq,Prod.mk.injEq] at h
  obtain ⟨_,rfl⟩:=h
  refine ZbT (Low.shareAll_go _ ?_) ha
  simpa only [Low] using hv
 ·simp at h
theorem ZqF {p g:GI} {K:St->Prop} {s:St} (ha:apart p g=true) (hp:p.2.app=true) (hg:g.2.frc=true) (hp1:p.1=none) (H:Seen g s) (h:wpG P p (wpG P g K) s):wpG P g (wpG P p K) s:=by
 obtain ⟨i1,i2,i3⟩:=Zc2 ha
 obtain ⟨d,f,args,hgc⟩:=Zp0 hg
 have hdw:∀ k∈d.toList,k∈g.2.writes:=fun k hk=>by rw [hgc];simp [I.writes,I.dst] at hk ⊢;exact .inl hk
 have hd1:∀ k∈d.toList,k ∉ Wd p:=fun k hk=>i3 k (hdw k hk)
 have hd2:∀ k∈d.toList,k ∉ p.2.writes:=fun k hk hk'=>i2 k hk' (hdw k hk)
 have hr1:∀ k,k∈g.2.reads->k∈Wd g:=fun k hk=>by simp [Wd,hk]
 have hpd:=ZeZ hp
 rw [Wl hpd] at h
 obtain ⟨s1,q1,q2⟩:=h
 obtain ⟨b,hb⟩:=Zig hp1 hp q1
 have frm:=Ww p s s1 q1
 have same:∀ x,(∀ k∈YZ x,k∈Wd g)->get s1.t x=get s.t x:=fun x hx=>X4 fun k hk=>frm.1 k (fun hkw=>i1 k hkw (hx k hk))
 have H':∀ x∈g.2.ops,Low s.h.length (get s.t x):=H (by rw [hgc];rfl)
 refine Zlb hgc (fun j w hj=>(frm.1 j (fun hkw=>i1 j hkw (by simp [Wd,hj]))).symm) ?_ ?_ q2
 ·rintro ⟨fid,caps,c1,c2⟩
  rw [same f (fun k hk=>hr1 k (by rw [hgc,Jj];exact .inl hk)),List.map_congr_left (fun x hx=>by rw [same x (fun k hk=>hr1 k (by rw [hgc,Jj];exact .inr ⟨x,hx,hk⟩))])] at c1
  refine ⟨fid,caps,c1,?_⟩
  rw [V0] at c2 ⊢
  obtain ⟨l,o,xs,Q,e0,e1,e2,e3⟩:=c2
  have hll:l < s.h.length:=by
   refine Zsg (Zrq c1 (H' f (by rw [hgc];simp [I.ops])) (Zna fun y hy=>?_)) e0
   obtain ⟨x,hx,rfl⟩:=List.mem_map.1 hy
   exact Ztp _ (H' x (by rw [hgc];simp [I.ops,hx]))
  rw [hb,List.getElem?_append_left hll] at e1
  refine ⟨l,o,xs,Q,e0,e1,e2,fun r xs' hq=>?_⟩
  rw [Wl hpd,J2 hp1 hp hd1 hd2 (by simp),q1]
  refine ⟨_,rfl,?_⟩
  have:=e3 r xs' hq
  rw [hb,Zoq hll] at this
  show K (WA s1 d r (s.h.set l (some xs')++List.drop s.h.length s1.h))
  rw [hb,List.drop_left]
  exact this
 ·intro k0
  rw [Wl hpd,J2 hp1 hp hd1 hd2 rfl,q1]
  refine ⟨_,rfl,?_⟩
  show K (WA s1 d (.sc undef) (s.h++List.drop s.h.length s1.h))
  rw [hb,List.drop_left,<- hb]
  exact k0
theorem Zry {d i:Nat} {ag:Bool} {sz:Nat} {x:X} {s s':St} (h:step (.loadP d i ag sz x) s=some s') :
  ∃ (l:Nat) (Y:Box) (v:LV),l < s.h.length∧s'=WA s (some d) v (s.h.set l Y) ∧
   ∀ s1:St,get s1.t x=get s.t x->s1.h[l]?=s.h[l]?->step (.loadP d i ag sz x) s1=some (WA s1 (some d) v (s1.h.set l Y)):=by
 simp only [step] at h
 split at h
 ·rename_i l o hg
  split at h
  ·rename_i xs hl
   split at h
   ·rename_i hc
    split at h
    ·rename_i u nl z Qj hx
     split at h
     ·rename_i hi
      simp only [Option.some.injEq] at h
      subst h
      have hlt:l < s.h.length:=by
       rcases Nat.lt_or_ge l s.h.length with h | h
       ·exact h
       ·rw [List.getElem?_eq_none h] at hl;simp at hl
      refine ⟨l,_,_,hlt,rfl,fun s1 e1 e2=>?_⟩
      simp only [step,e1,hg,e2,hl,hx]
      rw [if_pos hc,if_pos hi]
      rfl
     ·simp at h
    ·simp at h
   ·simp at h
  ·simp at h
 ·simp at h
theorem swap5 {p g:GI} {K:St->Prop} {s:St} (ha:apart p g=true) (hp:p.2.isP=true) (hg:g.2.app=true) (hp1:p.1=none) (hg1:g.1=none) (h:wpG P p (wpG P g K) s):wpG P g (wpG P p K) s:=by
 obtain ⟨i1,i2,i3⟩:=Zc2 ha
 have hpd:p.2.isCall=false:=by
  obtain ⟨_,q⟩:=p
  cases q<;>simp [I.isP] at hp<;>rfl
 have hgd:=ZeZ hg
 rw [Wl hpd] at h
 obtain ⟨s1,q1,h⟩:=h
 rw [Wl hgd] at h
 obtain ⟨s2,q2,hk⟩:=h
 obtain ⟨p1,q⟩:=p
 simp only at hp1 hp
 subst hp1
 cases q<;>simp only [I.isP] at hp<;>(try (simp at hp;done))
 rename_i d i ag sz x
 simp only [Wj] at q1
 obtain ⟨l,Y,v,hlt,rfl,hre⟩:=Zry q1
 have hd1:∀ k∈(some d).toList,k ∉ Wd g:=fun k hk=>i1 k (by simp [I.writes,I.dst] at hk ⊢;exact .inl hk)
 have hd2:∀ k∈(some d).toList,k ∉ g.2.writes:=fun k hk=>i2 k (by simp [I.writes,I.dst] at hk ⊢;exact .inl hk)
 rw [J2 hg1 hg hd1 hd2 (by simp)] at q2
 obtain ⟨s3,q3,rfl⟩:=Option.map_eq_some_iff.1 q2
 rw [Wl hgd]
 refine ⟨s3,q3,?_⟩
 rw [Wl hpd]
 obtain ⟨b,hb⟩:=Zig hg1 hg q3
 have hx:get s3.t x=get s.t x:=X4 fun k hk=>(Ww g s s3 q3).1 k (fun hw=>i3 k hw (by
  simp only [Wd,List.mem_append];right
  simp only [I.reads,I.ops,QZ,List.flatMap_cons,List.flatMap_nil,List.append_nil];exact hk))
 have hh:s3.h[l]?=s.h[l]?:=by rw [hb,List.getElem?_append_left hlt]
 refine ⟨_,by simp only [Wj];exact hre s3 hx hh,?_⟩
 rw [hb,Zoq hlt]
 rw [hb,List.drop_left] at hk
 exact hk
theorem swapF {p g:GI} {K:St->Prop} {s:St} (hi:ZdX p g=true) (H:Seen g s) (h:wpG P p (wpG P g K) s):wpG P g (wpG P p K) s:=by
 simp only [ZdX,Bool.or_eq_true] at hi
 rcases hi with hi | hi
 ·exact swap hi h
 ·simp only [ZhA,Bool.and_eq_true,Bool.or_eq_true,Option.isNone_iff_eq_none] at hi
  obtain ⟨ha,(⟨⟨h1,h2⟩,h3⟩ | ⟨⟨h1,h2⟩,h3⟩) | ⟨⟨⟨h1,h2⟩,h3⟩,h4⟩⟩:=hi
  ·exact Zrb ha h1 h2 h3 h
  ·exact ZqF ha h1 h2 h3 H h
  ·exact swap5 ha h1 h2 h3 h4 h
theorem Znh {i:I} {s s':St} (h:step i s=some s'):s.h.length<=s'.h.length:=by
 by_cases hw:i.hw=true
 ·cases i<;>simp only [I.hw] at hw<;>(try (simp at hw;done))
  case mv d m x =>
   cases m<;>simp [I.hw] at hw
   simp only [step] at h
   repeat' split at h
   all_goals first | (simp only [Option.some.injEq] at h;subst h;simp [St.put];done) | (simp at h;done)
  case load d m ag sz x =>
   cases m<;>simp [I.hw] at hw
   all_goals
    simp only [step] at h
    repeat' split at h
    all_goals first | (simp only [Option.some.injEq] at h;subst h;simp [St.put,St.give];done) | (simp at h;done)
  all_goals
   simp only [step] at h
   repeat' split at h
   all_goals first | (simp only [Option.some.injEq] at h;subst h;simp [St.put,St.give];done) | (simp at h;done)
 ·rw [(ZcY i s s' h).2 (by simpa using hw)];exact Nat.le_refl _
theorem Zr3 {g:GI} {s s':St} (h:Wj g s=some s'):s.h.length<=s'.h.length:=by
 unfold Wj at h
 split at h
 ·exact Znh h
 ·split at h
  ·split at h
   ·exact Znh h
   ·simp only [Option.some.injEq] at h
    subst h
    unfold skip
    split<;>exact Nat.le_refl _
  ·simp at h
theorem pull {g:GI} {Q:St->Prop} {post:List GI}:∀ {pre:List GI} {s:St},(∀ p∈pre,ZdX p g=true)->Seen g s->wpL P (pre++g::post) Q s->wpG P g (wpL P (pre++post) Q) s
 | [],s,_,_,h=>h
 | p::pre,s,hi,H,h=>by
  have hip:=hi p (by simp)
  refine swapF hip H ?_
  by_cases hg:g.2.isCall=true
  ·
   have hp:p.2.isCall=false:=by
    simp only [ZdX,Bool.or_eq_true] at hip
    rcases hip with hip | hip
    ·cases hh:p.2.isCall with
     | false=>rfl
     | true=>exact absurd ⟨hh,hg⟩ (VH hip (.inr hg)).2.2.2.2.2
    ·simp only [ZhA,Bool.and_eq_true,Bool.or_eq_true] at hip
     rcases hip.2 with (⟨⟨_,h2⟩,_⟩ | ⟨⟨h1,_⟩,_⟩) | ⟨⟨⟨_,h2⟩,_⟩,_⟩
     ·rw [ZeZ h2] at hg;simp at hg
     ·exact ZeZ h1
     ·rw [ZeZ h2] at hg;simp at hg
   have hw:∀ k∈p.2.writes,k ∉ Wd g:=by
    simp only [ZdX,Bool.or_eq_true] at hip
    rcases hip with hip | hip
    ·exact (VH hip (.inr hg)).1
    ·simp only [ZhA,Bool.and_eq_true] at hip
     exact (Zc2 hip.1).1
   simp only [List.cons_append,wpL] at h
   rw [Wl hp] at h ⊢
   obtain ⟨s1,q1,q2⟩:=h
   refine ⟨s1,q1,pull (fun q hq=>hi q (by simp [hq])) (fun hc x hx=>?_) q2⟩
   have hs:get s1.t x=get s.t x:=X4 fun k hk=>(Ww p s s1 q1).1 k (fun hkw=>hw k hkw (by
    simp only [Wd,List.mem_append];right
    simp only [I.reads,QZ,List.mem_flatMap];exact ⟨x,hx,hk⟩))
   rw [hs]
   exact Low.mono_go (Zr3 q1) _ (H hc x hx)
  ·exact WF h fun s' hs'=>pull (fun q hq=>hi q (by simp [hq])) (fun hc=>absurd hc hg) hs'
end
section
variable {P:Program} {x:Cx} {n:Nat} {o:Oper} {s s':St} {a:Act} {w:World}
theorem ZqO {d:Nat} {m:Md} {y:X} {u:Operand} (he:execOp a.eval o=pure (.value (a.eval u))) (hd:o.dst=some d) (hdn:d < n) (hy:XOk n y u)
  (hs:step (.mv d m y) s=some s') (sim:Sim x n s a w):Zo P x n o s' a w:=by
 cases m with
 | copy=>exact Zmw he hd hdn hy hs sim
 | take=>exact Zmp he hd hdn hy hs sim
 | frz=>exact ZnW he hd hdn hy hs sim
 | own=>simp [step] at hs
 | part i=>simp [step] at hs
set_option maxHeartbeats 1000000 in
theorem Ztm {m:Md} {i:I} (hc:QQ P n o m=some i) (hs:step i s=some s') (sim:Sim x n s a w):Zo P x n o s' a w:=by
 cases hop:o.op with
 | move y =>
  simp only [QQ,hop,Option.bind_eq_some_iff,Option.map_eq_some_iff] at hc
  obtain ⟨d,hd,z,hz,rfl⟩:=hc
  obtain ⟨h1,h2⟩:=Xf hd
  exact ZqO (u:=y) (by simp [execOp,hop]) h1 h2 (W8 hz) hs sim
 | assign y =>
  simp only [QQ,hop,Option.bind_eq_some_iff,Option.map_eq_some_iff] at hc
  obtain ⟨d,hd,z,hz,rfl⟩:=hc
  obtain ⟨h1,h2⟩:=Xf hd
  exact ZqO (u:=y) (by simp [execOp,hop]) h1 h2 (W8 hz) hs sim
 | alloc e =>
  simp only [QQ,hop,Option.bind_eq_some_iff,Option.map_eq_some_iff] at hc
  obtain ⟨d,hd,z,hz,rfl⟩:=hc
  obtain ⟨h1,h2⟩:=Xf hd
  exact Zpt hop h1 h2 hz hs sim
 | box e y =>
  simp only [QQ,hop,Option.bind_eq_some_iff,Option.map_eq_some_iff] at hc
  obtain ⟨d,hd,z,hz,rfl⟩:=hc
  obtain ⟨h1,h2⟩:=Xf hd
  exact Ztq hop h1 h2 (W8 hz) hs sim
 | load t y =>
  simp only [QQ,hop,Option.bind_eq_some_iff,Option.map_eq_some_iff] at hc
  obtain ⟨d,hd,z,hz,ag,hag,sz,hsz,rfl⟩:=hc
  obtain ⟨h1,h2⟩:=Xf hd
  cases m<;>first | exact ZrP hop h1 h2 (W8 hz) hag hsz hs sim | exact Zqq hop h1 h2 (W8 hz) hag hsz hs sim | exact ZpO hop h1 h2 (W8 hz) hag hsz hs sim
 | store t y z =>
  simp only [QQ,hop] at hc
  split at hc
  ·rename_i hd
   simp only [Option.bind_eq_some_iff,Option.map_eq_some_iff] at hc
   obtain ⟨p,hp,q,hq,sz,hsz,rfl⟩:=hc
   exact ZpZ hop hd (W8 hp) (W8 hq) hsz hs sim
  ·simp at hc
 | binOp op t y z t' =>
  simp only [QQ,hop,Option.bind_eq_some_iff,Option.map_eq_some_iff] at hc
  obtain ⟨d,hd,p,hp,q,hq,c,hcm,rfl⟩:=hc
  obtain ⟨h1,h2⟩:=Xf hd
  exact Ztl hop h1 h2 (W8 hp) (W8 hq) hcm hs sim
 | unOp op t y =>
  simp only [QQ,hop,Option.bind_eq_some_iff,Option.map_eq_some_iff] at hc
  obtain ⟨d,hd,p,hp,rfl⟩:=hc
  obtain ⟨h1,h2⟩:=Xf hd
  exact sound_un hop h1 h2 (W8 hp) hs sim
 | build t ps =>
  simp only [QQ,hop] at hc
  split at hc
  ·rename_i fs hfs
   simp only [Option.bind_eq_some_iff,Option.map_eq_some_iff] at hc
   obtain ⟨d,hd,z,hz,pl,hpl,qs,hq,rfl⟩:=hc
   obtain ⟨h1,h2⟩:=Xf hd
   exact ZpQ hop h1 h2 hfs hz hpl hq hs sim
  ·simp at hc
 | buildSlice t len ps =>
  simp only [QQ,hop,Option.bind_eq_some_iff,Option.map_eq_some_iff] at hc
  obtain ⟨d,hd,e,he,sz,hsz,_,hcond,z,hz,_,hzl,qs,hq,rfl⟩:=hc
  obtain ⟨h1,h2⟩:=Xf hd
  split at hcond
  ·rename_i hcond'
   split at hzl
   ·rename_i hzl'
    exact ZoS hop h1 h2 he hsz hcond'.1 hcond'.2 hz hzl' hq hs sim
   ·simp at hzl
  ·simp at hcond
 | slice t y lo hi mx =>
  simp only [QQ,hop] at hc
  split at hc
  ·rename_i e he
   simp only [Option.bind_eq_some_iff,Option.map_eq_some_iff] at hc
   obtain ⟨d,hd,sz,hsz,p,hp,l,hl,h,hh,m',hm',_,hcond,rfl⟩:=hc
   obtain ⟨h1,h2⟩:=Xf hd
   have plain:∀ (hs:step (.slice d sz p l h m') s=some s'),Zo P x n o s' a w:=fun hs=>by
    split at hcond
    ·simp at hcond
    ·rename_i hcond'
     refine Zqa hop he hsz h1 h2 (W8 hp) (ZgU hl) (ZgU hh) (ZgU hm') (fun hmx=>?_) hs sim
     cases hi with
     | some _=>rfl
     | none=>exact absurd (by simp [hmx]) hcond'
   split at hs
   ·rename_i kk
    obtain rfl:lo=none:=by cases lo with
     | none=>rfl
     | some _=>simp [Zjr] at hl
    obtain rfl:mx=none:=by cases mx with
     | none=>rfl
     | some _=>simp [Zjr] at hm'
    cases hi with
    | none=>simp [Zjr] at hh
    | some hi' =>
     simp only [Zjr,Option.map_eq_some_iff,Option.some.injEq] at hh
     obtain ⟨q,hq,rfl⟩:=hh
     exact Zr0 hop he hsz h1 h2 (W8 hp) (W8 hq) hs sim
   ·exact plain hs
  ·rename_i he
   simp only [Option.bind_eq_some_iff,Option.map_eq_some_iff] at hc
   obtain ⟨d,hd,p,hp,l,hl,h,hh,_,hcond,rfl⟩:=hc
   obtain ⟨h1,h2⟩:=Xf hd
   cases mx with
   | some _=>simp at hcond
   | none=>exact Zn4 hop he h1 h2 (W8 hp) (ZgU hl) (ZgU hh) hs sim
  ·simp at hc
 | fieldAddr t y f =>
  simp only [QQ,hop,Option.bind_eq_some_iff] at hc
  obtain ⟨d,hd,p,hp,g,hg,sz,hsz,hcond⟩:=hc
  obtain ⟨h1,h2⟩:=Xf hd
  split at hcond
  ·simp at hcond
  ·rename_i hz
   simp only [Option.some.injEq] at hcond
   subst hcond
   exact Zo4 hop h1 h2 (W8 hp) hg hsz hz hs sim
 | field t y f =>
  simp only [QQ,hop,Option.bind_eq_some_iff,Option.map_eq_some_iff] at hc
  obtain ⟨d,hd,p,hp,g,hg,ag,hag,sz,hsz,rfl⟩:=hc
  obtain ⟨h1,h2⟩:=Xf hd
  exact ZpR hop h1 h2 (W8 hp) hg hag hsz hs sim
 | indexAddr t y z =>
  simp only [QQ,hop,Option.bind_eq_some_iff,Option.map_eq_some_iff] at hc
  obtain ⟨d,hd,p,hp,q,hq,e,he,sz,hsz,rfl⟩:=hc
  obtain ⟨h1,h2⟩:=Xf hd
  cases m<;>first | exact Zn6 hop h1 h2 (W8 hp) (W8 hq) he hsz hs sim | exact ZoC hop h1 h2 (W8 hp) (W8 hq) he hsz hs sim
 | index t y z =>
  simp only [QQ,hop] at hc
  split at hc
  ·rename_i he
   simp only [Option.bind_eq_some_iff,Option.map_eq_some_iff] at hc
   obtain ⟨d,hd,p,hp,q,hq,rfl⟩:=hc
   obtain ⟨h1,h2⟩:=Xf hd
   exact ZoH hop he h1 h2 (W8 hp) (W8 hq) hs sim
  ·simp at hc
 | extract y k =>
  simp only [QQ,hop,Option.bind_eq_some_iff,Option.map_eq_some_iff] at hc
  obtain ⟨d,hd,p,hp,rfl⟩:=hc
  obtain ⟨h1,h2⟩:=Xf hd
  exact ZmP hop h1 h2 (W8 hp) hs sim
 | makeSlice t l c =>
  simp only [QQ,hop,Option.bind_eq_some_iff] at hc
  obtain ⟨d,hd,e,he,sz,hsz,z,hz,_,hcond,hc⟩:=hc
  obtain ⟨h1,h2⟩:=Xf hd
  split at hcond
  ·rename_i hcond'
   split at hc
   ·split at hc
    ·rename_i hab
     obtain ⟨rfl,han⟩:=hab
     simp only [Option.some.injEq] at hc
     subst hc
     exact ZmM hop h1 h2 han he hsz hz hcond'.1 hcond'.2.1 hcond'.2.2 hs sim
    ·simp at hc
   ·simp at hc
  ·simp at hcond
 | makeFunc fn first caps =>
  cases fn<;>simp only [QQ,hop] at hc<;>(try (simp at hc;done))
  simp only [Option.bind_eq_some_iff,Option.map_eq_some_iff] at hc
  obtain ⟨d,hd,hc⟩:=hc
  obtain ⟨h1,h2⟩:=Xf hd
  split at hc
  ·rename_i hf'
   simp only [Option.map_eq_some_iff] at hc
   obtain ⟨cs,hcs,rfl⟩:=hc
   exact Zq7 hop hf' h1 h2 hcs hs sim
  ·split at hc
   ·rename_i hf'
    simp only [Option.map_eq_some_iff] at hc
    obtain ⟨cs,hcs,rfl⟩:=hc
    exact ZpV hop hf' h1 h2 hcs hs sim
   ·simp at hc
 | nilCheck y =>
  simp only [QQ,hop,Option.bind_eq_some_iff,Option.map_eq_some_iff] at hc
  obtain ⟨d,hd,p,hp,rfl⟩:=hc
  obtain ⟨h1,h2⟩:=Xf hd
  exact Zo2 hop h1 h2 (W8 hp) hs sim
 | convert t t' y =>
  simp only [QQ,hop] at hc
  split at hc
  ·rename_i k k' h3 h4
   simp only [Option.bind_eq_some_iff,Option.map_eq_some_iff] at hc
   obtain ⟨d,hd,p,hp,rfl⟩:=hc
   obtain ⟨h1,h2⟩:=Xf hd
   exact Zr2 hop h1 h2 (W8 hp) h3 h4 hs sim
  ·simp at hc
 | call c =>
  simp only [QQ,hop] at hc
  split at hc
  ·rename_i y t hcal hargs htys
   split at hc
   ·rename_i he
    simp only [Option.bind_eq_some_iff,Option.map_eq_some_iff] at hc
    obtain ⟨d,hd,p,hp,rfl⟩:=hc
    obtain ⟨h1,h2⟩:=Xf hd
    exact ZrO hop hcal hargs htys he h1 h2 (W8 hp) hs sim
   ·rename_i e he
    simp only [Option.bind_eq_some_iff,Option.map_eq_some_iff] at hc
    obtain ⟨d,hd,p,hp,rfl⟩:=hc
    obtain ⟨h1,h2⟩:=Xf hd
    exact Zs8 hop hcal hargs htys he h1 h2 (W8 hp) hs sim
   ·simp at hc
  ·rename_i y z t u hcal hargs htys
   split at hc
   ·rename_i ue hue
    simp only [Option.bind_eq_some_iff,Option.map_eq_some_iff] at hc
    obtain ⟨d,hd,e,he,sz,hsz,zz,hz,_,hcond,p,hp,q,hq,rfl⟩:=hc
    obtain ⟨h1,h2⟩:=Xf hd
    split at hcond
    ·rename_i hcond'
     cases m<;>first | exact ZoV hop hcal hargs htys hue h1 h2 he hsz hz hcond'.1 hcond'.2.1 hcond'.2.2 (W8 hp) (W8 hq) hs sim | simp [step] at hs
    ·simp at hcond
   ·rename_i k hue
    simp only [Option.bind_eq_some_iff,Option.map_eq_some_iff] at hc
    obtain ⟨d,hd,e,he,sz,hsz,zz,hz,_,hcond,p,hp,q,hq,rfl⟩:=hc
    obtain ⟨h1,h2⟩:=Xf hd
    split at hcond
    ·rename_i hcond'
     exact ZqQ hop hcal hargs htys hue h1 h2 he hsz hz hcond'.1 hcond'.2.1 hcond'.2.2 (W8 hp) (W8 hq) hs sim
    ·simp at hcond
   ·simp at hc
  ·rename_i y z hcal hargs
   simp only [Option.bind_eq_some_iff,Option.map_eq_some_iff] at hc
   obtain ⟨d,hd,p,hp,q,hq,rfl⟩:=hc
   obtain ⟨h1,h2⟩:=Xf hd
   exact Zhe (mx:=true) hop hcal hargs h1 h2 (W8 hp) (W8 hq) hs sim
  ·rename_i y z hcal hargs
   simp only [Option.bind_eq_some_iff,Option.map_eq_some_iff] at hc
   obtain ⟨d,hd,p,hp,q,hq,rfl⟩:=hc
   obtain ⟨h1,h2⟩:=Xf hd
   exact Zhe (mx:=false) hop hcal hargs h1 h2 (W8 hp) (W8 hq) hs sim
  ·rename_i y t hcal hargs htys
   split at hc
   ·rename_i e he
    simp only [Option.bind_eq_some_iff,Option.map_eq_some_iff] at hc
    obtain ⟨d,hd,p,hp,rfl⟩:=hc
    obtain ⟨h1,h2⟩:=Xf hd
    exact ZsK hop hcal hargs htys he h1 h2 (W8 hp) hs sim
   ·simp at hc
  ·simp only [Option.bind_eq_some_iff,Option.map_eq_some_iff] at hc
   obtain ⟨_,_,_,_,_,_,rfl⟩:=hc
   simp [step] at hs
  ·simp at hc
 | pick c y z =>
  simp only [QQ,hop,Option.bind_eq_some_iff,Option.map_eq_some_iff] at hc
  obtain ⟨d,hd,p,hp,q,hq,r,hr,rfl⟩:=hc
  obtain ⟨h1,h2⟩:=Xf hd
  exact Zrm hop h1 h2 (W8 hp) (W8 hq) (W8 hr) hs sim
 | _=>simp [QQ,hop] at hc
theorem Zel {m:Md} {i:I} (hc:Zae P n o m=some i):QQ P n o m=some i∨(i=.bad o.dst∧∀ k∈o.dst.toList,k < n):=by
 unfold Zae at hc
 split at hc
 ·rename_i j hj;exact .inl (by rw [hj];exact hc)
 ·split at hc
  ·rename_i hd;simp only [Option.some.injEq] at hc;subst hc;exact .inr ⟨by rw [hd],by simp [hd]⟩
  ·rename_i d hd
   split at hc
   ·rename_i hlt;simp only [Option.some.injEq] at hc;subst hc;exact .inr ⟨by rw [hd],by simpa [hd] using hlt⟩
   ·simp at hc
end
theorem two_mem {O O1 O2:List Own} (hf:∀ p:Own->Bool,O.countP p<=O1.countP p+O2.countP p) {e:Own} (he:e∈O):e∈O1∨e∈O2:=by
 have h1:0 < O.countP (isE e):=List.countP_pos_iff.2 ⟨e,he,(VS e e).2 rfl⟩
 have h2:=hf (isE e)
 by_cases h:0 < O1.countP (isE e)
 ·obtain ⟨z,hz,hze⟩:=List.countP_pos_iff.1 h
  exact .inl ((VS e z).1 hze ▸ hz)
 ·obtain ⟨z,hz,hze⟩:=List.countP_pos_iff.1 (show 0 < O2.countP (isE e) by omega)
  exact .inr ((VS e z).1 hze ▸ hz)
section
variable {x:Cx} {w w':World} {A B:GM} {μ ν:List Nat} {h h':List Box} {OH OH':List (List Own)} {O O' O2:List Own}
theorem St'.call (s:St' x w A μ h OH O) (c:St' (Zq w A μ h OH []) w' B (μ++ν) h' OH' O') (hf:∀ p:Own->Bool,O2.countP p<=O.countP p+O'.countP p):St' x w' B (μ++ν) h' OH' O2:=by
 have hmem:∀ {b m k},(b,m,k)∈O2++OH'.flatten->(b,m,k)∈O∨(b,m,k)∈O'++OH'.flatten:=by
  intro b m k hm
  rcases List.mem_append.1 hm with hm | hm
  ·exact (two_mem hf hm).imp id (fun h=>List.mem_append.2 (.inl h))
  ·exact .inr (List.mem_append.2 (.inr hm))
 have hout:∀ {b m k},(b,m,k)∈O->b < w.heap.size∧¬ (Kg μ h b∨K6 (([]:List Own)++OH.flatten) b):=by
  intro b m k hm
  have hm':(b,m,k)∈O++OH.flatten:=List.mem_append.2 (.inl hm)
  refine ⟨s.inv.own_lt hm',?_⟩
  rintro (hl | ⟨m',k',ho⟩)
  ·exact (s.inv.own b m k hm').2.2 hl
  ·have h1:=s.inv.once b
   simp only [List.nil_append] at ho
   have h2:0 < O.countP (XF b):=W4.1 ⟨m,k,hm⟩
   have h3:0 < OH.flatten.countP (XF b):=W4.1 ⟨m',k',ho⟩
   simp only [List.countP_append] at h1
   omega
 have hx:∀ b,(Kg μ h b∨K6 (([]:List Own)++OH.flatten) b)->x.w0.heap.size<=b∨x.T0 b:=by
  rintro b (hl | ⟨m,k,ho⟩)
  ·exact s.since.liveT b hl
  ·exact s.since.ownT b m k (List.mem_append.2 (.inr (by simpa using ho)))
 have hsz:=s.since.size
 have csz:w.heap.size<=w'.heap.size:=c.since.size
 refine ⟨⟨c.inv.len,c.inv.lenO,c.inv.cells,c.inv.box,c.inv.loose,c.inv.apart,?_,?_⟩,⟨Nat.le_trans hsz csz,?_,?_,?_,?_,?_,s.since.still.trans c.since.still⟩⟩
 ·intro b m k hm
  rcases hmem hm with hm | hm
  ·obtain ⟨hlt,hT⟩:=hout hm
   obtain ⟨⟨cs,e,g1,g2⟩,g3,g4⟩:=s.inv.own b m k (List.mem_append.2 (.inl hm))
   obtain ⟨k1,k2⟩:=c.since.kept b hlt hT
   refine ⟨⟨cs,e,by rw [k1];exact g1,g2⟩,fun i hi=>by rw [k2 i];exact g3 i hi,fun hl=>?_⟩
   rcases c.since.liveT b hl with h1 | h1
   ·exact absurd hlt (Nat.not_lt.2 h1)
   ·exact hT h1
  ·exact c.inv.own b m k hm
 ·intro b
  have h1:=s.inv.once b
  have h2:=c.inv.once b
  have h3:=hf (XF b)
  simp only [List.countP_append] at h1 h2 ⊢
  by_cases hb:0 < O.countP (XF b)
  ·obtain ⟨m,k,hm⟩:=W4.2 hb
   obtain ⟨hlt,hT⟩:=hout hm
   have h4:(O'++OH'.flatten).countP (XF b)=0:=by
    refine Nat.eq_zero_of_not_pos fun hp=>?_
    obtain ⟨m',k',hm'⟩:=W4.2 hp
    rcases c.since.ownT b m' k' hm' with h1 | h1
    ·exact absurd hlt (Nat.not_lt.2 h1)
    ·exact hT h1
   simp only [List.countP_append] at h4
   omega
  ·omega
 ·intro b hb ht
  have hT:¬ (Kg μ h b∨K6 (([]:List Own)++OH.flatten) b):=fun hc=>by
   rcases hx b hc with h1 | h1
   ·omega
   ·exact ht h1
  obtain ⟨g1,g2⟩:=s.since.kept b hb ht
  obtain ⟨k1,k2⟩:=c.since.kept b (show b < w.heap.size by omega) hT
  exact ⟨k1.trans g1,fun i=>(k2 i).trans (g2 i)⟩
 ·intro b m k hm
  rcases hmem hm with hm | hm
  ·exact s.since.ownT b m k (List.mem_append.2 (.inl hm))
  ·rcases c.since.ownT b m k hm with h1 | h1
   ·exact .inl (Nat.le_trans hsz h1)
   ·exact hx b h1
 ·intro b hb
  rcases c.since.liveT b hb with h1 | h1
  ·exact .inl (Nat.le_trans hsz h1)
  ·exact hx b h1
 ·exact fun b i v hv=>c.since.le b i v (s.since.le b i v hv)
 ·obtain ⟨ξ,hξ⟩:=s.since.ext
  exact ⟨ξ++ν,by rw [hξ,List.append_assoc]⟩
end
section
variable {P:Program} {x:Cx} {n:Nat} {o:Oper} {s:St} {a:Act} {w:World}
def Leads (P:Program) (x:Cx) (n:Nat) (o:Oper) (K:St->Prop) (a:Act) (w:World):Prop :=
 ∀ (next:Act->World->Prop) (Q:Exit->Act->World->Prop),(∀ s' a' w',Sim x n s' a' w'->K s'->next a' w')->o.wp P a w next Q
theorem RepVals.share_args {A:GM} {μ:List Nat} {caps:List LV} {vs:List Value} {O:List Own} (h:RepVals A μ caps vs O):RepVals A μ (shareAll caps) vs []:=RepVals.share _ _ _ h
theorem Zhg {fid:FuncId} {args:Array Value} (hc:Zak P fid=true):(callFunc fid args).run P w=.ok (.enter fid args) w:=by
 unfold Zak at hc
 split at hc
 ·rename_i fn hfn
  simp only [Bool.and_eq_true,Bool.not_eq_true',beq_eq_false_iff_ne,ne_eq] at hc
  obtain ⟨h1,h2⟩:=hc
  have h4:¬ fn.body=none:=by intro h;rw [h] at h2;simp at h2
  simp [callFunc,hfn,h1,h4]
 ·simp at hc
theorem Zdb {m:Md} {rw:Rw} {d:Option Nat} {f:X} {args:List X} (hna:∀ sz,rw≠.ap sz) (hc:QQ P n o m=some (.call rw d f args)) :
  ∃ c g,o.op=.call c∧c.callee=.value g∧(o.dst=d∧∀ k∈d.toList,k < n)∧XOk n f g∧cXs P n c.argTypes.toList c.args.toList=some args:=by
 cases hop:o.op with
 | call c =>
  simp only [QQ,hop] at hc
  split at hc
  ·split at hc
   ·simp [Option.bind_eq_some_iff,Option.map_eq_some_iff] at hc
   ·simp [Option.bind_eq_some_iff,Option.map_eq_some_iff] at hc
   ·simp at hc
  ·split at hc
   ·simp only [Option.bind_eq_some_iff,Option.map_eq_some_iff] at hc
    obtain ⟨_,_,_,_,s',_,_,_,_,_,_,_,_,_,he⟩:=hc
    cases m<;>simp at he
    exact absurd he.1.symm (hna s')
   ·simp [Option.bind_eq_some_iff,Option.map_eq_some_iff] at hc
   ·simp at hc
  ·simp [Option.bind_eq_some_iff,Option.map_eq_some_iff] at hc
  ·simp [Option.bind_eq_some_iff,Option.map_eq_some_iff] at hc
  ·split at hc
   ·simp [Option.bind_eq_some_iff,Option.map_eq_some_iff] at hc
   ·simp at hc
  ·rename_i g hcal
   simp only [Option.bind_eq_some_iff,Option.map_eq_some_iff] at hc
   obtain ⟨d',hd',g',hg',ys,hys,he⟩:=hc
   simp only [I.call.injEq] at he
   obtain ⟨_,rfl,rfl,rfl⟩:=he
   refine ⟨c,g,rfl,hcal,?_,W8 hg',hys⟩
   cases hod:o.dst with
   | none=>simp [hod] at hd';subst hd';exact ⟨rfl,by simp⟩
   | some k =>
    simp only [hod] at hd'
    split at hd'
    ·rename_i hkn;simp at hd';subst hd';exact ⟨rfl,by simpa using hkn⟩
    ·simp at hd'
  ·simp at hc
 | makeFunc fn first caps =>
  cases fn<;>(try (simp [QQ,hop] at hc;done))
  simp only [QQ,hop,Option.bind_eq_some_iff] at hc
  obtain ⟨_,_,hc⟩:=hc
  split at hc
  ·simp [Option.map_eq_some_iff] at hc
  ·split at hc<;>simp [Option.map_eq_some_iff] at hc
 | store t y z =>
  simp only [QQ,hop] at hc
  split at hc<;>simp [Option.bind_eq_some_iff,Option.map_eq_some_iff] at hc
 | build t ps =>
  simp only [QQ,hop] at hc
  split at hc<;>simp [Option.bind_eq_some_iff,Option.map_eq_some_iff] at hc
 | slice t y lo hi mx =>
  simp only [QQ,hop] at hc
  split at hc
  ·simp only [Option.bind_eq_some_iff,Option.map_eq_some_iff] at hc
   obtain ⟨_,_,_,_,_,_,_,_,_,_,_,_,_,_,hc⟩:=hc
   split at hc<;>simp at hc
  ·simp [Option.bind_eq_some_iff,Option.map_eq_some_iff] at hc
  ·simp at hc
 | index t y z =>
  simp only [QQ,hop] at hc
  split at hc<;>simp [Option.bind_eq_some_iff,Option.map_eq_some_iff] at hc
 | convert t t' y =>
  simp only [QQ,hop] at hc
  split at hc<;>simp [Option.bind_eq_some_iff,Option.map_eq_some_iff] at hc
 | makeSlice t l c =>
  simp only [QQ,hop,Option.bind_eq_some_iff] at hc
  obtain ⟨_,_,_,_,_,_,_,_,_,_,hc⟩:=hc
  split at hc
  ·split at hc<;>simp at hc
  ·simp at hc
 | fieldAddr t y f =>
  simp only [QQ,hop,Option.bind_eq_some_iff] at hc
  obtain ⟨_,_,_,_,_,_,_,_,hc⟩:=hc
  split at hc<;>simp at hc
 | load _ _=>cases m<;>simp [QQ,hop,Option.bind_eq_some_iff,Option.map_eq_some_iff] at hc
 | indexAddr _ _ _=>cases m<;>simp [QQ,hop,Option.bind_eq_some_iff,Option.map_eq_some_iff] at hc
 | _=>simp [QQ,hop,Option.bind_eq_some_iff,Option.map_eq_some_iff] at hc
theorem Zgk {m:Md} {sz:Nat} {d:Option Nat} {f:X} {args:List X} (hc:QQ P n o m=some (.call (.ap sz) d f args)) :
  ∃ c u1 u2 t u ue e z y1 y2 d',o.op=.call c∧c.callee=.builtin .append∧c.args.toList=[u1,u2]∧c.argTypes.toList=[t,u]∧P.underlying u=some (.slice ue)∧d=some d'∧o.dst=some d'∧d' < n∧Z1 P t=some e∧sz? P e=some sz∧zLV P e=some z ∧
   z.length=sz∧0 < sz∧P.bytesOf e<=128∧XOk n y1 u1∧XOk n y2 u2∧f=.k (.fn 0 [])∧args=[y1,y2]:=by
 cases hop:o.op with
 | call c =>
  simp only [QQ,hop] at hc
  split at hc
  ·split at hc
   ·simp [Option.bind_eq_some_iff,Option.map_eq_some_iff] at hc
   ·simp [Option.bind_eq_some_iff,Option.map_eq_some_iff] at hc
   ·simp at hc
  ·rename_i w1 w2 u1 u2 t u hcal hargs htys
   split at hc
   ·rename_i ue hue
    simp only [Option.bind_eq_some_iff,Option.map_eq_some_iff] at hc
    obtain ⟨d',hd,e,he,s',hsz,zz,hz,_,hcond,p,hp,q,hq,heq⟩:=hc
    obtain ⟨h1,h2⟩:=Xf hd
    split at hcond
    ·rename_i hcond'
     cases m<;>simp at heq
     obtain ⟨rfl,rfl,rfl,rfl⟩:=heq
     exact ⟨c,u1,u2,t,u,ue,e,zz,p,q,d',rfl,hcal,hargs,htys,hue,rfl,h1,h2,he,hsz,hz,hcond'.1,hcond'.2.1,hcond'.2.2,W8 hp,W8 hq,rfl,rfl⟩
    ·simp at hcond
   ·simp [Option.bind_eq_some_iff,Option.map_eq_some_iff] at hc
   ·simp at hc
  ·simp [Option.bind_eq_some_iff,Option.map_eq_some_iff] at hc
  ·simp [Option.bind_eq_some_iff,Option.map_eq_some_iff] at hc
  ·split at hc
   ·simp [Option.bind_eq_some_iff,Option.map_eq_some_iff] at hc
   ·simp at hc
  ·rename_i g hcal
   simp only [Option.bind_eq_some_iff,Option.map_eq_some_iff] at hc
   obtain ⟨d',hd',g',hg',ys,hys,he⟩:=hc
   simp only [I.call.injEq] at he
   obtain ⟨hm,_⟩:=he
   cases m<;>simp [Md.rw] at hm
  ·simp at hc
 | makeFunc fn first caps =>
  cases fn<;>(try (simp [QQ,hop] at hc;done))
  simp only [QQ,hop,Option.bind_eq_some_iff] at hc
  obtain ⟨_,_,hc⟩:=hc
  split at hc
  ·simp [Option.map_eq_some_iff] at hc
  ·split at hc<;>simp [Option.map_eq_some_iff] at hc
 | store t y z =>
  simp only [QQ,hop] at hc
  split at hc<;>simp [Option.bind_eq_some_iff,Option.map_eq_some_iff] at hc
 | build t ps =>
  simp only [QQ,hop] at hc
  split at hc<;>simp [Option.bind_eq_some_iff,Option.map_eq_some_iff] at hc
 | slice t y lo hi mx =>
  simp only [QQ,hop] at hc
  split at hc
  ·simp only [Option.bind_eq_some_iff,Option.map_eq_some_iff] at hc
   obtain ⟨_,_,_,_,_,_,_,_,_,_,_,_,_,_,hc⟩:=hc
   split at hc<;>simp at hc
  ·simp [Option.bind_eq_some_iff,Option.map_eq_some_iff] at hc
  ·simp at hc
 | index t y z =>
  simp only [QQ,hop] at hc
  split at hc<;>simp [Option.bind_eq_some_iff,Option.map_eq_some_iff] at hc
 | convert t t' y =>
  simp only [QQ,hop] at hc
  split at hc<;>simp [Option.bind_eq_some_iff,Option.map_eq_some_iff] at hc
 | makeSlice t l c =>
  simp only [QQ,hop,Option.bind_eq_some_iff] at hc
  obtain ⟨_,_,_,_,_,_,_,_,_,_,hc⟩:=hc
  split at hc
  ·split at hc<;>simp at hc
  ·simp at hc
 | fieldAddr t y f =>
  simp only [QQ,hop,Option.bind_eq_some_iff] at hc
  obtain ⟨_,_,_,_,_,_,_,_,hc⟩:=hc
  split at hc<;>simp at hc
 | load _ _=>cases m<;>simp [QQ,hop,Option.bind_eq_some_iff,Option.map_eq_some_iff] at hc
 | indexAddr _ _ _=>cases m<;>simp [QQ,hop,Option.bind_eq_some_iff,Option.map_eq_some_iff] at hc
 | _=>simp [QQ,hop,Option.bind_eq_some_iff,Option.map_eq_some_iff] at hc
theorem sound_ap {m:Md} {sz:Nat} {d:Option Nat} {f:X} {args:List X} {K:St->Prop} (hc:QQ P n o m=some (.call (.ap sz) d f args)) (hk:Z7 P (.ap sz) d f args K s) (sim:Sim x n s a w) :
  Leads P x n o K a w:=by
 obtain ⟨c,u1,u2,t,u,ue,e,z,y1,y2,d',hop,hcal,hargs,htt,hue,rfl,hd,hdn,he,hsz,hz,hzl,hpos,hby,hy1,hy2,rfl,rfl⟩:=Zgk hc
 obtain ⟨fid,vals,hfn,hw⟩:=hk
 have hg:get s.t (.k (.fn 0 []))=.fn 0 []:=rfl
 rw [hg] at hfn
 simp only [ZW,Option.some.injEq,Prod.mk.injEq,shareAll,List.append_nil,List.map_cons,List.map_nil] at hfn
 obtain ⟨rfl,rfl⟩:=hfn
 rw [Zha] at hw
 obtain ⟨X0,nil2,ys,hv,hne,hw⟩:=hw
 simp only [List.cons.injEq,and_true] at hv
 obtain ⟨hX,hY⟩:=hv
 obtain ⟨A,μ,OH,Ot,ht,h0,hr,st⟩:=sim
 obtain ⟨i,v,hi,hvz,hrep,hone⟩:=Zgg hz
 have hvl:v.cells.size=sz:=by rw [<- Array.length_toList,(hrep A μ).length,hzl]
 have hby':i.bytes<=128:=by simpa [Program.bytesOf,hi] using hby
 obtain ⟨i2,hi2,hisz⟩:=ZqP hsz
 rw [hi] at hi2
 obtain rfl:i=i2:=by simpa using hi2
 have hargs':c.args=#[u1,u2]:=by rw [<- Array.toArray_toList (xs:=c.args),hargs]
 have ht':c.argTypes=#[t,u]:=by rw [<- Array.toArray_toList (xs:=c.argTypes),htt]
 have hexec:∀ r w',(Builtin.append_ #[t,u] o.type #[a.eval u1,a.eval u2]).run P w=.ok r w'->(execOp a.eval o).run P w=.ok (.value r) w':=by
  intro r w' h
  rw [ZC hop hcal,hargs',ht']
  simp [builtin,h]
 have hr1:=Rep.share _ _ _ (QY hy1 hr)
 rw [hX] at hr1
 have hr2:=Rep.share _ _ _ (QY hy2 hr)
 rw [hY] at hr2
 obtain ⟨b2,cap2,vs2,O2,e2,hcap2,rv2,vl2,xl2,oc2,one2,nb2,nc2,cell2,row2⟩:=Zd9 hr2
 have hO2:O2=[]:=by
  have:=oc2 fun _=>true
  simp at this
  exact this
 subst hO2
 have hnil2:b2=none->ys.length=0:=by
  intro h
  have:=nc2 (by rw [nb2,h];rfl)
  omega
 have vl2':vs2.length=ys.length * i.size:=by rw [vl2,hisz]
 intro next Q hnext
 rcases hw with ⟨uq,z0,rfl,hmost,hK⟩ | ⟨l,m0,cap,xs,rfl,hl,hxl,hncap,hmost,hK1,hK2⟩
 ·
  simp only [Rep] at hr1
  rcases hr1 with ⟨_,e1,_⟩ | ⟨h,_⟩
  ·have hlen:0 < ys.length:=List.length_pos_iff.2 hne
   obtain ⟨rest,hrl,hrone,hgrow,hrun⟩:=Za5 (P:=P) (w:=w) t u e ue o.type i v (YI he) hue hi hvz none 0 0 b2 ys.length cap2 [] vs2 (by simp) vl2' (by simp) (by simp)
    (cell2 w st.inv.cells) hnil2 (by omega) (by omega) hby' hone
   rw [<- e1,<- e2] at hrun
   generalize hG:grownCap w (0+ys.length) 0 e=G at hrun hrl hgrow
   unfold Oper.wp
   rw [hexec _ _ hrun]
   refine hnext _ _ _ ?_ (hK G rest.length (by omega) (by rw [hrl,hvl,Nat.zero_add,<- Nat.add_mul];congr 1;omega))
   have st0:St' x w.drew A μ s.h OH (XV n Ot):=st.heap rfl ⟨rfl,rfl,rfl⟩
   have hrv:RepVals A μ (ys.flatten++List.replicate rest.length LV.dead) ([]++vs2++rest) ([]++[]):=by
    rw [List.nil_append];exact RepVals.app rv2 (RepVals.dead rest)
   have st':=st0.newBox ([]++vs2++rest) e (ys.flatten++List.replicate rest.length LV.dead) [] (XV n (upd Ot d' [])) (by simpa using hrv) (fun q hq=>by
    rcases List.mem_append.1 hq with hq | hq
    ·rcases List.mem_append.1 hq with hq | hq
     ·simp at hq
     ·exact one2 q hq
    ·exact hrone q hq) (fun p=>by
    have:=Xe p Ot d' [] n hdn
    simp at this ⊢;omega)
   rw [hd]
   refine KB (ν:=[w.heap.size]) (Od:=[]) ht h0 hr (fun _ _ _ h=>h) hdn ?_ st'
   simp only [Rep]
   refine ⟨trivial,by simp [st.inv.len],?_⟩
   rw [V7 st.inv.len,Nat.zero_mul,Nat.zero_add]
  ·simp at h
 ·simp only [Rep] at hr1
  obtain ⟨_,hlμ,e1⟩:=hr1
  rw [Nat.zero_mul] at e1
  obtain ⟨cs,ee,hcs,hxs,hone1⟩:=st.inv.box l xs hl
  have hlen:=hxs.length
  rw [Array.length_toList] at hlen
  by_cases hle:m0+ys.length<=cap
  ·
   have hroom:m0 * sz+vs2.length<=cs.size:=by
    rw [hlen,hxl,vl2,<- Nat.add_mul]
    exact Nat.mul_le_mul_right _ hle
   have hfl:ys.flatten.length=vs2.length:=by rw [rv2.length]
   obtain ⟨O',hO',hOle,_⟩:=RepVals.splice hxs rv2 (m0 * sz) (by omega)
   have hrun:=ZbZ (P:=P) (w:=w) t u e ue o.type i (YI he) hue hi (some ⟨μ.getD l 0,0,none⟩) m0 cap b2 ys.length cap2 vs2 vl2' (cell2 w st.inv.cells) hnil2 hle
    { w with heap:=w.heap.setIfInBounds (μ.getD l 0) (.cells (Yh cs (m0 * sz) vs2) ee (0,0)) } (by
     intro ad' had'
     obtain rfl:(⟨μ.getD l 0,0,none⟩:Addr)=ad':=by simpa using had'
     rw [KY,hisz,Nat.zero_add]
     have:=Ky (P:=P) (b:=μ.getD l 0) (off:=m0 * sz) (e:=ee) vs2 0 cs w hcs one2 (by omega)
     simpa using this) (fun h=>by simp at h)
   rw [<- e1,<- e2] at hrun
   unfold Oper.wp
   rw [hexec _ _ hrun]
   refine hnext _ _ _ ?_ (hK1 hle)
   have htl:(Yh cs (m0 * sz) vs2).toList=cs.toList.take (m0 * sz)++vs2++cs.toList.drop (m0 * sz+ys.flatten.length):=by
    rw [Zb3 _ _ _ hroom,hfl]
   have st':=st.setBox hl (Yh cs (m0 * sz) vs2) ee (splice xs (m0 * sz) ys.flatten) O' (XV n (upd Ot d' [])) (by rw [htl];exact hO') (by
    rw [htl]
    intro c' hc'
    rcases List.mem_append.1 hc' with hc' | hc'
    ·rcases List.mem_append.1 hc' with hc' | hc'
     ·exact hone1 _ (List.mem_of_mem_take hc')
     ·exact one2 _ hc'
    ·exact hone1 _ (List.mem_of_mem_drop hc')) (fun p=>by
    have h1:=Xe p Ot d' [] n hdn
    have h2:=hOle p
    simp only [List.countP_nil,Nat.add_zero] at h1 h2
    omega)
   rw [hd]
   refine KB (ν:=[]) (Od:=[]) ht h0 hr (fun _ _ _ h=>h) hdn ?_ (by rw [List.append_nil];exact st')
   rw [List.append_nil]
   simp only [Rep]
   exact ⟨trivial,hlμ,by rw [Nat.zero_mul]⟩
  ·
   have hnn:m0 * sz<=cs.toList.length:=by
    rw [Array.length_toList,hlen,hxl]
    exact Nat.mul_le_mul_right _ hncap
   have hol:(cs.toList.take (m0 * sz)).length=m0 * i.size:=by
    rw [List.length_take,hisz];omega
   obtain ⟨P1,P2,P3,hP,hp1,hp2,hp3⟩:=hxs.mid (m0 * sz) 0 (by rw [hxl,Nat.add_zero];exact Nat.mul_le_mul_right _ hncap)
   have holds:∀ ad,some (⟨μ.getD l 0,0,none⟩:Addr)=some ad->∀ j q,(cs.toList.take (m0 * sz))[j]?=some q->w.cell? (ad.add j)=some q:=by
    intro ad had j q hj
    obtain rfl:(⟨μ.getD l 0,0,none⟩:Addr)=ad:=by simpa using had
    rw [KY,Nat.zero_add,Xj hcs]
    have hjl:j < m0 * sz:=by
     rcases Nat.lt_or_ge j (m0 * sz) with g | g
     ·exact g
     ·rw [List.getElem?_eq_none (by rw [List.length_take];omega)] at hj;simp at hj
    rw [List.getElem?_take,if_pos hjl] at hj
    simpa using hj
   obtain ⟨rest,hrl,hrone,hgrow,hrun⟩:=Za5 (P:=P) (w:=w) t u e ue o.type i v (YI he) hue hi hvz (some ⟨μ.getD l 0,0,none⟩) m0 cap b2 ys.length cap2 (cs.toList.take (m0 * sz)) vs2 hol vl2' holds (by simp)
    (cell2 w st.inv.cells) hnil2 hle hmost hby' hone
   rw [<- e1,<- e2] at hrun
   generalize hG:grownCap w (m0+ys.length) cap e=G at hrun hrl hgrow
   unfold Oper.wp
   rw [hexec _ _ hrun]
   refine hnext _ _ _ ?_ (hK2 (by omega) G rest.length hgrow (by rw [hrl,hvl,<- Nat.add_mul];congr 1;omega))
   have sa:=st.setBox hl cs ee (List.replicate xs.length LV.dead) [] (XV n (upd Ot d' [])++P1) (by
    have:=RepVals.dead (A:=A) (μ:=μ) cs.toList
    rw [Array.length_toList,hlen] at this
    exact this) hone1 (fun p=>by
    have h1:=Xe p Ot d' [] n hdn
    rw [hP]
    simp at h1 ⊢
    omega)
   rw [YW hcs] at sa
   have sb:St' x w.drew A μ (s.h.set l (some (List.replicate xs.length LV.dead))) (OH.set l []) (XV n (upd Ot d' [])++P1):=sa.heap rfl ⟨rfl,rfl,rfl⟩
   have hrv:RepVals A μ (xs.take (m0 * sz)++ys.flatten++List.replicate rest.length LV.dead) (cs.toList.take (m0 * sz)++vs2++rest) (P1++[]++[]):=RepVals.app (RepVals.app hp1 rv2) (RepVals.dead rest)
   have sc:=sb.newBox (cs.toList.take (m0 * sz)++vs2++rest) e (xs.take (m0 * sz)++ys.flatten++List.replicate rest.length LV.dead) P1 (XV n (upd Ot d' [])) (by simpa using hrv) (fun q hq=>by
    rcases List.mem_append.1 hq with hq | hq
    ·rcases List.mem_append.1 hq with hq | hq
     ·exact hone1 _ (List.mem_of_mem_take hq)
     ·exact one2 q hq
    ·exact hrone q hq) (fun p=>by simp)
   rw [hd]
   refine KB (ν:=[w.heap.size]) (Od:=[]) ht h0 hr (fun _ _ _ h=>h) hdn ?_ sc
   simp only [Rep]
   refine ⟨trivial,by simp [st.inv.len],?_⟩
   rw [V7 st.inv.len,Nat.zero_mul]
theorem Zq8 {m:Md} {rw:Rw} {d:Option Nat} {f:X} {args:List X} {K:St->Prop} (hna:∀ sz,rw≠.ap sz) (hc:QQ P n o m=some (.call rw d f args)) (hk:Z7 P rw d f args K s) (sim:Sim x n s a w) :
  Leads P x n o K a w:=by
 obtain ⟨c,g,hop,hcal,hd,hg,hargs⟩:=Zdb hna hc
 obtain ⟨fid,vals,hfn,hcalls⟩:=hk
 have hcalls:=ZmG hna hcalls
 obtain ⟨A,μ,OH,Ot,ht,h0,hr,st⟩:=sim
 have hfr:=QY hg hr
 have hav:=ZbK (P:=P) (s:=s) (a:=a) hr hargs
 obtain ⟨ws,hall,hrun⟩:∃ ws:List Value,RepVals A μ vals ws []∧(execOp a.eval o).run P w=.ok (.enter fid ws.toArray) w:=by
  unfold ZW at hfn
  split at hfn
  ·rename_i f' caps hgf
   simp only [Option.some.injEq,Prod.mk.injEq] at hfn
   obtain ⟨rfl,rfl⟩:=hfn
   rw [hgf] at hfr
   simp only [Rep] at hfr
   obtain ⟨cvs,hfv,hcaps⟩:=hfr
   exact ⟨c.args.toList.map a.eval++cvs,RepVals.app (O1:=[]) (O2:=[]) hav (RepVals.share_args hcaps),by
    simp [execOp,hop,resolve,hcal,hfv,Deferred.ofValue,invoke,Zhg hcalls.1]⟩
  ·rename_i f' first hgf
   simp only [Option.some.injEq,Prod.mk.injEq] at hfn
   obtain ⟨rfl,rfl⟩:=hfn
   rw [hgf] at hfr
   simp only [Rep] at hfr
   obtain ⟨cvs,hfv,hcaps⟩:=hfr
   exact ⟨cvs++c.args.toList.map a.eval,RepVals.app (O1:=[]) (O2:=[]) (RepVals.share_args hcaps) hav,by
    simp [execOp,hop,resolve,hcal,hfv,Deferred.ofValue,invoke,Zhg hcalls.1]⟩
  ·simp at hfn
 intro next Q hnext
 unfold Oper.wp
 rw [hrun,Oper.upon_enter]
 refine (hcalls.2.2 w A μ OH _ [] hall (st.inv.fewer (Zi.nil _))).mono fun e w' he=>?_
 obtain ⟨v,r,h',B,ν,OH',O',rfl,hK,hrep,st'⟩:=he
 refine hnext (WA s d r h') _ _ ?_ hK
 rw [hd.1]
 have hle:A.Le B:=st'.since.le
 cases d with
 | none =>
  refine ⟨B,μ++ν,OH',Ot,by simpa [Act.put] using ht,by simpa [Act.put] using h0,fun i hi=>?_,St'.call st st' (fun p=>by omega)⟩
  exact Rep.mono hle _ _ _ (hr i hi)
 | some k =>
  have hkn:k < n:=hd.2 k (by simp)
  exact KB ht h0 hr hle hkn hrep (St'.call st st' (fun p=>by
   have:=Xe p Ot k O' n hkn
   omega))
end
section
variable (P:Program) (n:Nat)
def cG (ops:Array Oper) (o:Oper) (m:Md):Option GI :=
 match o.guard with
 | none=>(Zae P n o m).map fun i=>(none,i)
 | some (j,want)=>match (ops[j]?).bind (·.dst) with
  | some d=>if d < n then (Zae P n o m).map fun i=>(some (d,want),i) else none
  | none=>none
def Zgq (ops:Array Oper):List Oper->List Md->Option (List GI)
 | [],_=>some []
 | o::os,ms=>match cG P n ops o (ms.headD .copy),Zgq ops os ms.tail with
  | some g,some gs=>some (g::gs)
  | _,_=>none
end
section
variable {P:Program} {x:Cx} {n:Nat} {s:St} {a:Act} {w:World}
theorem ZrN {A:GM} {μ:List Nat} {y:LV} {v:Value} {O:List Own} {b:Bool} (h:Zd7 y=some b) (hr:Rep A μ y v O):v=.bool b:=by
 unfold Zd7 at h
 split at h
 ·simp at h;subst h;simp only [Rep] at hr;exact hr.1
 ·simp at h
theorem ZqE {o:Oper} {m:Md} {i:I} (h:QQ P n o m=some i):o.dst=i.dst∧∀ k∈i.dst.toList,k < n:=by
 cases hcall:i.isCall with
 | true =>
  cases i<;>simp [I.isCall] at hcall
  rename_i rw_ d_ f_ args_
  by_cases hap:∃ sz,rw_=.ap sz
  ·obtain ⟨sz,rfl⟩:=hap
   obtain ⟨c,u1,u2,t,u,ue,e,z,y1,y2,d',_,_,_,_,_,rfl,h1,h2,_⟩:=Zgk h
   exact ⟨h1,by simpa [I.dst] using h2⟩
  ·obtain ⟨c,g,_,_,h3,_,_⟩:=Zdb (fun sz e=>hap ⟨sz,e⟩) h
   exact h3
 | false =>
  cases hop:o.op<;>simp only [QQ,hop] at h
  all_goals (try (simp at h;done))
  case store t y z =>
   split at h
   ·rename_i hd
    simp only [Option.bind_eq_some_iff,Option.map_eq_some_iff] at h
    obtain ⟨_,_,_,_,_,_,rfl⟩:=h
    exact ⟨hd,by simp [I.dst]⟩
   ·simp at h
  case makeFunc fn first caps =>
   cases fn<;>simp only at h
   all_goals (try (simp at h;done))
   simp only [Option.bind_eq_some_iff] at h
   obtain ⟨d,hd,h⟩:=h
   obtain ⟨h1,h2⟩:=Xf hd
   split at h
   ·simp only [Option.map_eq_some_iff] at h
    obtain ⟨_,_,rfl⟩:=h
    exact ⟨h1,by simpa [I.dst] using h2⟩
   ·split at h
    ·simp only [Option.map_eq_some_iff] at h
     obtain ⟨_,_,rfl⟩:=h
     exact ⟨h1,by simpa [I.dst] using h2⟩
    ·simp at h
  case call c =>
   split at h
   ·split at h
    ·simp only [Option.bind_eq_some_iff,Option.map_eq_some_iff] at h
     obtain ⟨d,hd,_,_,rfl⟩:=h
     obtain ⟨h1,h2⟩:=Xf hd
     exact ⟨h1,by simpa [I.dst] using h2⟩
    ·simp only [Option.bind_eq_some_iff,Option.map_eq_some_iff] at h
     obtain ⟨d,hd,_,_,rfl⟩:=h
     obtain ⟨h1,h2⟩:=Xf hd
     exact ⟨h1,by simpa [I.dst] using h2⟩
    ·simp at h
   ·split at h
    ·simp only [Option.bind_eq_some_iff,Option.map_eq_some_iff] at h
     obtain ⟨d,hd,_,_,_,_,_,_,_,_,_,_,_,_,rfl⟩:=h
     obtain ⟨h1,h2⟩:=Xf hd
     cases m<;>first | exact ⟨h1,by simpa [I.dst] using h2⟩ | simp [I.isCall] at hcall
    ·simp only [Option.bind_eq_some_iff,Option.map_eq_some_iff] at h
     obtain ⟨d,hd,_,_,_,_,_,_,_,_,_,_,_,_,rfl⟩:=h
     obtain ⟨h1,h2⟩:=Xf hd
     exact ⟨h1,by simpa [I.dst] using h2⟩
    ·simp at h
   ·simp only [Option.bind_eq_some_iff,Option.map_eq_some_iff] at h
    obtain ⟨d,hd,_,_,_,_,rfl⟩:=h
    obtain ⟨h1,h2⟩:=Xf hd
    exact ⟨h1,by simpa [I.dst] using h2⟩
   ·simp only [Option.bind_eq_some_iff,Option.map_eq_some_iff] at h
    obtain ⟨d,hd,_,_,_,_,rfl⟩:=h
    obtain ⟨h1,h2⟩:=Xf hd
    exact ⟨h1,by simpa [I.dst] using h2⟩
   ·split at h
    ·simp only [Option.bind_eq_some_iff,Option.map_eq_some_iff] at h
     obtain ⟨d,hd,_,_,rfl⟩:=h
     obtain ⟨h1,h2⟩:=Xf hd
     exact ⟨h1,by simpa [I.dst] using h2⟩
    ·simp at h
   ·simp only [Option.bind_eq_some_iff,Option.map_eq_some_iff] at h
    obtain ⟨_,_,_,_,_,_,rfl⟩:=h
    simp [I.isCall] at hcall
   ·simp at h
  case build t ps =>
   split at h
   ·simp only [Option.bind_eq_some_iff,Option.map_eq_some_iff] at h
    obtain ⟨d,hd,_,_,_,_,_,_,rfl⟩:=h
    obtain ⟨h1,h2⟩:=Xf hd
    exact ⟨h1,by simpa [I.dst] using h2⟩
   ·simp at h
  case slice t y lo hi mx =>
   split at h
   ·simp only [Option.bind_eq_some_iff,Option.map_eq_some_iff] at h
    obtain ⟨d,hd,_,_,_,_,_,_,_,_,_,_,_,_,rfl⟩:=h
    obtain ⟨h1,h2⟩:=Xf hd
    split<;>exact ⟨h1,by simpa [I.dst] using h2⟩
   ·simp only [Option.bind_eq_some_iff,Option.map_eq_some_iff] at h
    obtain ⟨d,hd,_,_,_,_,_,_,_,_,rfl⟩:=h
    obtain ⟨h1,h2⟩:=Xf hd
    exact ⟨h1,by simpa [I.dst] using h2⟩
   ·simp at h
  case index t y z =>
   split at h
   ·simp only [Option.bind_eq_some_iff,Option.map_eq_some_iff] at h
    obtain ⟨d,hd,_,_,_,_,rfl⟩:=h
    obtain ⟨h1,h2⟩:=Xf hd
    exact ⟨h1,by simpa [I.dst] using h2⟩
   ·simp at h
  case convert t t' y =>
   split at h
   ·simp only [Option.bind_eq_some_iff,Option.map_eq_some_iff] at h
    obtain ⟨d,hd,_,_,rfl⟩:=h
    obtain ⟨h1,h2⟩:=Xf hd
    exact ⟨h1,by simpa [I.dst] using h2⟩
   ·simp at h
  case makeSlice t l c =>
   simp only [Option.bind_eq_some_iff] at h
   obtain ⟨d,hd,_,_,_,_,_,_,_,_,h⟩:=h
   obtain ⟨h1,h2⟩:=Xf hd
   split at h
   ·split at h
    ·simp only [Option.some.injEq] at h
     subst h
     exact ⟨h1,by simpa [I.dst] using h2⟩
    ·simp at h
   ·simp at h
  case fieldAddr t y f =>
   simp only [Option.bind_eq_some_iff] at h
   obtain ⟨d,hd,_,_,_,_,_,_,h⟩:=h
   obtain ⟨h1,h2⟩:=Xf hd
   split at h
   ·simp at h
   ·simp only [Option.some.injEq] at h
    subst h
    exact ⟨h1,by simpa [I.dst] using h2⟩
  all_goals
   simp only [Option.bind_eq_some_iff,Option.map_eq_some_iff] at h
   obtain ⟨d,hd,h⟩:=h
   obtain ⟨h1,h2⟩:=Xf hd
   repeat (obtain ⟨_,_,h⟩:=h)
   first
   | exact ⟨h1,by simpa [I.dst] using h2⟩
   | (cases m<;>(subst h;exact ⟨h1,by simpa [I.dst] using h2⟩))
   | (cases m<;>exact ⟨h1,by simpa [I.dst] using h2⟩)
theorem ZoZ {o:Oper} {m:Md} {i:I} (h:Zae P n o m=some i):o.dst=i.dst∧∀ k∈i.dst.toList,k < n:=by
 rcases Zel h with h1 | ⟨h1,h2⟩
 ·exact ZqE h1
 ·subst h1;exact ⟨rfl,h2⟩
theorem Zoi {ops:Array Oper} {k:Nat} {o:Oper} {m:Md} {g:GI} {K:St->Prop} {next:Act->World->Prop} {Q:Exit->Act->World->Prop} (hk:ops[k]?=some o) (hc:cG P n ops o m=some g)
  (hw:wpG P g K s) (sim:Sim x n s a w) (hnext:∀ s' a' w',Sim x n s' a' w'->K s'->next a' w'):wpOp P ops Q k next a w:=by
 unfold wpOp
 simp only [hk]
 have core:∀ i,Zae P n o m=some i->wpG P (none,i) K s->o.wp P a w next Q:=by
  intro i hi hwi
  have hi:QQ P n o m=some i:=by
   rcases Zel hi with h1 | ⟨h1,_⟩
   ·exact h1
   ·rw [h1,Wl (g:=(none,_)) rfl] at hwi
    obtain ⟨s',h2,_⟩:=hwi
    simp [Wj,step] at h2
  cases hcall:i.isCall with
  | true =>
   cases i<;>simp [I.isCall] at hcall
   rw [JY (g:=(none,_)) rfl] at hwi
   rename_i rw_ d_ f_ args_ _
   by_cases hap:∃ sz,rw_=.ap sz
   ·obtain ⟨sz,rfl⟩:=hap
    exact sound_ap hi hwi sim next Q hnext
   ·exact Zq8 (fun sz e=>hap ⟨sz,e⟩) hi hwi sim next Q hnext
  | false =>
   rw [Wl (g:=(none,i)) hcall] at hwi
   obtain ⟨s',h1,h2⟩:=hwi
   exact Ztm hi (s':=s') h1 sim next Q (fun a' w' hs=>hnext s' a' w' hs h2)
 unfold cG at hc
 split at hc
 ·rename_i hg
  simp only [Option.map_eq_some_iff] at hc
  obtain ⟨i,hi,rfl⟩:=hc
  rw [if_pos (by simp [Region.wanted,hg])]
  exact .inl (core i hi hw)
 ·rename_i j want hg
  split at hc
  ·rename_i d hd
   split at hc
   ·rename_i hcond
    simp only [Option.map_eq_some_iff] at hc
    obtain ⟨i,hi,rfl⟩:=hc
    obtain ⟨A,μ,OH,Ot,ht,h0,hr,st⟩:=sim
    have hy:∀ b,gd want (s.t d)=some b->(yielded ops a.tmps j=some b∨(yielded ops a.tmps j=none∧b=!want)):=by
     intro b hb
     have hrd:=hr d hcond
     rw [Array.getD_eq_getD_getElem?] at hrd
     rw [Array.getElem?_eq_getElem (show d < a.tmps.size by rw [ht];exact hcond)] at hrd
     simp only [Option.getD_some] at hrd
     unfold yielded
     rw [hd]
     simp only [Option.bind_some]
     rw [Array.getElem?_eq_getElem (show d < a.tmps.size by rw [ht];exact hcond)]
     unfold gd at hb
     split at hb
     ·rename_i b' hs
      rw [hs] at hrd
      simp only [Rep] at hrd
      simp only [Option.some.injEq] at hb
      subst hb
      left;rw [hrd.1]
     ·rename_i vs hs
      rw [hs] at hrd
      simp only [Rep] at hrd
      simp only [Option.some.injEq] at hb
      right;rw [hrd.1];exact ⟨rfl,hb.symm⟩
     ·simp at hb
    have sim:Sim x n s a w:=⟨A,μ,OH,Ot,ht,h0,hr,st⟩
    have hdst:=ZoZ hi
    have skipSim:Sim x n (TL.skip i s) (a.put o.dst undef) w:=by
     rw [hdst.1]
     unfold TL.skip
     cases hid:i.dst with
     | none=>exact ⟨A,μ,OH,Ot,by simpa [Act.put] using ht,by simpa [Act.put] using h0,hr,st⟩
     | some k =>
      exact Wa ht h0 hr (hdst.2 k (by simp [hid])) (Od:=[]) (by simp [Rep]) st (fun p=>by simp)
    cases hcall:i.isCall with
    | true =>
     cases i<;>simp [I.isCall] at hcall
     rw [JY (g:=(some (d,want),_)) rfl] at hw
     obtain ⟨b,hb,h1,h2⟩:=hw
     have hyb:=hy b hb
     by_cases hbw:b=want
     ·have hyb:yielded ops a.tmps j=some b:=hyb.resolve_right (fun h=>by rw [h.2] at hbw;cases want<;>simp at hbw)
      rw [if_pos (by simp [Region.wanted,hg,hyb,hbw])]
      exact .inl (core _ hi (by rw [JY (g:=(none,_)) rfl];exact h1 hbw))
     ·rw [if_neg (by rcases hyb with hyb | ⟨hyb,_⟩<;>simp [Region.wanted,hg,hyb,hbw])]
      exact hnext _ _ _ skipSim (h2 hbw)
    | false =>
     rw [Wl (g:=(some (d,want),i)) hcall] at hw
     obtain ⟨s',h1,h2⟩:=hw
     unfold Wj at h1
     simp only at h1
     split at h1
     ·rename_i b hb
      have hyb:=hy b hb
      split at h1
      ·rename_i hbw
       have hyb:yielded ops a.tmps j=some b:=hyb.resolve_right (fun h=>by rw [h.2] at hbw;cases want<;>simp at hbw)
       rw [if_pos (by simp [Region.wanted,hg,hyb,hbw])]
       exact .inl (core _ hi (by rw [Wl (g:=(none,i)) hcall];exact ⟨s',h1,h2⟩))
      ·rename_i hbw
       rw [if_neg (by rcases hyb with hyb | ⟨hyb,_⟩<;>simp [Region.wanted,hg,hyb,hbw])]
       simp only [Option.some.injEq] at h1
       subst h1
       exact hnext _ _ _ skipSim h2
     ·simp at h1
   ·simp at hc
  ·simp at hc
end
section
variable {P:Program} {x:Cx} {n:Nat} {ops:Array Oper} {Q:Exit->Act->World->Prop} {K:St->Prop}
theorem Ztk {l:List Oper} {k:Nat} {o:Oper} {os:List Oper} (h:ops.toList.drop k=o::os):ops[k]?=some o∧ops.toList.drop (k+1)=os∧l=l:=by
 refine ⟨?_,?_,rfl⟩
 ·have:=congrArg (fun l=>l[0]?) h
  simpa using this
 ·rw [<- List.drop_drop,h];rfl
theorem ZnT (hq:∀ s' a' w',Sim x n s' a' w'->K s'->Q .normal a' w'):∀ (l:List Oper) (k:Nat) (ms:List Md) (gs:List GI) (s:St) (a:Act) (w:World),ops.toList.drop k=l ->
  Zgq P n ops l ms=some gs->wpL P gs K s->Sim x n s a w->wpOps P ops Q (List.range' k l.length) a w
 | [],k,ms,gs,s,a,w,_,hc,hw,sim=>by
  simp only [Zgq,Option.some.injEq] at hc
  subst hc
  exact hq s a w sim hw
 | o::os,k,ms,gs,s,a,w,hl,hc,hw,sim=>by
  obtain ⟨h1,h2,_⟩:=Ztk (l:=[]) hl
  simp only [Zgq] at hc
  split at hc
  ·rename_i g gs' hg hgs
   simp only [Option.some.injEq] at hc
   subst hc
   rw [List.length_cons,List.range'_succ,wpOps_cons]
   exact Zoi h1 hg hw sim fun s' a' w' sim' hk=>ZnT hq os (k+1) ms.tail gs' s' a' w' h2 hgs hk sim'
  ·simp at hc
theorem Zpm {id:Nat} {ms:List Md} {gs:List GI} {s:St} {a:Act} {w:World} (hc:Zgq P n ops ops.toList ms=some gs) (hw:wpL P gs K s) (sim:Sim x n s a w)
  (hq:∀ s' a' w',Sim x n s' a' w'->K s'->Q .normal a' w'):(Code.region id ops false).wp P Q a w:=by
 refine wp_region ?_
 have:=ZnT hq ops.toList 0 ms gs s a w (by simp) hc hw sim
 rwa [Array.length_toList,<- List.range_eq_range'] at this
end
theorem ZqV {P:Program} {n:Nat}:∀ (xs:List Operand) (ts:List TypeId) (ys:List X),cXs P n ts xs=some ys->∀ y∈ys,∃ o,XOk n y o
 | [],ts,ys,h,y,hy=>by simp only [cXs,Option.some.injEq] at h;subst h;simp at hy
 | x::xs,ts,ys,h,y,hy=>by
  simp only [cXs] at h
  split at h
  ·rename_i z r hz hrs
   simp only [Option.some.injEq] at h
   subst h
   rcases List.mem_cons.1 hy with rfl | hy
   ·exact ⟨x,W8 hz⟩
   ·exact ZqV xs ts.tail r hrs y hy
  ·simp at h
theorem seen_sim {P:Program} {x:Cx} {n:Nat} {ops:Array Oper} {o:Oper} {m:Md} {g:GI} {s:St} {a:Act} {w:World} (hc:cG P n ops o m=some g) (sim:Sim x n s a w):Seen g s:=by
 intro hcall y hy
 obtain ⟨A,μ,OH,Ot,ht,h0,hr,st⟩:=sim
 rw [<- st.inv.len]
 obtain ⟨i,hi,hgi⟩:∃ i,Zae P n o m=some i∧g.2=i:=by
  unfold cG at hc
  split at hc
  ·simp only [Option.map_eq_some_iff] at hc
   obtain ⟨i,h1,rfl⟩:=hc
   exact ⟨i,h1,rfl⟩
  ·split at hc
   ·split at hc
    ·simp only [Option.map_eq_some_iff] at hc
     obtain ⟨i,h1,rfl⟩:=hc
     exact ⟨i,h1,rfl⟩
    ·simp at hc
   ·simp at hc
 rw [hgi] at hcall hy
 cases i<;>(try (simp [I.isCall] at hcall;done))
 rename_i rw d f args
 have hcc:QQ P n o m=some (.call rw d f args):=by
  unfold Zae at hi
  split at hi
  ·rename_i j hj;simp only [Option.some.injEq] at hi;rw [hj,hi]
  ·split at hi
   ·simp at hi
   ·split at hi<;>simp at hi
 by_cases hap:∃ sz,rw=.ap sz
 ·obtain ⟨sz,rfl⟩:=hap
  obtain ⟨c,u1,u2,t,u,ue,e,z,y1,y2,d',_,_,_,_,_,_,_,_,_,_,_,_,_,_,k1,k2,rfl,rfl⟩:=Zgk hcc
  simp only [I.ops,List.mem_cons,List.not_mem_nil,or_false] at hy
  rcases hy with rfl | rfl | rfl
  ·show Low _ (LV.fn 0 [])
   first | trivial | exact True.intro | simp [Low]
  ·exact Rep.seen _ _ _ (QY k1 hr)
  ·exact Rep.seen _ _ _ (QY k2 hr)
 obtain ⟨c,gg,hop,hcal,hd,hg,hargs⟩:=Zdb (fun sz e=>hap ⟨sz,e⟩) hcc
 obtain ⟨oy,hoy⟩:∃ oy,XOk n y oy:=by
  simp only [I.ops,List.mem_cons] at hy
  rcases hy with rfl | hy
  ·exact ⟨gg,hg⟩
  ·exact ZqV _ _ _ hargs y hy
 exact Rep.seen _ _ _ (QY hoy hr)
def XO (o:Oper):List Nat:=(o.after.toList.filter fun e=>Region.binds .any e).map (·.on)
def maskOf (acc:List Nat) (ds:List Nat):Nat:=ds.foldl (fun m k=>m ||| (2 ^ k ||| acc.getD k 0)) 0
def Za1:List Oper->List Nat->List Nat
 | [],acc=>acc
 | o::os,acc=>Za1 os (acc++[maskOf acc (XO o)])
def J7:List Oper->Nat->Bool
 | [],_=>true
 | o::os,i=>(XO o).all (· < i) && J7 os (i+1)
def Zju (ms:List Nat):List (Nat×GI)->Bool
 | []=>true
 | (j,g)::rest=>(rest.all fun p=>ZdX g p.2 || (ms.getD p.1 0).testBit j) && Zju ms rest
def Wm:Nat->List GI->List (Nat×GI)
 | _,[]=>[]
 | k,g::gs=>(k,g)::Wm (k+1) gs
def ZgZ (ops:Array Oper) (gs:List GI):Bool:=J7 ops.toList 0 && Zju (Za1 ops.toList []) (Wm 0 gs)
theorem Zlq (acc:List Nat) (j:Nat):∀ (ds:List Nat) (m:Nat),(ds.foldl (fun m k=>m ||| (2 ^ k ||| acc.getD k 0)) m).testBit j=true->m.testBit j=true∨∃ k∈ds,j=k∨(acc.getD k 0).testBit j=true
 | [],m,h=>.inl h
 | d::ds,m,h=>by
  rcases Zlq acc j ds _ h with h1 | ⟨k,hk,h2⟩
  ·rw [Nat.testBit_or,Nat.testBit_or] at h1
   simp only [Bool.or_eq_true] at h1
   rcases h1 with h1 | h1 | h1
   ·exact .inl h1
   ·refine .inr ⟨d,by simp,.inl ?_⟩
    rw [Nat.testBit_two_pow] at h1
    simpa using (of_decide_eq_true h1).symm
   ·exact .inr ⟨d,by simp,.inr h1⟩
  ·exact .inr ⟨k,by simp [hk],h2⟩
theorem ZcV:∀ (os:List Oper) (acc:List Nat) (i:Nat),i < acc.length->(Za1 os acc).getD i 0=acc.getD i 0
 | [],acc,i,_=>rfl
 | o::os,acc,i,h=>by
  rw [Za1,ZcV os _ i (by simp;omega)]
  simp [List.getD_eq_getElem?_getD,List.getElem?_append_left h]
theorem Zf4:∀ (os:List Oper) (acc:List Nat) (i:Nat) (o:Oper),os[i]?=some o->J7 os acc.length=true->∀ j,((Za1 os acc).getD (acc.length+i) 0).testBit j=true ->
  ∃ k∈XO o,k < acc.length+i∧(j=k∨((Za1 os acc).getD k 0).testBit j=true)
 | [],acc,i,o,h,_,_,_=>by simp at h
 | q::os,acc,0,o,h,hok,j,hb=>by
  simp at h;subst h
  simp only [J7,Bool.and_eq_true,List.all_eq_true,decide_eq_true_eq] at hok
  simp only [Za1] at hb ⊢
  rw [ZcV os _ _ (by simp)] at hb
  simp [List.getD_eq_getElem?_getD] at hb
  rcases Zlq acc j (XO q) 0 hb with h1 | ⟨k,hk,h2⟩
  ·simp at h1
  ·have hlt:=hok.1 k hk
   refine ⟨k,hk,by omega,h2.imp id fun h3=>?_⟩
   rw [ZcV os _ k (by simp;omega)]
   simpa [List.getD_eq_getElem?_getD,List.getElem?_append_left hlt] using h3
 | q::os,acc,i+1,o,h,hok,j,hb=>by
  simp only [J7,Bool.and_eq_true] at hok
  simp only [Za1] at hb ⊢
  have:=Zf4 os (acc++[maskOf acc (XO q)]) i o (by simpa using h) (by simpa using hok.2) j (by
   rw [List.length_append,List.length_singleton,show acc.length+1+i=acc.length+(i+1) by omega];exact hb)
  obtain ⟨k,h1,h2,h3⟩:=this
  refine ⟨k,h1,by simp at h2;omega,h3⟩
theorem ZcW:∀ (k:Nat) (gs:List GI),(Wm k gs).map (·.2)=gs
 | _,[]=>rfl
 | k,g::gs=>by simp [Wm,ZcW]
theorem KA:∀ (k:Nat) (gs:List GI) (p:Nat×GI),p∈Wm k gs->k<=p.1∧gs[p.1 - k]?=some p.2
 | k,g::gs,p,h=>by
  simp only [Wm,List.mem_cons] at h
  rcases h with rfl | h
  ·simp
  ·obtain ⟨h1,h2⟩:=KA (k+1) gs p h
   refine ⟨by omega,?_⟩
   rw [show p.1 - k=(p.1 - (k+1))+1 by omega];simpa using h2
theorem Zgl:∀ (k:Nat) (gs:List GI) (i:Nat) (g:GI),gs[i]?=some g->(k+i,g)∈Wm k gs
 | k,q::gs,0,g,h=>by simp at h;subst h;simp [Wm]
 | k,q::gs,i+1,g,h=>by
  simp only [Wm,List.mem_cons]
  right
  have:=Zgl (k+1) gs i g (by simpa using h)
  rwa [show k+1+i=k+(i+1) by omega] at this
theorem Yo:∀ (k:Nat) (gs:List GI),(Wm k gs).Pairwise fun p q=>p.1 < q.1
 | _,[]=>List.Pairwise.nil
 | k,g::gs=>by
  simp only [Wm]
  exact List.Pairwise.cons (fun q hq=>by have:=(KA _ _ q hq).1;simp only;omega) (Yo (k+1) gs)
theorem Zho {ms:List Nat}:∀ {l:List (Nat×GI)},Zju ms l=true->∀ pre q post,l=pre++q::post->∀ p∈pre,ZdX p.2 q.2=true∨(ms.getD q.1 0).testBit p.1=true
 | [],_,pre,q,post,h,_,_=>by simp at h
 | (j,g)::rest,hok,[],q,post,_,p,hp=>by simp at hp
 | (j,g)::rest,hok,r::pre,q,post,h,p,hp=>by
  simp only [Zju,Bool.and_eq_true,List.all_eq_true,Bool.or_eq_true] at hok
  simp only [List.cons_append,List.cons.injEq] at h
  obtain ⟨rfl,h⟩:=h
  simp only [List.mem_cons] at hp
  rcases hp with rfl | hp
  ·exact hok.1 q (by rw [h];simp)
  ·exact Zho hok.2 pre q post h p hp
theorem ZeC {P:Program} {n:Nat} {ops:Array Oper}:∀ (l:List Oper) (ms:List Md) (gs:List GI),Zgq P n ops l ms=some gs->gs.length=l.length∧∀ (i:Nat) (o:Oper) (g:GI),l[i]?=some o->gs[i]?=some g->∃ m,cG P n ops o m=some g
 | [],ms,gs,h=>by simp only [Zgq,Option.some.injEq] at h;subst h;simp
 | q::os,ms,gs,h=>by
  simp only [Zgq] at h
  split at h
  ·rename_i g gs' hg hgs
   simp only [Option.some.injEq] at h
   subst h
   obtain ⟨h1,h2⟩:=ZeC os ms.tail gs' hgs
   refine ⟨by simp [h1],fun i o g' ho hg'=>?_⟩
   cases i with
   | zero=>simp at ho hg';subst ho;subst hg';exact ⟨_,hg⟩
   | succ i=>exact h2 i o g' (by simpa using ho) (by simpa using hg')
  ·simp at h
def Wo (listed:Array Bool) (l:List (Nat×GI)):List (Nat×GI):=l.filter fun p=>!listed.getD p.1 true
theorem Zhf {listed:Array Bool} {i:Nat} {l pre post:List (Nat×GI)} {g:GI} (hs:l.Pairwise fun p q=>p.1 < q.1) (hi:i < listed.size) (h:Wo listed l=pre++(i,g)::post) :
  Wo (listed.setIfInBounds i true) l=pre++post:=by
 have h1:Wo (listed.setIfInBounds i true) l=(Wo listed l).filter fun p=>p.1 != i:=by
  unfold Wo
  rw [List.filter_filter]
  apply List.filter_congr
  intro p _
  by_cases e:p.1=i
  ·simp [e,hi]
  ·simp [e,Array.getD_eq_getD_getElem?,Array.getElem?_setIfInBounds_ne (fun q=>e q.symm)]
 have hsub:(Wo listed l).Pairwise fun p q=>p.1 < q.1:=hs.sublist List.filter_sublist
 rw [h] at hsub
 rw [h1,h,List.filter_append,List.filter_cons_of_neg (by simp)]
 rw [List.pairwise_append] at hsub
 obtain ⟨s1,s2,s3⟩:=hsub
 rw [List.pairwise_cons] at s2
 rw [List.filter_eq_self.2 (fun p hp=>?_),List.filter_eq_self.2 (fun p hp=>?_)]
 ·have:=s2.1 p hp;simp;omega
 ·have:=s3 p hp (i,g) (by simp);simp at this ⊢;omega
section
variable {P:Program} {x:Cx} {n:Nat} {ops:Array Oper} {Q:Exit->Act->World->Prop} {K:St->Prop}
theorem ZsU {ms:List Md} {gs:List GI} (hc:Zgq P n ops ops.toList ms=some gs) (hok:ZgZ ops gs=true) (hq:∀ s' a' w',Sim x n s' a' w'->K s'->Q .normal a' w') :
  ∀ (fuel:Nat) (listed:Array Bool) (s:St) (a:Act) (w:World),listed.size=ops.size->(Wo listed (Wm 0 gs)).length=fuel ->
   (∀ i,listed.getD i true=true->∀ o,ops[i]?=some o->∀ k∈XO o,listed.getD k false=true) ->
   wpL P ((Wo listed (Wm 0 gs)).map (·.2)) K s->Sim x n s a w->wpAny P .any ops Q fuel listed a w:=by
 obtain ⟨hlen,hget⟩:=ZeC _ _ _ hc
 simp only [ZgZ,Bool.and_eq_true] at hok
 obtain ⟨hed,hpr⟩:=hok
 have hops:∀ (i:Nat) (o:Oper),ops[i]?=some o->ops.toList[i]?=some o:=fun i o h=>by rw [Array.getElem?_toList];exact h
 have hback:∀ i o,ops[i]?=some o->∀ k∈XO o,k < i:=by
  have:∀ (l:List Oper) (b i:Nat) (o:Oper),J7 l b=true->l[i]?=some o->∀ k∈XO o,k < b+i:=by
   intro l
   induction l with
   | nil=>intro b i o _ h;simp at h
   | cons q l ih =>
    intro b i o hok h k hk
    simp only [J7,Bool.and_eq_true,List.all_eq_true,decide_eq_true_eq] at hok
    cases i with
    | zero=>simp at h;subst h;exact hok.1 k hk
    | succ i=>have:=ih (b+1) i o hok.2 (by simpa using h) k hk;omega
  intro i o h k hk
  have:=this ops.toList 0 i o hed (hops i o h) k hk
  omega
 have hdown:∀ (listed:Array Bool),listed.size=ops.size->(∀ i,listed.getD i true=true->∀ o,ops[i]?=some o->∀ k∈XO o,listed.getD k false=true) ->
   ∀ i o,ops[i]?=some o->(∀ k∈XO o,listed.getD k false=true)->∀ j,((Za1 ops.toList []).getD i 0).testBit j=true->listed.getD j false=true:=by
  intro listed hsz hcl i
  induction i using Nat.strongRecOn with
  | _ i ih =>
   intro o ho hd j hj
   have:=Zf4 ops.toList [] i o (hops i o ho) (by simpa using hed) j (by simpa using hj)
   obtain ⟨k,hk,hlt,h3⟩:=this
   simp at hlt
   have hkl:=hd k hk
   rcases h3 with rfl | h3
   ·exact hkl
   ·have hks:k < ops.size:=by
     have:i < ops.size:=by
      rcases Nat.lt_or_ge i ops.size with h | h
      ·exact h
      ·rw [Array.getElem?_eq_none h] at ho;simp at ho
     omega
    refine ih k hlt ops[k] (Array.getElem?_eq_getElem hks) ?_ j h3
    refine hcl k ?_ _ (Array.getElem?_eq_getElem hks)
    have hk2:k < listed.size:=by omega
    simpa [Array.getD_eq_getD_getElem?,hk2] using hkl
 have hready:∀ (listed:Array Bool),listed.size=ops.size->∀ i,i∈Region.ready .any ops listed ↔ i < ops.size∧listed.getD i true=false∧∃ o,ops[i]?=some o∧∀ k∈XO o,listed.getD k false=true:=by
  intro listed hsz i
  simp only [Region.ready,List.mem_filter,List.mem_range,Bool.and_eq_true,Bool.not_eq_true']
  constructor
  ·rintro ⟨h1,h2,h3⟩
   refine ⟨h1,h2,ops[i],Array.getElem?_eq_getElem h1,fun k hk=>?_⟩
   rw [Array.getElem?_eq_getElem h1] at h3
   simp only [Option.map_some,Option.getD_some,Array.all_eq_true',Bool.or_eq_true,Bool.not_eq_true'] at h3
   simp only [XO,List.mem_map,List.mem_filter] at hk
   obtain ⟨e,⟨he1,he2⟩,rfl⟩:=hk
   rcases h3 e (by simpa using he1) with h | h
   ·rw [he2] at h;simp at h
   ·exact h
  ·rintro ⟨h1,h2,o,ho,h3⟩
   refine ⟨h1,h2,?_⟩
   rw [ho]
   simp only [Option.map_some,Option.getD_some,Array.all_eq_true',Bool.or_eq_true,Bool.not_eq_true']
   intro e he
   cases hb:Region.binds .any e with
   | false=>exact .inl rfl
   | true=>exact .inr (h3 e.on (by simp only [XO,List.mem_map,List.mem_filter];exact ⟨e,⟨by simpa using he,hb⟩,rfl⟩))
 have hmemN:∀ i,i < ops.size->∃ g,(i,g)∈Wm 0 gs∧gs[i]?=some g:=by
  intro i hi
  have:i < gs.length:=by rw [hlen];simpa using hi
  refine ⟨gs[i],?_,List.getElem?_eq_getElem this⟩
  have:=Zgl 0 gs i gs[i] (List.getElem?_eq_getElem this)
  simpa using this
 intro fuel
 induction fuel with
 | zero =>
  intro listed s a w hsz hl hcl hw sim
  have hnil:Wo listed (Wm 0 gs)=[]:=List.eq_nil_of_length_eq_zero hl
  refine ⟨?_,?_⟩
  ·apply List.eq_nil_iff_forall_not_mem.2
   intro i hi
   obtain ⟨h1,h2,_⟩:=(hready listed hsz i).1 hi
   obtain ⟨g,hg,_⟩:=hmemN i h1
   have:(i,g)∈Wo listed (Wm 0 gs):=List.mem_filter.2 ⟨hg,by simpa using h2⟩
   rw [hnil] at this;simp at this
  ·rw [hnil] at hw
   exact hq s a w sim hw
 | succ fuel ih =>
  intro listed s a w hsz hl hcl hw sim
  refine ⟨fun hr=>?_,fun i hi=>?_⟩
  ·
   exfalso
   obtain ⟨p,rest,hp⟩:∃ p rest,Wo listed (Wm 0 gs)=p::rest:=by
    cases h:Wo listed (Wm 0 gs) with
    | nil=>rw [h] at hl;simp at hl
    | cons p rest=>exact ⟨p,rest,rfl⟩
   have hpm:p∈Wo listed (Wm 0 gs):=by rw [hp];simp
   obtain ⟨hpn,hpl⟩:=List.mem_filter.1 hpm
   have hpg:=(KA 0 gs p hpn).2
   have hpi:p.1 < ops.size:=by
    rcases Nat.lt_or_ge p.1 ops.size with h | h
    ·exact h
    ·rw [List.getElem?_eq_none (by rw [hlen];simpa using h)] at hpg;simp at hpg
   have:p.1∈Region.ready .any ops listed:=by
    rw [hready listed hsz]
    refine ⟨hpi,by simpa using hpl,ops[p.1],Array.getElem?_eq_getElem hpi,fun k hk=>?_⟩
    have hklt:=hback p.1 _ (Array.getElem?_eq_getElem hpi) k hk
    cases hkl:listed.getD k false with
    | true=>rfl
    | false =>
     exfalso
     obtain ⟨g,hg,_⟩:=hmemN k (by omega)
     have hkm:(k,g)∈Wo listed (Wm 0 gs):=List.mem_filter.2 ⟨hg,by
      have:k < listed.size:=by omega
      simpa [Array.getD_eq_getD_getElem?,this] using hkl⟩
     have hsrt:(Wo listed (Wm 0 gs)).Pairwise fun p q=>p.1 < q.1:=(Yo 0 gs).sublist List.filter_sublist
     rw [hp] at hsrt hkm
     rw [List.pairwise_cons] at hsrt
     simp only [List.mem_cons] at hkm
     rcases hkm with h | h
     ·rw [<- h] at hklt;simp at hklt
     ·have:=hsrt.1 _ h;simp at this;omega
   rw [hr] at this;simp at this
  ·obtain ⟨h1,h2,o,ho,h3⟩:=(hready listed hsz i).1 hi
   obtain ⟨g,hg,hgg⟩:=hmemN i h1
   have hm:(i,g)∈Wo listed (Wm 0 gs):=List.mem_filter.2 ⟨hg,by simpa using h2⟩
   obtain ⟨pre,post,hpp⟩:=List.append_of_mem hm
   obtain ⟨m,hcg⟩:=hget i o g (hops i o ho) hgg
   have hind:∀ p∈pre.map (·.2),ZdX p g=true:=by
    intro p hp
    obtain ⟨q,hq1,rfl⟩:=List.mem_map.1 hp
    have hqm:q∈Wo listed (Wm 0 gs):=by rw [hpp];simp [hq1]
    obtain ⟨hqn,hql⟩:=List.mem_filter.1 hqm
    have hsrt:(Wo listed (Wm 0 gs)).Pairwise fun p q=>p.1 < q.1:=(Yo 0 gs).sublist List.filter_sublist
    rw [hpp,List.pairwise_append] at hsrt
    have hlt:=hsrt.2.2 q hq1 (i,g) (by simp)
    obtain ⟨pre2,post2,hw2⟩:=List.append_of_mem hg
    have hqpre:q∈pre2:=by
     have hqn2:=hqn
     rw [hw2] at hqn2
     have hs2:=Yo 0 gs
     rw [hw2,List.pairwise_append] at hs2
     rcases List.mem_append.1 hqn2 with h | h
     ·exact h
     ·simp only [List.mem_cons] at h
      rcases h with h | h
      ·rw [h] at hlt;simp at hlt
      ·have:=(List.pairwise_cons.1 hs2.2.1).1 q h
       simp at this hlt;omega
    rcases Zho hpr pre2 (i,g) post2 hw2 q hqpre with h | h
    ·exact h
    ·exfalso
     have:=hdown listed hsz hcl i o ho h3 q.1 h
     have hq2:q.1 < listed.size:=by
      rcases Nat.lt_or_ge q.1 listed.size with h' | h'
      ·exact h'
      ·simp [Array.getD_eq_getD_getElem?,Array.getElem?_eq_none h'] at this
     simp [Array.getD_eq_getD_getElem?,hq2] at this hql
     rw [this] at hql;simp at hql
   rw [hpp,List.map_append,List.map_cons] at hw
   have hpull:=pull hind (seen_sim hcg sim) hw
   have hset:=Zhf (Yo 0 gs) (show i < listed.size by omega) hpp
   refine Zoi ho hcg hpull sim fun s' a' w' sim' hk=>?_
   refine ih (listed.setIfInBounds i true) s' a' w' (by simpa using hsz) ?_ ?_ ?_ sim'
   ·rw [hset];rw [hpp] at hl;simp at hl ⊢;omega
   ·intro j hj o' ho' k hk
    have mono:∀ k,listed.getD k false=true->(listed.setIfInBounds i true).getD k false=true:=by
     intro k hk
     by_cases e:k=i
     ·subst e;simp [Array.getD_eq_getD_getElem?,show k < listed.size by omega]
     ·rw [Array.getD_eq_getD_getElem?,Array.getElem?_setIfInBounds_ne (fun q=>e q.symm),<- Array.getD_eq_getD_getElem?];exact hk
    by_cases e:j=i
    ·subst e
     rw [ho] at ho'
     obtain rfl:o=o':=by simpa using ho'
     exact mono k (h3 k hk)
    ·rw [Array.getD_eq_getD_getElem?,Array.getElem?_setIfInBounds_ne (fun q=>e q.symm),<- Array.getD_eq_getD_getElem?] at hj
     exact mono k (hcl j hj o' ho' k hk)
   ·rw [hset,List.map_append];exact hk
theorem Zrx {id:Nat} {ms:List Md} {gs:List GI} {s:St} {a:Act} {w:World} (hm:P.follows .mixedOrders=true) (hc:Zgq P n ops ops.toList ms=some gs) (hok:ZgZ ops gs=true)
  (hw:wpL P gs K s) (sim:Sim x n s a w) (hq:∀ s' a' w',Sim x n s' a' w'->K s'->Q .normal a' w'):(Code.region id ops true).wp P Q a w:=by
 refine wp_region_any hm ?_
 have hlen:=(ZeC _ _ _ hc).1
 have hun:Wo (Array.replicate ops.size false) (Wm 0 gs)=Wm 0 gs:=by
  unfold Wo
  apply List.filter_eq_self.2
  intro p hp
  have hpg:=(KA 0 gs p hp).2
  have:p.1 < ops.size:=by
   rcases Nat.lt_or_ge p.1 ops.size with h | h
   ·exact h
   ·rw [List.getElem?_eq_none (by rw [hlen];simpa using h)] at hpg;simp at hpg
  simp [Array.getD_eq_getD_getElem?,this]
 have hl:(Wm 0 gs).length=ops.size:=by
  have:=congrArg List.length (ZcW 0 gs)
  rw [List.length_map] at this
  rw [this,hlen];simp
 refine ZsU hc hok hq ops.size _ s a _ (by simp) (by rw [hun,hl]) (fun i hi o ho=>?_) (by rw [hun,ZcW];exact hw) ?_
 ·exfalso
  have:i < ops.size:=by
   rcases Nat.lt_or_ge i ops.size with h | h
   ·exact h
   ·rw [Array.getElem?_eq_none h] at ho;simp at ho
  simp [Array.getD_eq_getD_getElem?,this] at hi
 ·obtain ⟨A,μ,OH,Ot,ht,h0,hr,st⟩:=sim
  exact ⟨A,μ,OH,Ot,ht,h0,hr,st.heap rfl ⟨rfl,rfl,rfl⟩⟩
end
inductive It (α:Type) where
 | one (a:α)
 | two (a b:α)
 | grp (as:List α) (b:α)
 deriving Inhabited
def It.list {α:Type}:It α->List α
 | .one a=>[a]
 | .two a b=>[a,b]
 | .grp as b=>as++[b]
def It.map {α β:Type} (f:α->β):It α->It β
 | .one a=>.one (f a)
 | .two a b=>.two (f a) (f b)
 | .grp as b=>.grp (as.map f) (f b)
def ZdE (P:Program):List GI->GI->(St->Prop)->St->Prop
 | [],b,K,s=>wpG P b K s
 | a::as,b,K,s=>wpG P a (ZdE P as b K) s∧wpG P b (wpL P (a::as) K) s
def wpIt (P:Program) (it:It GI) (K:St->Prop) (s:St):Prop :=
 match it with
 | .one g=>wpG P g K s
 | .two g h=>wpG P g (wpG P h K) s∧wpG P h (wpG P g K) s
 | .grp gs h=>ZdE P gs h K s
def Y5 (P:Program):List (It GI)->(St->Prop)->St->Prop
 | [],Q,s=>Q s
 | it::its,Q,s=>wpIt P it (Y5 P its Q) s
theorem ZhT {P:Program}:∀ (gs:List GI) {K K':St->Prop} {s:St},wpL P gs K s->(∀ s',K s'->K' s')->wpL P gs K' s
 | [],_,_,s,h,hk=>hk s h
 | g::gs,_,_,_,h,hk=>WF h fun _ hs=>ZhT gs hs hk
theorem ZcJ {P:Program}:∀ (gs:List GI) {b:GI} {K K':St->Prop} {s:St},ZdE P gs b K s->(∀ s',K s'->K' s')->ZdE P gs b K' s
 | [],_,_,_,_,h,hk=>WF h hk
 | g::gs,_,_,_,_,h,hk=>⟨WF h.1 fun _ hs=>ZcJ gs hs hk,WF h.2 fun _ hs=>ZhT (g::gs) hs hk⟩
theorem ZhS {P:Program} {it:It GI} {K K':St->Prop} {s:St} (h:wpIt P it K s) (hk:∀ s',K s'->K' s'):wpIt P it K' s:=by
 cases it with
 | one g=>exact WF h hk
 | two g g'=>exact ⟨WF h.1 fun s' hs=>WF hs hk,WF h.2 fun s' hs=>WF hs hk⟩
 | grp gs g'=>exact ZcJ gs h hk
theorem Zf9 {P:Program}:∀ (its:List (It GI)) {K K':St->Prop} {s:St},Y5 P its K s->(∀ s',K s'->K' s')->Y5 P its K' s
 | [],_,_,s,h,hk=>hk s h
 | it::its,_,_,s,h,hk=>ZhS h fun s' hs=>Zf9 its hs hk
def It.callLast:It (Nat×GI)->Bool
 | .one _=>true
 | .two _ q=>q.2.2.isCall
 | .grp _ _=>false
abbrev It.gi (X:It (Nat×GI)):It GI:=X.map (·.2)
theorem swapL {P:Program} {g:GI}:∀ {xs:List (Nat×GI)} {K:St->Prop} {s:St},(∀ x∈xs,Vl x.2 g=true)->wpL P (xs.map (·.2)) (wpG P g K) s->wpG P g (wpL P (xs.map (·.2)) K) s
 | [],_,_,_,h=>h
 | x::xs,_,_,hi,h=>swap (hi x (by simp)) (WF h fun _ hs=>swapL (fun y hy=>hi y (by simp [hy])) hs)
theorem ZpK {P:Program} {g:GI} (hg:g.2.isCall=false) {K1 K2:St->Prop} {s:St} (h1:wpG P g K1 s) (h2:wpG P g K2 s):wpG P g (fun s'=>K1 s'∧K2 s') s:=by
 rw [Wl hg] at h1 h2 ⊢
 obtain ⟨s1,k1,k2⟩:=h1
 obtain ⟨s2,k3,k4⟩:=h2
 rw [k1] at k3
 obtain rfl:s1=s2:=by simpa using k3
 exact ⟨s1,k1,k2,k4⟩
theorem Zsi {P:Program} {g:GI} (hg:g.2.isCall=false) {b:Nat×GI} (hb:Vl b.2 g=true):∀ {xs:List (Nat×GI)} {K:St->Prop} {s:St},(∀ x∈xs,Vl x.2 g=true) ->
  ZdE P (xs.map (·.2)) b.2 (wpG P g K) s->wpG P g (ZdE P (xs.map (·.2)) b.2 K) s
 | [],_,_,_,h=>swap hb h
 | x::xs,K,s,hi,h=>by
  have e1:=swap (hi x (by simp)) (WF h.1 fun _ hs=>Zsi hg hb (fun y hy=>hi y (by simp [hy])) hs)
  have e2:=swap hb (WF h.2 fun _ hs=>swapL (xs:=x::xs) hi hs)
  exact ZpK hg e1 e2
theorem swapIt {P:Program} {X:It (Nat×GI)} {g:GI} {K:St->Prop} {s:St} (hi:∀ x∈X.list,Vl x.2 g=true) (hc:X.callLast=true∨g.2.isCall=false) (h:wpIt P X.gi (wpG P g K) s):wpG P g (wpIt P X.gi K) s:=by
 cases X with
 | one p=>exact swap (hi p (by simp [It.list])) h
 | two p q =>
  obtain ⟨h1,h2⟩:=h
  have ip:=hi p (by simp [It.list])
  have iq:=hi q (by simp [It.list])
  have e1:=swap ip (WF h1 fun s' hs=>swap iq hs)
  have e2:=swap iq (WF h2 fun s' hs=>swap ip hs)
  have hg:g.2.isCall=false:=by
   rcases hc with hc | hc
   ·simp only [It.callLast] at hc
    cases hh:g.2.isCall with
    | false=>rfl
    | true=>exact absurd ⟨hc,hh⟩ (VH iq (.inl hc)).2.2.2.2.2
   ·exact hc
  exact ZpK hg e1 e2
 | grp as q =>
  have hg:g.2.isCall=false:=hc.resolve_left (by simp [It.callLast])
  exact Zsi hg (hi q (by simp [It.list])) (fun x hx=>hi x (by simp [It.list,hx])) h
theorem pullIt {P:Program} {g:GI} {Q:St->Prop} {Y:It (Nat×GI)} {rest:List (It (Nat×GI))} (hY:∀ {K:St->Prop} {s:St},wpIt P Y.gi K s->wpG P g (Y5 P (rest.map It.gi) K) s) {post:List (It (Nat×GI))} :
  ∀ {pre:List (It (Nat×GI))} {s:St},(∀ X∈pre,(∀ x∈X.list,Vl x.2 g=true)∧(X.callLast=true∨g.2.isCall=false))->Y5 P ((pre++Y::post).map It.gi) Q s->wpG P g (Y5 P ((pre++rest++post).map It.gi) Q) s
 | [],s,_,h=>by
  simp only [List.nil_append,List.map_cons,Y5,List.map_append] at h ⊢
  refine WF (hY h) fun s' hs=>?_
  clear hY
  induction rest generalizing s' with
  | nil=>exact hs
  | cons X r ih=>exact ZhS hs fun s2 hs2=>ih s2 hs2
 | X::pre,s,hi,h=>by
  simp only [List.cons_append,List.map_cons,Y5] at h ⊢
  exact swapIt (hi X (by simp)).1 (hi X (by simp)).2 (ZhS h fun s' hs=>pullIt hY (fun Y hY=>hi Y (by simp [hY])) hs)
def ZjB (ms:List Nat):List (Nat×GI)->Bool
 | []=>true
 | x::r=>(r.all fun y=>(ms.getD y.1 0).testBit x.1) && ZjB ms r
def It.okIn (ms:List Nat):It (Nat×GI)->Bool
 | .grp as _=>ZjB ms as
 | _=>true
def ZkO (ms:List Nat):List (It (Nat×GI))->Bool
 | []=>true
 | X::rest=>(X.list.all fun x=>rest.all fun Y=>Y.list.all fun y=>Vl x.2 y.2 || (ms.getD y.1 0).testBit x.1) && (X.okIn ms && (X.callLast || rest.all fun Y=>Y.list.all fun y=>!y.2.2.isCall)) && ZkO ms rest
def isLate (g:GI):Bool:=match g.2 with
 | .load _ .frz _ _ _=>true
 | _=>false
def KX:List (Nat×GI)->List (Nat×GI)->List (It (Nat×GI))
 | [],held=>held.map .one
 | p::rest,held =>
  if isLate p.2=true then KX rest (held++[p])
  else if p.2.2.isCall && p.2.2.hr then match held with
   | [q]=>.two q p::KX rest []
   | _=>held.map .one++.one p::KX rest []
  else if held.any (fun q=>!Vl q.2 p.2)=true then held.map .one++.one p::KX rest []
  else .one p::KX rest held
theorem Zcx (l:List (Nat×GI)):(l.map It.one).flatMap It.list=l:=by
 induction l with
 | nil=>rfl
 | cons p l ih=>simp [It.list,ih]
theorem J1:∀ (l held:List (Nat×GI)),((KX l held).flatMap It.list).Perm (held++l)
 | [],held=>by simp [KX,Zcx]
 | p::rest,held=>by
  simp only [KX]
  split
  ·have:=J1 rest (held++[p]);simpa using this
  ·split
   ·split
    ·rename_i q
     have:=J1 rest []
     simp only [List.flatMap_cons,It.list,List.nil_append,List.cons_append] at this ⊢
     exact (this.cons p).cons q
    ·have:=J1 rest []
     simp only [List.flatMap_append,Zcx,List.flatMap_cons,It.list,List.nil_append,List.cons_append] at this ⊢
     exact (this.cons p).append_left held
   ·split
    ·have:=J1 rest []
     simp only [List.flatMap_append,Zcx,List.flatMap_cons,It.list,List.nil_append,List.cons_append] at this ⊢
     exact (this.cons p).append_left held
    ·have:=J1 rest held
     simp only [List.flatMap_cons,It.list,List.nil_append,List.cons_append] at this ⊢
     exact (this.cons p).trans List.perm_middle.symm
def confl (ms:List Nat) (p q:Nat×GI):Bool:=!Vl p.2 q.2 && !(ms.getD q.1 0).testBit p.1
def ZeJ (ms:List Nat):List (Nat×GI)->List (Nat×GI)->List (It (Nat×GI))
 | [],held=>held.map .one
 | p::rest,held =>
  if held.any (fun q=>confl ms q p)=true then .grp held p::ZeJ ms rest []
  else if rest.any (fun q=>confl ms p q)=true then ZeJ ms rest (held++[p])
  else if held.any (fun q=>!Vl q.2 p.2)=true then held.map .one++.one p::ZeJ ms rest []
  else .one p::ZeJ ms rest held
theorem Zaf (ms:List Nat):∀ (l held:List (Nat×GI)),((ZeJ ms l held).flatMap It.list).Perm (held++l)
 | [],held=>by simp [ZeJ,Zcx]
 | p::rest,held=>by
  simp only [ZeJ]
  split
  ·have:=Zaf ms rest []
   simp only [List.flatMap_cons,It.list,List.nil_append,List.append_assoc,List.cons_append] at this ⊢
   exact (this.cons p).append_left held
  ·split
   ·have:=Zaf ms rest (held++[p]);simpa using this
   ·split
    ·have:=Zaf ms rest []
     simp only [List.flatMap_append,Zcx,List.flatMap_cons,It.list,List.nil_append,List.cons_append] at this ⊢
     exact (this.cons p).append_left held
    ·have:=Zaf ms rest held
     simp only [List.flatMap_cons,It.list,List.nil_append,List.cons_append] at this ⊢
     exact (this.cons p).trans List.perm_middle.symm
def Zrz (ops:Array Oper) (gs:List GI):List (It (Nat×GI)):=ZeJ (Za1 ops.toList []) (Wm 0 gs) []
def ZrC (ops:Array Oper) (gs:List GI):Bool:=J7 ops.toList 0 && ZkO (Za1 ops.toList []) (Zrz ops gs)
def ZoB (ops:Array Oper) (gs:List GI):Bool:=J7 ops.toList 0 && ZkO (Za1 ops.toList []) (KX (Wm 0 gs) [])
def WE (listed:Array Bool):It (Nat×GI)->List (It (Nat×GI))
 | .one p=>if listed.getD p.1 true=true then [] else [.one p]
 | .two p q=>if listed.getD p.1 true=true then (if listed.getD q.1 true=true then [] else [.one q]) else if listed.getD q.1 true=true then [.one p] else [.two p q]
 | .grp as q=>if listed.getD q.1 true=true then (as.filter fun p=>!listed.getD p.1 true).map .one else [.grp (as.filter fun p=>!listed.getD p.1 true) q]
def left (listed:Array Bool) (its:List (It (Nat×GI))):List (It (Nat×GI)):=its.flatMap (WE listed)
theorem Zip {listed:Array Bool} {X Y:It (Nat×GI)} (h:Y∈WE listed X):(∀ y∈Y.list,y∈X.list∧listed.getD y.1 true=false)∧(X.callLast=true->Y.callLast=true):=by
 cases X with
 | one p =>
  simp only [WE] at h
  split at h
  ·simp at h
  ·rename_i hp
   simp at h;subst h
   simpa [It.list,It.callLast] using hp
 | two p q =>
  simp only [WE] at h
  split at h
  ·split at h
   ·simp at h
   ·rename_i hp hq
    simp at h;subst h
    simp [It.list,It.callLast];simpa using hq
  ·split at h
   ·rename_i hp hq
    simp at h;subst h
    simp [It.list,It.callLast];simpa using hp
   ·rename_i hp hq
    simp at h;subst h
    simp only [It.list,List.mem_cons,List.not_mem_nil,or_false,forall_eq_or_imp,forall_eq,true_or,or_true,true_and,imp_self,and_true]
    exact ⟨by simpa using hp,by simpa using hq⟩
 | grp as q =>
  simp only [WE] at h
  split at h
  ·rename_i hq
   obtain ⟨p,hp,rfl⟩:=List.mem_map.1 h
   obtain ⟨hp1,hp2⟩:=List.mem_filter.1 hp
   simp only [It.list,It.callLast,List.mem_singleton,forall_eq,implies_true,and_true,List.mem_append,hp1,true_or,true_and]
   simpa using hp2
  ·rename_i hq
   simp at h;subst h
   refine ⟨fun y hy=>?_,fun hc=>by simp [It.callLast] at hc⟩
   simp only [It.list,List.mem_append,List.mem_singleton] at hy ⊢
   rcases hy with hy | rfl
   ·obtain ⟨hp1,hp2⟩:=List.mem_filter.1 hy
    exact ⟨.inl hp1,by simpa using hp2⟩
   ·exact ⟨.inr rfl,by simpa using hq⟩
theorem Zqn {listed:Array Bool} {i j:Nat} (hi:i < listed.size):(listed.setIfInBounds i true).getD j true=if j=i then true else listed.getD j true:=by
 by_cases e:j=i
 ·subst e;simp [Array.getD_eq_getD_getElem?,hi]
 ·rw [if_neg e,Array.getD_eq_getD_getElem?,Array.getElem?_setIfInBounds_ne (fun q=>e q.symm),<- Array.getD_eq_getD_getElem?]
theorem Yx {listed:Array Bool} {i:Nat} (hi:i < listed.size):(listed.setIfInBounds i true).getD i true=true:=by rw [Zqn hi,if_pos rfl]
theorem Xr {listed:Array Bool} {i j:Nat} (hi:i < listed.size) (h:¬ j=i):(listed.setIfInBounds i true).getD j true=listed.getD j true:=by rw [Zqn hi,if_neg h]
theorem ZkJ {P:Program} {ms:List Nat} {listed:Array Bool} {i:Nat} {g:GI} (hi:i < listed.size) (hl:listed.getD i true=false) (hd:∀ j,(ms.getD i 0).testBit j=true->listed.getD j true=true):∀ (its:List (It (Nat×GI))),ZkO ms its=true->((its.flatMap It.list).map (·.1)).Nodup->(i,g)∈its.flatMap It.list ->
  ∃ pre Y rest post,left listed its=pre++Y::post∧left (listed.setIfInBounds i true) its=pre++rest++post∧(∀ {K:St->Prop} {s:St},wpIt P Y.gi K s->wpG P g (Y5 P (rest.map It.gi) K) s) ∧
   ∀ X∈pre,(∀ x∈X.list,listed.getD x.1 true=false∧(Vl x.2 g=true∨(ms.getD i 0).testBit x.1=true))∧(X.callLast=true∨g.2.isCall=false)
 | [],_,_,hm=>by simp at hm
 | X::its,hok,hnd,hm=>by
  simp only [ZkO,Bool.and_eq_true,List.all_eq_true] at hok
  obtain ⟨⟨hok1,hok2a,hok2⟩,hok3⟩:=hok
  simp only [List.flatMap_cons,List.map_append,List.nodup_append] at hnd
  obtain ⟨hn1,hn2,hn3⟩:=hnd
  simp only [List.flatMap_cons,List.mem_append] at hm
  have hout:∀ (X:It (Nat×GI)),i ∉ X.list.map (·.1)->WE (listed.setIfInBounds i true) X=WE listed X:=by
   intro X hX
   cases X with
   | one p =>
    simp [It.list] at hX
    simp only [WE,Xr hi (fun e=>hX e.symm)]
   | two p q =>
    simp [It.list] at hX
    simp only [WE,Xr hi (fun e=>hX.1 e.symm),Xr hi (fun e=>hX.2 e.symm)]
   | grp as q =>
    simp only [It.list,List.map_append,List.mem_append,not_or,List.map_cons,List.map_nil,List.mem_singleton] at hX
    have hf:(as.filter fun p=>!(listed.setIfInBounds i true).getD p.1 true)=as.filter fun p=>!listed.getD p.1 true:=by
     apply List.filter_congr
     intro p hp
     rw [Xr hi (fun e=>hX.1 (List.mem_map.2 ⟨p,hp,e⟩))]
    simp only [WE,Xr hi (fun e=>hX.2 e.symm),hf]
  by_cases hX:(i,g)∈X.list
  ·have hrest:left (listed.setIfInBounds i true) its=left listed its:=by
    unfold left
    rw [List.flatMap_def,List.flatMap_def]
    congr 1
    apply List.map_congr_left
    intro Y hY
    refine hout Y fun hiY=>?_
    refine hn3 i (List.mem_map.2 ⟨(i,g),hX,rfl⟩) i ?_ rfl
    obtain ⟨y,hy,hyi⟩:=List.mem_map.1 hiY
    exact List.mem_map.2 ⟨y,List.mem_flatMap.2 ⟨Y,hY,hy⟩,hyi⟩
   cases X with
   | one p =>
    simp [It.list] at hX
    subst hX
    refine ⟨[],.one (i,g),[],left listed its,?_,?_,fun h=>h,by simp⟩
    ·unfold left;simp [WE,hl]
    ·unfold left at hrest ⊢;simp only [List.flatMap_cons,hrest];simp [WE,Yx hi]
   | two p q =>
    simp [It.list] at hX hn1
    rcases hX with hX | hX
    ·subst hX
     by_cases hq:listed.getD q.1 true=true
     ·refine ⟨[],.one (i,g),[],left listed its,?_,?_,fun h=>h,by simp⟩
      ·unfold left;simp [WE,hl,hq]
      ·unfold left at hrest ⊢;simp only [List.flatMap_cons,hrest]
       simp [WE,Yx hi,Xr hi (fun e=>hn1 e.symm),hq]
     ·refine ⟨[],.two (i,g) q,[.one q],left listed its,?_,?_,fun h=>h.1,by simp⟩
      ·unfold left;simp [WE,hl,hq]
      ·unfold left at hrest ⊢;simp only [List.flatMap_cons,hrest]
       simp [WE,Yx hi,Xr hi (fun e=>hn1 e.symm),hq]
    ·subst hX
     by_cases hp:listed.getD p.1 true=true
     ·refine ⟨[],.one (i,g),[],left listed its,?_,?_,fun h=>h,by simp⟩
      ·unfold left;simp [WE,hl,hp]
      ·unfold left at hrest ⊢;simp only [List.flatMap_cons,hrest]
       simp [WE,Yx hi,Xr hi hn1,hp]
     ·refine ⟨[],.two p (i,g),[.one p],left listed its,?_,?_,fun h=>h.2,by simp⟩
      ·unfold left;simp [WE,hl,hp]
      ·unfold left at hrest ⊢;simp only [List.flatMap_cons,hrest]
       simp [WE,Yx hi,Xr hi hn1,hp]
   | grp as q =>
    simp only [It.okIn] at hok2a
    simp only [It.list,List.mem_append,List.mem_singleton] at hX
    simp only [It.list,List.map_append,List.map_cons,List.map_nil] at hn1
    rw [List.nodup_append] at hn1
    obtain ⟨hna,_,hnq⟩:=hn1
    have hrest':∀ z,WE listed z++left listed its=left listed (z::its):=fun z=>by unfold left;simp
    have hrest2:left (listed.setIfInBounds i true) (.grp as q::its)=WE (listed.setIfInBounds i true) (.grp as q)++left listed its:=by
     unfold left at hrest ⊢;simp only [List.flatMap_cons,hrest]
    rw [hrest2,<- hrest']
    rcases hX with hX | hX
    ·have hqi:q.1≠i:=fun e=>hnq i (List.mem_map.2 ⟨(i,g),hX,rfl⟩) q.1 (by simp) e.symm
     obtain ⟨l1,l2,rfl⟩:=List.append_of_mem hX
     have hch:∀ (l1 l2:List (Nat×GI)),ZjB ms (l1++(i,g)::l2)=true->∀ x∈l1,(ms.getD i 0).testBit x.1=true:=by
      intro l1
      induction l1 with
      | nil=>intro _ _ x hx;simp at hx
      | cons y l1 ih =>
       intro l2 h x hx
       simp only [List.cons_append,ZjB,Bool.and_eq_true,List.all_eq_true] at h
       rcases List.mem_cons.1 hx with rfl | hx
       ·exact h.1 (i,g) (by simp)
       ·exact ih l2 h.2 x hx
     have hl1:(l1.filter fun p=>!listed.getD p.1 true)=[]:=by
      apply List.filter_eq_nil_iff.2
      intro x hx
      rw [hd x.1 (hch l1 l2 hok2a x hx)];simp
     have hni:∀ p∈l1++l2,p.1≠i:=by
      intro p hp e
      rw [List.map_append,List.map_cons,List.nodup_append] at hna
      obtain ⟨_,n2,n3⟩:=hna
      rcases List.mem_append.1 hp with hp | hp
      ·exact n3 p.1 (List.mem_map.2 ⟨p,hp,rfl⟩) i (by simp) e
      ·rw [List.nodup_cons] at n2
       exact n2.1 (List.mem_map.2 ⟨p,hp,e⟩)
     have hf:∀ l:List (Nat×GI),(∀ p∈l,p∈l1++l2)->(l.filter fun p=>!(listed.setIfInBounds i true).getD p.1 true)=l.filter fun p=>!listed.getD p.1 true:=by
      intro l hp'
      apply List.filter_congr
      intro p hp
      rw [Xr hi (fun e=>hni p (hp' p hp) e)]
     have e1:((l1++(i,g)::l2).filter fun p=>!listed.getD p.1 true)=(i,g)::l2.filter fun p=>!listed.getD p.1 true:=by
      rw [List.filter_append,hl1,List.filter_cons_of_pos (by simp [hl])];rfl
     have e2:((l1++(i,g)::l2).filter fun p=>!(listed.setIfInBounds i true).getD p.1 true)=l2.filter fun p=>!listed.getD p.1 true:=by
      rw [List.filter_append,hf l1 (fun p hp=>by simp [hp]),hl1,List.filter_cons_of_neg (by simp [Yx hi]),hf l2 (fun p hp=>by simp [hp])];rfl
     by_cases hq:listed.getD q.1 true=true
     ·refine ⟨[],.one (i,g),[],(l2.filter fun p=>!listed.getD p.1 true).map .one++left listed its,?_,?_,fun h=>h,by simp⟩
      ·simp only [WE,hq,if_true,e1];simp
      ·simp only [WE,Xr hi hqi,hq,if_true,e2];simp
     ·refine ⟨[],.grp ((i,g)::l2.filter fun p=>!listed.getD p.1 true) q,[.grp (l2.filter fun p=>!listed.getD p.1 true) q],left listed its,?_,?_,fun h=>h.1,by simp⟩
      ·simp only [WE,hq,e1];simp
      ·simp only [WE,Xr hi hqi,hq,e2];simp
    ·subst hX
     have hf:(as.filter fun p=>!(listed.setIfInBounds i true).getD p.1 true)=as.filter fun p=>!listed.getD p.1 true:=by
      apply List.filter_congr
      intro p hp
      rw [Xr hi (fun e=>hnq p.1 (List.mem_map.2 ⟨p,hp,rfl⟩) i (by simp) e)]
     refine ⟨[],.grp (as.filter fun p=>!listed.getD p.1 true) (i,g),(as.filter fun p=>!listed.getD p.1 true).map .one,left listed its,?_,?_,?_,by simp⟩
     ·simp only [WE,hl];simp
     ·simp only [WE,Yx hi,if_true,hf];simp
     ·intro K s h
      have key:∀ (l:List (Nat×GI)) (K:St->Prop) (s:St),wpL P (l.map (·.2)) K s->Y5 P ((l.map It.one).map It.gi) K s:=by
       intro l
       induction l with
       | nil=>intro K s h;exact h
       | cons x l ih=>intro K s h;exact WF h fun s' hs=>ih K s' hs
      cases hc:(as.filter fun p=>!listed.getD p.1 true) with
      | nil=>rw [hc] at h;exact h
      | cons x l =>
       rw [hc] at h
       exact WF h.2 fun s' hs=>key (x::l) K s' hs
  ·have hm':=hm.resolve_left hX
   obtain ⟨pre,Y,rest,post,h1,h2,h3,h4⟩:=ZkJ (P:=P) hi hl hd its hok3 hn2 hm'
   have hiX:i ∉ X.list.map (·.1):=fun h=>hn3 i h i (List.mem_map.2 ⟨(i,g),hm',rfl⟩) rfl
   refine ⟨WE listed X++pre,Y,rest,post,?_,?_,h3,fun Z hZ=>?_⟩
   ·unfold left at h1 ⊢;simp [h1]
   ·unfold left at h2 ⊢;simp [h2,hout X hiX]
   ·rcases List.mem_append.1 hZ with hZ | hZ
    ·obtain ⟨k1,k2⟩:=Zip hZ
     obtain ⟨Y2,hY2,hm2⟩:=List.mem_flatMap.1 hm'
     refine ⟨fun x hx=>⟨(k1 x hx).2,?_⟩,?_⟩
     rotate_left
     ·simp only [Bool.or_eq_true] at hok2
      rcases hok2 with hok2 | hok2
      ·exact .inl (k2 hok2)
      ·simp only [List.all_eq_true,Bool.not_eq_true'] at hok2
       exact .inr (hok2 Y2 hY2 (i,g) hm2)
     have:=hok1 x (k1 x hx).1 Y2 hY2 (i,g) hm2
     simpa using this
    ·exact h4 Z hZ
section
variable {P:Program} {x:Cx} {n:Nat} {ops:Array Oper} {Q:Exit->Act->World->Prop} {K:St->Prop}
theorem any_its {ms:List Md} {gs:List GI} {its:List (It (Nat×GI))} (hc:Zgq P n ops ops.toList ms=some gs) (hed:J7 ops.toList 0=true) (hpr:ZkO (Za1 ops.toList []) its=true) (hperm:(its.flatMap It.list).Perm (Wm 0 gs)) (hq:∀ s' a' w',Sim x n s' a' w'->K s'->Q .normal a' w') :
  ∀ (fuel:Nat) (listed:Array Bool) (s:St) (a:Act) (w:World),listed.size=ops.size->(Wo listed (Wm 0 gs)).length=fuel ->
   (∀ i,listed.getD i true=true->∀ o,ops[i]?=some o->∀ k∈XO o,listed.getD k false=true) ->
   Y5 P ((left listed its).map It.gi) K s->Sim x n s a w->wpAny P .any ops Q fuel listed a w:=by
 obtain ⟨hlen,hget⟩:=ZeC _ _ _ hc
 have hops:∀ (i:Nat) (o:Oper),ops[i]?=some o->ops.toList[i]?=some o:=fun i o h=>by rw [Array.getElem?_toList];exact h
 have hback:∀ i o,ops[i]?=some o->∀ k∈XO o,k < i:=by
  have:∀ (l:List Oper) (b i:Nat) (o:Oper),J7 l b=true->l[i]?=some o->∀ k∈XO o,k < b+i:=by
   intro l
   induction l with
   | nil=>intro b i o _ h;simp at h
   | cons q l ih =>
    intro b i o hok h k hk
    simp only [J7,Bool.and_eq_true,List.all_eq_true,decide_eq_true_eq] at hok
    cases i with
    | zero=>simp at h;subst h;exact hok.1 k hk
    | succ i=>have:=ih (b+1) i o hok.2 (by simpa using h) k hk;omega
  intro i o h k hk
  have:=this ops.toList 0 i o hed (hops i o h) k hk
  omega
 have hdown:∀ (listed:Array Bool),listed.size=ops.size->(∀ i,listed.getD i true=true->∀ o,ops[i]?=some o->∀ k∈XO o,listed.getD k false=true) ->
   ∀ i o,ops[i]?=some o->(∀ k∈XO o,listed.getD k false=true)->∀ j,((Za1 ops.toList []).getD i 0).testBit j=true->listed.getD j false=true:=by
  intro listed hsz hcl i
  induction i using Nat.strongRecOn with
  | _ i ih =>
   intro o ho hd j hj
   have:=Zf4 ops.toList [] i o (hops i o ho) (by simpa using hed) j (by simpa using hj)
   obtain ⟨k,hk,hlt,h3⟩:=this
   simp at hlt
   have hkl:=hd k hk
   rcases h3 with rfl | h3
   ·exact hkl
   ·have hks:k < ops.size:=by
     have:i < ops.size:=by
      rcases Nat.lt_or_ge i ops.size with h | h
      ·exact h
      ·rw [Array.getElem?_eq_none h] at ho;simp at ho
     omega
    refine ih k hlt ops[k] (Array.getElem?_eq_getElem hks) ?_ j h3
    refine hcl k ?_ _ (Array.getElem?_eq_getElem hks)
    have hk2:k < listed.size:=by omega
    simpa [Array.getD_eq_getD_getElem?,hk2] using hkl
 have hready:∀ (listed:Array Bool),listed.size=ops.size->∀ i,i∈Region.ready .any ops listed ↔ i < ops.size∧listed.getD i true=false∧∃ o,ops[i]?=some o∧∀ k∈XO o,listed.getD k false=true:=by
  intro listed hsz i
  simp only [Region.ready,List.mem_filter,List.mem_range,Bool.and_eq_true,Bool.not_eq_true']
  constructor
  ·rintro ⟨h1,h2,h3⟩
   refine ⟨h1,h2,ops[i],Array.getElem?_eq_getElem h1,fun k hk=>?_⟩
   rw [Array.getElem?_eq_getElem h1] at h3
   simp only [Option.map_some,Option.getD_some,Array.all_eq_true',Bool.or_eq_true,Bool.not_eq_true'] at h3
   simp only [XO,List.mem_map,List.mem_filter] at hk
   obtain ⟨e,⟨he1,he2⟩,rfl⟩:=hk
   rcases h3 e (by simpa using he1) with h | h
   ·rw [he2] at h;simp at h
   ·exact h
  ·rintro ⟨h1,h2,o,ho,h3⟩
   refine ⟨h1,h2,?_⟩
   rw [ho]
   simp only [Option.map_some,Option.getD_some,Array.all_eq_true',Bool.or_eq_true,Bool.not_eq_true']
   intro e he
   cases hb:Region.binds .any e with
   | false=>exact .inl rfl
   | true=>exact .inr (h3 e.on (by simp only [XO,List.mem_map,List.mem_filter];exact ⟨e,⟨by simpa using he,hb⟩,rfl⟩))
 have hmemN:∀ i,i < ops.size->∃ g,(i,g)∈Wm 0 gs∧gs[i]?=some g:=by
  intro i hi
  have:i < gs.length:=by rw [hlen];simpa using hi
  refine ⟨gs[i],?_,List.getElem?_eq_getElem this⟩
  have:=Zgl 0 gs i gs[i] (List.getElem?_eq_getElem this)
  simpa using this
 intro fuel
 induction fuel with
 | zero =>
  intro listed s a w hsz hl hcl hw sim
  have hnil:Wo listed (Wm 0 gs)=[]:=List.eq_nil_of_length_eq_zero hl
  refine ⟨?_,?_⟩
  ·apply List.eq_nil_iff_forall_not_mem.2
   intro i hi
   obtain ⟨h1,h2,_⟩:=(hready listed hsz i).1 hi
   obtain ⟨g,hg,_⟩:=hmemN i h1
   have:(i,g)∈Wo listed (Wm 0 gs):=List.mem_filter.2 ⟨hg,by simpa using h2⟩
   rw [hnil] at this;simp at this
  ·have hnl:left listed its=[]:=by
    apply List.eq_nil_iff_forall_not_mem.2
    intro Y hY
    unfold left at hY
    obtain ⟨X,hX,hYX⟩:=List.mem_flatMap.1 hY
    obtain ⟨k1,_⟩:=Zip hYX
    obtain ⟨y,hy⟩:∃ y,y∈Y.list:=by cases Y<;>simp [It.list]
    obtain ⟨k2,k3⟩:=k1 y hy
    have hyn:y∈Wm 0 gs:=by
     have:=hperm.mem_iff.1 (List.mem_flatMap.2 ⟨X,hX,k2⟩)
     simpa using this
    have:y∈Wo listed (Wm 0 gs):=List.mem_filter.2 ⟨hyn,by simpa using k3⟩
    rw [hnil] at this;simp at this
   rw [hnl] at hw
   exact hq s a w sim hw
 | succ fuel ih =>
  intro listed s a w hsz hl hcl hw sim
  refine ⟨fun hr=>?_,fun i hi=>?_⟩
  ·
   exfalso
   obtain ⟨p,rest,hp⟩:∃ p rest,Wo listed (Wm 0 gs)=p::rest:=by
    cases h:Wo listed (Wm 0 gs) with
    | nil=>rw [h] at hl;simp at hl
    | cons p rest=>exact ⟨p,rest,rfl⟩
   have hpm:p∈Wo listed (Wm 0 gs):=by rw [hp];simp
   obtain ⟨hpn,hpl⟩:=List.mem_filter.1 hpm
   have hpg:=(KA 0 gs p hpn).2
   have hpi:p.1 < ops.size:=by
    rcases Nat.lt_or_ge p.1 ops.size with h | h
    ·exact h
    ·rw [List.getElem?_eq_none (by rw [hlen];simpa using h)] at hpg;simp at hpg
   have:p.1∈Region.ready .any ops listed:=by
    rw [hready listed hsz]
    refine ⟨hpi,by simpa using hpl,ops[p.1],Array.getElem?_eq_getElem hpi,fun k hk=>?_⟩
    have hklt:=hback p.1 _ (Array.getElem?_eq_getElem hpi) k hk
    cases hkl:listed.getD k false with
    | true=>rfl
    | false =>
     exfalso
     obtain ⟨g,hg,_⟩:=hmemN k (by omega)
     have hkm:(k,g)∈Wo listed (Wm 0 gs):=List.mem_filter.2 ⟨hg,by
      have:k < listed.size:=by omega
      simpa [Array.getD_eq_getD_getElem?,this] using hkl⟩
     have hsrt:(Wo listed (Wm 0 gs)).Pairwise fun p q=>p.1 < q.1:=(Yo 0 gs).sublist List.filter_sublist
     rw [hp] at hsrt hkm
     rw [List.pairwise_cons] at hsrt
     simp only [List.mem_cons] at hkm
     rcases hkm with h | h
     ·rw [<- h] at hklt;simp at hklt
     ·have:=hsrt.1 _ h;simp at this;omega
   rw [hr] at this;simp at this
  ·obtain ⟨h1,h2,o,ho,h3⟩:=(hready listed hsz i).1 hi
   obtain ⟨g,hg,hgg⟩:=hmemN i h1
   have hm:(i,g)∈Wo listed (Wm 0 gs):=List.mem_filter.2 ⟨hg,by simpa using h2⟩
   obtain ⟨pre,post,hpp⟩:=List.append_of_mem hm
   obtain ⟨m,hcg⟩:=hget i o g (hops i o ho) hgg
   have hnod:((its.flatMap It.list).map (·.1)).Nodup:=by
    refine (hperm.map (·.1)).nodup_iff.2 ?_
    have:=Yo 0 gs
    refine List.Pairwise.map _ (fun p q h=>?_) this
    exact Nat.ne_of_lt h
   have hli:i < listed.size:=by omega
   obtain ⟨pre2,Y,rest2,post2,q1,q2,q3,q4⟩:=ZkJ (P:=P) (listed:=listed) (i:=i) (g:=g) hli (by
    simpa [Array.getD_eq_getD_getElem?,hli] using h2) (fun j hj=>by
    have:=hdown listed hsz hcl i o ho h3 j hj
    rw [Array.getD_eq_getD_getElem?] at this ⊢
    cases hh:listed[j]? with
    | none=>rfl
    | some b=>rw [hh] at this;exact this) _ hpr hnod (hperm.mem_iff.2 hg)
   rw [q1] at hw
   have hpull:=pullIt q3 (fun X hX=>⟨fun x hx=>by
    obtain ⟨k1,k2⟩:=(q4 X hX).1 x hx
    rcases k2 with k2 | k2
    ·exact k2
    ·exfalso
     have:=hdown listed hsz hcl i o ho h3 x.1 k2
     have hx2:x.1 < listed.size:=by
      rcases Nat.lt_or_ge x.1 listed.size with h' | h'
      ·exact h'
      ·simp [Array.getD_eq_getD_getElem?,Array.getElem?_eq_none h'] at this
     simp [Array.getD_eq_getD_getElem?,hx2] at this k1
     rw [this] at k1;simp at k1,(q4 X hX).2⟩) hw
   rw [<- q2] at hpull
   have hset:=Zhf (Yo 0 gs) (show i < listed.size by omega) hpp
   refine Zoi ho hcg hpull sim fun s' a' w' sim' hk=>?_
   refine ih (listed.setIfInBounds i true) s' a' w' (by simpa using hsz) ?_ ?_ hk sim'
   ·rw [hset];rw [hpp] at hl;simp at hl ⊢;omega
   ·intro j hj o' ho' k hk
    have mono:∀ k,listed.getD k false=true->(listed.setIfInBounds i true).getD k false=true:=by
     intro k hk
     by_cases e:k=i
     ·subst e;simp [Array.getD_eq_getD_getElem?,show k < listed.size by omega]
     ·rw [Array.getD_eq_getD_getElem?,Array.getElem?_setIfInBounds_ne (fun q=>e q.symm),<- Array.getD_eq_getD_getElem?];exact hk
    by_cases e:j=i
    ·subst e
     rw [ho] at ho'
     obtain rfl:o=o':=by simpa using ho'
     exact mono k (h3 k hk)
    ·rw [Array.getD_eq_getD_getElem?,Array.getElem?_setIfInBounds_ne (fun q=>e q.symm),<- Array.getD_eq_getD_getElem?] at hj
     exact mono k (hcl j hj o' ho' k hk)
theorem Zk0 {id:Nat} {ms:List Md} {gs:List GI} {its:List (It (Nat×GI))} {s:St} {a:Act} {w:World} (hm:P.follows .mixedOrders=true) (hc:Zgq P n ops ops.toList ms=some gs) (hed:J7 ops.toList 0=true) (hpr:ZkO (Za1 ops.toList []) its=true) (hperm:(its.flatMap It.list).Perm (Wm 0 gs))
  (hw:Y5 P (its.map It.gi) K s) (sim:Sim x n s a w) (hq:∀ s' a' w',Sim x n s' a' w'->K s'->Q .normal a' w'):(Code.region id ops true).wp P Q a w:=by
 refine wp_region_any hm ?_
 have hlen:=(ZeC _ _ _ hc).1
 have hun:Wo (Array.replicate ops.size false) (Wm 0 gs)=Wm 0 gs:=by
  unfold Wo
  apply List.filter_eq_self.2
  intro p hp
  have hpg:=(KA 0 gs p hp).2
  have:p.1 < ops.size:=by
   rcases Nat.lt_or_ge p.1 ops.size with h | h
   ·exact h
   ·rw [List.getElem?_eq_none (by rw [hlen];simpa using h)] at hpg;simp at hpg
  simp [Array.getD_eq_getD_getElem?,this]
 have hl:(Wm 0 gs).length=ops.size:=by
  have:=congrArg List.length (ZcW 0 gs)
  rw [List.length_map] at this
  rw [this,hlen];simp
 have hlft:left (Array.replicate ops.size false) its=its:=by
  unfold left
  have key:∀ its:List (It (Nat×GI)),(∀ x∈its.flatMap It.list,x∈Wm 0 gs)->its.flatMap (WE (Array.replicate ops.size false))=its:=by
   intro its
   induction its with
   | nil=>intro _;rfl
   | cons X its ih =>
    intro hx
    rw [List.flatMap_cons,ih (fun x h=>hx x (by simp [h]))]
    have hlt:∀ x∈X.list,(Array.replicate ops.size false).getD x.1 true=false:=by
     intro x hxX
     have hpg:=(KA 0 gs x (hx x (by simp [hxX]))).2
     have:x.1 < ops.size:=by
      rcases Nat.lt_or_ge x.1 ops.size with h | h
      ·exact h
      ·rw [List.getElem?_eq_none (by rw [hlen];simpa using h)] at hpg;simp at hpg
     simp [Array.getD_eq_getD_getElem?,this]
    cases X with
    | one p=>simp [WE,hlt p (by simp [It.list])]
    | two p q=>simp [WE,hlt p (by simp [It.list]),hlt q (by simp [It.list])]
    | grp as q =>
     have hf:(as.filter fun p=>!(Array.replicate ops.size false).getD p.1 true)=as:=by
      apply List.filter_eq_self.2
      intro p hp
      rw [hlt p (by simp [It.list,hp])];rfl
     simp only [WE,hlt q (by simp [It.list]),hf];simp
  exact key _ (fun x hx=>by have:=hperm.mem_iff.1 hx;simpa using this)
 refine any_its hc hed hpr hperm hq ops.size _ s a _ (by simp) (by rw [hun,hl]) (fun i hi o ho=>?_) (by rw [hlft];exact hw) ?_
 ·exfalso
  have:i < ops.size:=by
   rcases Nat.lt_or_ge i ops.size with h | h
   ·exact h
   ·rw [Array.getElem?_eq_none h] at ho;simp at ho
  simp [Array.getD_eq_getD_getElem?,this] at hi
 ·obtain ⟨A,μ,OH,Ot,ht,h0,hr,st⟩:=sim
  exact ⟨A,μ,OH,Ot,ht,h0,hr,st.heap rfl ⟨rfl,rfl,rfl⟩⟩
theorem Zpj {id:Nat} {ms:List Md} {gs:List GI} {s:St} {a:Act} {w:World} (hm:P.follows .mixedOrders=true) (hc:Zgq P n ops ops.toList ms=some gs) (hok:ZoB ops gs=true)
  (hw:Y5 P ((KX (Wm 0 gs) []).map It.gi) K s) (sim:Sim x n s a w) (hq:∀ s' a' w',Sim x n s' a' w'->K s'->Q .normal a' w'):(Code.region id ops true).wp P Q a w:=by
 simp only [ZoB,Bool.and_eq_true] at hok
 exact Zk0 hm hc hok.1 hok.2 (J1 _ []) hw sim hq
theorem Zqm {id:Nat} {ms:List Md} {gs:List GI} {s:St} {a:Act} {w:World} (hm:P.follows .mixedOrders=true) (hc:Zgq P n ops ops.toList ms=some gs) (hok:ZrC ops gs=true)
  (hw:Y5 P ((Zrz ops gs).map It.gi) K s) (sim:Sim x n s a w) (hq:∀ s' a' w',Sim x n s' a' w'->K s'->Q .normal a' w'):(Code.region id ops true).wp P Q a w:=by
 simp only [ZrC,Bool.and_eq_true] at hok
 exact Zk0 hm hc hok.1 hok.2 (Zaf _ _ []) hw sim hq
end
section
variable {A:GM} {μ:List Nat}
mutual
theorem Rep.shd:∀ (x:LV) (v:Value) (O:List Own),Rep A μ (share x) v O->O=[]
 | .sc _,_,_,h=>by simp only [share,Rep] at h;exact h.2
 | .sl _ _ _ xs,_,_,h=>by
  simp only [share,Rep] at h
  rcases h with ⟨_,_,_,h⟩ | ⟨_,b,off,sp,cap,O',_,_,_,h4,h5⟩
  ·exact h
  ·have:=Qw.shd xs _ _ _ _ h4
   rcases h5 with ⟨h,_⟩ | ⟨_,h⟩
   ·simp at h
   ·rw [h,this]
 | .ha _ _ _ _ _,_,_,h=>by simp only [share,Rep] at h;exact h.1
 | .ptr _ _,_,_,h=>by simp only [share,Rep] at h;exact h.1
 | .rp xs,_,_,h=>by
  simp only [share,Rep] at h
  obtain ⟨b,off,_,h2⟩:=h
  exact Qu.shd xs _ _ _ h2
 | .fn _ xs,_,_,h=>by
  simp only [share,Rep] at h
  obtain ⟨vs,_,h2⟩:=h
  exact RepVals.shd xs _ _ h2
 | .fnm _ xs,_,_,h=>by
  simp only [share,Rep] at h
  obtain ⟨vs,_,h2⟩:=h
  exact RepVals.shd xs _ _ h2
 | .agg xs,_,_,h=>by
  simp only [share,Rep] at h
  obtain ⟨vs,_,_,h2⟩:=h
  exact RepVals.shd xs _ _ h2
 | .tup xs,_,_,h=>by
  simp only [share,Rep] at h
  obtain ⟨vs,_,h2⟩:=h
  exact RepVals.shd xs _ _ h2
 | .raw _,_,_,h=>by simpa only [share,Rep] using h
 | .dead,_,_,h=>by simpa only [share,Rep] using h
 | .both _ t,_,_,h=>by simp only [share] at h;exact Rep.shd t _ _ h
theorem Qw.shd:∀ (xs:List (List LV)) (sz b off:Nat) (O:List Own),Qw A μ (Qv xs) sz b off O->O=[]
 | [],_,_,_,_,h=>by simpa only [Qv,Qw] using h
 | x::xs,_,_,_,_,h=>by
  simp only [Qv,Qw] at h
  obtain ⟨O1,O2,h1,_,h3,h4⟩:=h
  rw [h1,Qu.shd x _ _ _ h3,Qw.shd xs _ _ _ _ h4];rfl
theorem Qu.shd:∀ (xs:List LV) (b off:Nat) (O:List Own),Qu A μ (shareAll xs) b off O->O=[]
 | [],_,_,_,h=>by simpa only [shareAll,Qu] using h
 | x::xs,_,_,_,h=>by
  simp only [shareAll,Qu] at h
  obtain ⟨v,O1,O2,h1,_,_,h3,h4⟩:=h
  rw [h1,Rep.shd x _ _ h3,Qu.shd xs _ _ _ h4];rfl
theorem RepVals.shd:∀ (xs:List LV) (vs:List Value) (O:List Own),RepVals A μ (shareAll xs) vs O->O=[]
 | [],_,_,h=>by simp only [shareAll,RepVals] at h;exact h.2
 | x::xs,_,_,h=>by
  simp only [shareAll,RepVals] at h
  obtain ⟨v,ws,O1,O2,_,h1,h3,h4⟩:=h
  rw [h1,Rep.shd x _ _ h3,RepVals.shd xs _ _ h4];rfl
end
end
mutual
def QB:LV->Prop
 | .sc _=>True
 | .sl u nl sz Qj=>(Qj=[]∨(u=true∧nl=false∧∀ r∈Qj,r.length=sz))∧QL Qj
 | .agg xs=>QS xs
 | .tup xs=>QS xs
 | _=>False
def QS:List LV->Prop
 | []=>True
 | x::xs=>QB x∧QS xs
def QL:List (List LV)->Prop
 | []=>True
 | x::xs=>QS x∧QL xs
end
mutual
def Th:LV->Nat->LV->List Box->Prop
 | .sc v,_,y,bs=>y=.sc v∧bs=[]
 | .sl _ nl sz Qj,n,y,bs=>(Qj=[]∧y=.sl false nl sz []∧bs=[]) ∨
   (nl=false∧Qj≠[]∧∃ cells bs' slack cap,Xn Qj sz n cells bs'∧(Qj.length<=cap∧Qj.length * sz+slack=cap * sz)∧y=.ha (n+bs'.length) sz 0 Qj.length cap∧bs=bs'++[some (cells++List.replicate slack .dead)])
 | .agg xs,n,y,bs=>∃ ys,y=.agg ys∧WQ xs n ys bs
 | .tup xs,n,y,bs=>∃ ys,y=.tup ys∧WQ xs n ys bs
 | _,_,_,_=>False
def Xn:List (List LV)->Nat->Nat->List LV->List Box->Prop
 | [],_,_,cells,bs=>cells=[]∧bs=[]
 | row::Qj,sz,n,cells,bs=>∃ c1 b1 c2 b2,row.length=sz∧WQ row n c1 b1∧Xn Qj sz (n+b1.length) c2 b2∧cells=c1++c2∧bs=b1++b2
def WQ:List LV->Nat->List LV->List Box->Prop
 | [],_,ys,bs=>ys=[]∧bs=[]
 | x::xs,n,ys,bs=>∃ y b1 ys' b2,Th x n y b1∧WQ xs (n+b1.length) ys' b2∧ys=y::ys'∧bs=b1++b2
end
section
variable {B B':GM} {μ:List Nat}
theorem Xm {O1 O2:List Own} {b:Nat}:K6 (O1++O2) b ↔ K6 O1 b∨K6 O2 b:=by
 simp only [K6,List.mem_append]
 constructor
 ·rintro ⟨n,c,h | h⟩
  ·exact .inl ⟨n,c,h⟩
  ·exact .inr ⟨n,c,h⟩
 ·rintro (⟨n,c,h⟩ | ⟨n,c,h⟩)
  ·exact ⟨n,c,.inl h⟩
  ·exact ⟨n,c,.inr h⟩
theorem ZaP {e:Own} {O:List Own} {b:Nat}:K6 (e::O) b ↔ b=e.1∨K6 O b:=by
 obtain ⟨b',n',c'⟩:=e
 simp only [K6,List.mem_cons,Prod.mk.injEq]
 constructor
 ·rintro ⟨n,c,⟨h,_⟩ | h⟩
  ·exact .inl h
  ·exact .inr ⟨n,c,h⟩
 ·rintro (h | ⟨n,c,h⟩)
  ·exact ⟨n',c',.inl ⟨h,rfl,rfl⟩⟩
  ·exact ⟨n,c,.inr h⟩
mutual
theorem Rep.own:∀ (t:LV) (v:Value) (O:List Own),QB t->Rep B μ t v O->(∀ b,K6 O b->∀ i,B' b i=B b i)->Rep B' μ t v O
 | .sc _,_,_,_,h,_=>by simpa only [Rep] using h
 | .sl _ _ _ Qj,v,O,hw,h,ho=>by
  simp only [QB] at hw
  simp only [Rep] at h ⊢
  rcases h with h | ⟨h1,b,off,sp,cap,O',h2,hs,h3,h4,h5⟩
  ·exact .inl h
  ·refine .inr ⟨h1,b,off,sp,cap,O',h2,hs,h3,?_,h5⟩
   rcases h5 with ⟨k1,k2,k3⟩ | ⟨k1,k2⟩
   ·subst k3
    exact Qw.own Qj _ _ _ _ hw.2 h4 (fun i=>ho b (ZaP.2 (.inl rfl)) i) (fun b' hb'=>ho b' (ZaP.2 (.inr hb')))
   ·subst k2
    have hr:Qj=[]:=by
     rcases hw.1 with k | k
     ·exact k
     ·rcases k1 with k1 | k1
      ·rw [k.1] at k1;simp at k1
      ·exact List.eq_nil_of_length_eq_zero (by omega)
    subst hr
    simpa only [Qw] using h4
 | .agg xs,_,_,hw,h,ho=>by
  simp only [QB] at hw
  simp only [Rep] at h ⊢
  obtain ⟨vs,h1,h0,h2⟩:=h
  exact ⟨vs,h1,h0,RepVals.own xs _ _ hw h2 ho⟩
 | .tup xs,_,_,hw,h,ho=>by
  simp only [QB] at hw
  simp only [Rep] at h ⊢
  obtain ⟨vs,h1,h2⟩:=h
  exact ⟨vs,h1,RepVals.own xs _ _ hw h2 ho⟩
 | .ha _ _ _ _ _,_,_,hw,_,_=>by simp [QB] at hw
 | .ptr _ _,_,_,hw,_,_=>by simp [QB] at hw
 | .rp _,_,_,hw,_,_=>by simp [QB] at hw
 | .fn _ _,_,_,hw,_,_=>by simp [QB] at hw
 | .fnm _ _,_,_,hw,_,_=>by simp [QB] at hw
 | .raw _,_,_,hw,_,_=>by simp [QB] at hw
 | .dead,_,_,hw,_,_=>by simp [QB] at hw
 | .both _ _,_,_,hw,_,_=>by simp [QB] at hw
theorem Qw.own:∀ (Qj:List (List LV)) (sz b off:Nat) (O:List Own),QL Qj->Qw B μ Qj sz b off O->(∀ i,B' b i=B b i)->(∀ b,K6 O b->∀ i,B' b i=B b i)->Qw B' μ Qj sz b off O
 | [],_,_,_,_,_,h,_,_=>by simpa only [Qw] using h
 | x::xs,_,b,_,_,hw,h,hb,ho=>by
  simp only [QL] at hw
  simp only [Qw] at h ⊢
  obtain ⟨O1,O2,h1,h2,h3,h4⟩:=h
  subst h1
  exact ⟨O1,O2,rfl,h2,Qu.own x _ _ _ hw.1 h3 hb (fun b' h'=>ho b' (Xm.2 (.inl h'))),Qw.own xs _ _ _ _ hw.2 h4 hb (fun b' h'=>ho b' (Xm.2 (.inr h')))⟩
theorem Qu.own:∀ (xs:List LV) (b off:Nat) (O:List Own),QS xs->Qu B μ xs b off O->(∀ i,B' b i=B b i)->(∀ b,K6 O b->∀ i,B' b i=B b i)->Qu B' μ xs b off O
 | [],_,_,_,_,h,_,_=>by simpa only [Qu] using h
 | x::xs,b,_,_,hw,h,hb,ho=>by
  simp only [QS] at hw
  simp only [Qu] at h ⊢
  obtain ⟨v,O1,O2,h1,h2,h2',h3,h4⟩:=h
  subst h1
  exact ⟨v,O1,O2,rfl,by rw [hb];exact h2,h2',Rep.own x _ _ hw.1 h3 (fun b' h'=>ho b' (Xm.2 (.inl h'))),Qu.own xs _ _ _ hw.2 h4 hb (fun b' h'=>ho b' (Xm.2 (.inr h')))⟩
theorem RepVals.own:∀ (xs:List LV) (vs:List Value) (O:List Own),QS xs->RepVals B μ xs vs O->(∀ b,K6 O b->∀ i,B' b i=B b i)->RepVals B' μ xs vs O
 | [],_,_,_,h,_=>by simpa only [RepVals] using h
 | x::xs,_,_,hw,h,ho=>by
  simp only [QS] at hw
  simp only [RepVals] at h ⊢
  obtain ⟨v,ws,O1,O2,h1,h2,h3,h4⟩:=h
  subst h2
  exact ⟨v,ws,O1,O2,h1,rfl,Rep.own x _ _ hw.1 h3 (fun b' h'=>ho b' (Xm.2 (.inl h'))),RepVals.own xs _ _ hw.2 h4 (fun b' h'=>ho b' (Xm.2 (.inr h')))⟩
end
end
def GM.cut (A:GM) (b:Nat):GM:=fun b' i=>if b'=b then none else A b' i
theorem GM.cut_some {A:GM} {b b' i:Nat} {v:Value} (h:A.cut b b' i=some v):A b' i=some v∧b'≠b:=by
 unfold GM.cut at h
 split at h
 ·simp at h
 ·exact ⟨h,by assumption⟩
theorem GM.cut_other {A:GM} {b b':Nat} (h:b'≠b) (i:Nat):A.cut b b' i=A b' i:=by
 unfold GM.cut;rw [if_neg h]
def ZdG (w:World) (A:GM) (μ:List Nat) (h:List Box) (OH:List (List Own)):Prop :=
 ∀ l xs,h[l]?=some (some xs)->∃ c e,w.heap[μ.getD l 0]?=some (.cells c e (0,0))∧RepVals A μ xs c.toList (OH.getD l [])∧(∀ v∈c.toList,v.oneCell'=true)
section
variable {x:Cx} {w:World} {A1 B:GM} {μ:List Nat} {h:List Box} {OH:List (List Own)} {O:List Own}
theorem St'.adopt (s:St' x w B μ h OH O) (hA1:A1.Le B) (hbx:ZdG w A1 μ h OH) {b n c:Nat} (hm:(b,n,c)∈O) (hnew:x.w0.heap.size<=b) (hA0:∀ i,x.A0 b i=none) (hA1b:∀ i,A1 b i=none)
  {cs:Array Value} {e:TypeId} (hb:w.heap[b]?=some (.cells cs e (0,0))) (h1:∀ v∈cs.toList,v.oneCell'=true) (xs:List LV) (hr:RepVals A1 μ xs cs.toList [])
  (O2:List Own) (hf:∀ p:Own->Bool,O2.countP p+(if p (b,n,c) then 1 else 0)<=O.countP p) :
  St' x w (B.cut b) (μ++[b]) (h++[some xs]) (OH++[[]]) O2∧ZdG w A1 (μ++[b]) (h++[some xs]) (OH++[[]])∧A1.Le (B.cut b):=by
 have hlen:=s.inv.len
 have hlenO:=s.inv.lenO
 have hmono:∀ xs vs O,RepVals A1 μ xs vs O->RepVals A1 (μ++[b]) xs vs O:=fun xs vs O=>RepVals.mono (fun _ _ _ h=>h) xs vs O
 have hfl:(OH++[[]]).flatten=OH.flatten:=by simp
 have hnl:¬ Kg μ h b:=(s.inv.own b n c (List.mem_append.2 (.inl hm))).2.2
 have hfew:Zi O2 O:=fun p=>by have:=hf p;omega
 have honce:(O2++OH.flatten).countP (XF b)=0:=by
  have h2:=s.inv.once b
  have h3:=hf (XF b)
  simp only [List.countP_append] at h2 ⊢
  have:(if XF b (b,n,c)=true then 1 else 0)=1:=by simp [XF]
  omega
 have hno:∀ m k,(b,m,k) ∉ O2++OH.flatten:=fun m k hmk=>by
  have:=W4.1 ⟨m,k,hmk⟩
  omega
 have hmemO:∀ e,e∈O2++OH.flatten->e∈O++OH.flatten:=fun e he=>(hfew.app (.refl _)).mem he
 have hA1c:A1.Le (B.cut b):=by
  intro b' i v hv
  unfold GM.cut
  split
  ·rename_i hb';rw [hb',hA1b i] at hv;simp at hv
  ·exact hA1 b' i v hv
 have hbx2:ZdG w A1 (μ++[b]) (h++[some xs]) (OH++[[]]):=by
  intro l ys hl
  rcases Nat.lt_trichotomy l h.length with hlt | heq | hgt
  ·rw [List.getElem?_append_left hlt] at hl
   obtain ⟨c,e',g1,g2,g3⟩:=hbx l ys hl
   rw [Yi (by omega)]
   refine ⟨c,e',g1,?_,g3⟩
   rw [List.getD_eq_getElem?_getD,List.getElem?_append_left (by omega),<- List.getD_eq_getElem?_getD]
   exact hmono _ _ _ g2
  ·subst heq
   simp at hl
   subst hl
   refine ⟨cs,e,?_,?_,h1⟩
   ·rw [List.getD_eq_getElem?_getD,List.getElem?_append_right (by omega)]
    simp [hlen,hb]
   ·rw [List.getD_eq_getElem?_getD,List.getElem?_append_right (by omega)]
    simp [hlenO]
    exact hmono _ _ _ hr
  ·rw [List.getElem?_eq_none (by simp;omega)] at hl;simp at hl
 refine ⟨⟨⟨by simp [hlen],by simp [hlenO],fun b' i v hv=>s.inv.cells b' i v (GM.cut_some hv).1,?_,?_,?_,?_,?_⟩,⟨s.since.size,?_,?_,?_,?_,?_,s.since.still⟩⟩,hbx2,hA1c⟩
 ·intro l ys hl
  obtain ⟨c,e',g1,g2,g3⟩:=hbx2 l ys hl
  have:=RepVals.mono (ν:=[]) hA1c ys c.toList _ g2
  rw [List.append_nil] at this
  exact ⟨c,e',g1,this,g3⟩
 ·intro b' hb' i
  unfold GM.cut
  split
  ·rfl
  ·rename_i hne
   rcases Ve hlen hb' with hb' | ⟨h,_⟩
   ·exact s.inv.loose b' hb' i
   ·exact absurd h hne
 ·intro l l' ys ys' hl hl' heq
  have key:∀ k zs,(h++[some xs])[k]?=some (some zs)->(k < h.length∧h[k]?=some (some zs)∧(μ++[b]).getD k 0=μ.getD k 0∧μ.getD k 0≠b)∨(k=h.length∧(μ++[b]).getD k 0=b):=by
   intro k zs hk
   rcases Nat.lt_trichotomy k h.length with hlt | heq | hgt
   ·left
    rw [List.getElem?_append_left hlt] at hk
    exact ⟨hlt,hk,Yi (by omega),fun h=>hnl ⟨k,zs,hk,h⟩⟩
   ·right
    refine ⟨heq,?_⟩
    rw [List.getD_eq_getElem?_getD,List.getElem?_append_right (by omega)]
    simp [hlen,heq]
   ·rw [List.getElem?_eq_none (by simp;omega)] at hk;simp at hk
  rcases key l ys hl with ⟨a1,a2,a3,a4⟩ | ⟨a1,a2⟩<;>rcases key l' ys' hl' with ⟨b1,b2,b3,b4⟩ | ⟨b1,b2⟩
  ·rw [a3,b3] at heq;exact s.inv.apart l l' ys ys' a2 b2 heq
  ·rw [a3,b2] at heq;exact absurd heq a4
  ·rw [a2,b3] at heq;exact absurd heq.symm b4
  ·omega
 ·intro b' n c hm'
  rw [hfl] at hm'
  have hne:b'≠b:=fun h=>hno n c (h ▸ hm')
  obtain ⟨g1,g3,g4⟩:=s.inv.own b' n c (hmemO _ hm')
  refine ⟨g1,fun i hi=>by rw [GM.cut_other hne];exact g3 i hi,fun hl=>?_⟩
  rcases Ve hlen hl with hl | ⟨h,_⟩
  ·exact g4 hl
  ·exact hne h
 ·intro b';rw [hfl];exact Nat.le_trans ((hfew.app (.refl _)) (XF b')) (s.inv.once b')
 ·intro b' hb' ht
  obtain ⟨g1,g2⟩:=s.since.kept b' hb' ht
  refine ⟨g1,fun i=>?_⟩
  rw [GM.cut_other (by omega)]
  exact g2 i
 ·intro b' n c hm';rw [hfl] at hm';exact s.since.ownT b' n c (hmemO _ hm')
 ·intro b' hb'
  rcases Ve hlen hb' with hb' | ⟨rfl,_⟩
  ·exact s.since.liveT b' hb'
  ·exact .inl hnew
 ·intro b' i v hv
  unfold GM.cut
  split
  ·rename_i hb';rw [hb',hA0 i] at hv;simp at hv
  ·exact s.since.le b' i v hv
 ·obtain ⟨ν,hν⟩:=s.since.ext
  exact ⟨ν++[b],by rw [hν,List.append_assoc]⟩
end
section
variable {x:Cx} {w:World} {A1:GM}
theorem ZeR {α:Type} {sz:Nat}:∀ Qj:List (List α),(∀ r∈Qj,r.length=sz)->Qj.flatten.length=Qj.length * sz
 | [],_=>by simp
 | r::rs,h=>by rw [List.flatten_cons,List.length_append,h r (by simp),ZeR rs fun q hq=>h q (by simp [hq]),List.length_cons,Nat.add_mul];omega
def New (x:Cx) (A1:GM) (b:Nat):Prop:=x.w0.heap.size<=b∧(∀ i,x.A0 b i=none)∧∀ i,A1 b i=none
def Zrt (x:Cx) (w:World) (A1:GM) (B:GM) (μ:List Nat) (h:List Box) (OH:List (List Own)) (Ov E:List Own) (Rv:List Box->List Nat->Prop):Prop :=
 ∃ B' ν bs,St' x w B' (μ++ν) (h++bs) (OH++List.replicate bs.length []) E∧A1.Le B'∧ZdG w A1 (μ++ν) (h++bs) (OH++List.replicate bs.length [])∧(∀ b,¬ K6 Ov b->∀ i,B' b i=B b i)∧Rv bs ν
theorem ZnR {w:World} {B:GM} {μ:List Nat} {h:List Box} {OH:List (List Own)} {O O1 O2 E:List Own} (s:St' x w B μ h OH O) (hf:∀ p:Own->Bool,(O1++O2).countP p+E.countP p<=O.countP p) {b:Nat} (h1:K6 O1 b):¬ K6 O2 b:=by
 intro h2
 have k1:=W4.1 h1
 have k2:=W4.1 h2
 have k3:=s.inv.once b
 have k4:=hf (XF b)
 simp only [List.countP_append] at k3 k4
 omega
mutual
theorem Zqb:∀ (t:LV) (B:GM) (μ:List Nat) (h:List Box) (OH:List (List Own)) (O:List Own) (v:Value) (Ov E:List Own),QB t->St' x w B μ h OH O->A1.Le B->ZdG w A1 μ h OH->Rep B μ t v Ov ->
  (∀ p:Own->Bool,Ov.countP p+E.countP p<=O.countP p)->(∀ b,K6 Ov b->New x A1 b) ->
  Zrt x w A1 B μ h OH Ov E fun bs ν=>∃ y,Th t h.length y bs∧Rep A1 (μ++ν) y v []
 | .sc u,B,μ,h,OH,O,v,Ov,E,hw,s,hA,hb,hr,hf,hn=>by
  simp only [Rep] at hr
  obtain ⟨rfl,rfl⟩:=hr
  refine ⟨B,[],[],by simpa using s.fewer (fun p=>by have:=hf p;simp at this;exact this),hA,by simpa using hb,fun _ _ _=>rfl,.sc v,by simp [Th],by simp [Rep]⟩
 | .sl u nl sz Qj,B,μ,h,OH,O,v,Ov,E,hw,s,hA,hb,hr,hf,hn=>by
  have hfE:Zi E O:=fun p=>by have:=hf p;omega
  simp only [QB] at hw
  simp only [Rep] at hr
  rcases hr with ⟨rfl,rfl,rfl,rfl⟩ | ⟨rfl,b,off,sp,cap,O',rfl,hsp,hcap,hrow,hO⟩
  ·exact ⟨B,[],[],by simpa using s.fewer hfE,hA,by simpa using hb,fun _ _ _=>rfl,.sl false true sz [],by simp [Th],by simp [Rep]⟩
  ·by_cases hne:Qj=[]
   ·subst hne
    exact ⟨B,[],[],by simpa using s.fewer hfE,hA,by simpa using hb,fun _ _ _=>rfl,.sl false false sz [],by simp [Th],by
     simp only [Rep];exact .inr ⟨trivial,b,off,sp,cap,[],rfl,hsp.imp id (fun _=>⟨trivial,.inl trivial⟩),hcap,by simp [Qw],.inr ⟨.inl trivial,rfl⟩⟩⟩
   ·have hpos:0 < Qj.length:=List.length_pos_iff.2 hne
    have hu:u=true:=(hw.1.resolve_left hne).1
    have hsp:sp=none:=hsp.resolve_right (fun h=>hne h.1)
    subst hsp
    subst hu
    obtain ⟨hoff,hOe⟩:off=0∧Ov=(b,Qj.length * sz,cap * sz)::O':=by
     rcases hO with ⟨_,k1,k2⟩ | ⟨k1,_⟩
     ·exact ⟨k1,k2⟩
     ·rcases k1 with k1 | k1
      ·simp at k1
      ·omega
    subst hoff hOe
    obtain ⟨vs,q1,q2,q3,q4⟩:=hrow.vals
    have hbO:(b,Qj.length * sz,cap * sz)∈O:=by
     have h1:=hf (isE (b,Qj.length * sz,cap * sz))
     rw [List.countP_cons,if_pos ((VS _ _).2 rfl)] at h1
     obtain ⟨z,hz,hze⟩:=List.countP_pos_iff.1 (show 0 < O.countP (isE (b,Qj.length * sz,cap * sz)) by omega)
     exact (VS _ _).1 hze ▸ hz
    obtain ⟨⟨cs,e',hcs,hsz,hone⟩,_,_⟩:=s.inv.own _ _ _ (List.mem_append.2 (.inl hbO))
    obtain ⟨B1,ν1,bs1,s1,hA1,hb1,hk1,ys,hth,hys⟩:=Zqh Qj B μ h OH O vs O' ((b,Qj.length * sz,cap * sz)::E) sz q3 hw.2 s hA hb q1 (fun p=>by
     have:=hf p
     simp only [List.countP_cons] at this ⊢
     omega) (fun b' hb'=>hn b' (ZaP.2 (.inr hb')))
    have hnb:=hn b (ZaP.2 (.inl rfl))
    have hcell:∀ (j:Nat) (u:Value),vs[j]?=some u->cs[j]?=some u:=by
     intro j u hj
     have:=s.inv.cells _ _ _ (q4 j u hj).1
     rw [Xj hcs] at this
     simpa using this
    have hle:vs.length<=cs.size:=by
     rcases Nat.lt_or_ge cs.size vs.length with g | g
     ·have:=hcell cs.size _ (List.getElem?_eq_getElem g)
      simp at this
     ·exact g
    have hsplit:cs.toList=vs++cs.toList.drop vs.length:=by
     apply List.ext_getElem?
     intro j
     by_cases hj:j < vs.length
     ·rw [List.getElem?_append_left hj,List.getElem?_eq_getElem hj,<- hcell j _ (List.getElem?_eq_getElem hj)]
      simp
     ·rw [List.getElem?_append_right (by omega),List.getElem?_drop]
      congr 1;omega
    have hcells:RepVals A1 (μ++ν1) (ys++List.replicate (cs.toList.drop vs.length).length .dead) cs.toList []:=by
     rw [hsplit]
     have:=RepVals.app hys (RepVals.dead (A:=A1) (μ:=μ++ν1) (cs.toList.drop vs.length))
     simpa [<- hsplit] using this
    obtain ⟨s2,hb2,hA2⟩:=s1.adopt hA1 hb1 (b:=b) (n:=Qj.length * sz) (c:=cap * sz) (by simp) hnb.1 hnb.2.1 hnb.2.2 hcs hone _ hcells E (fun p=>by simp only [List.countP_cons];omega)
    refine ⟨B1.cut b,ν1++[b],bs1++[some (ys++List.replicate (cs.toList.drop vs.length).length .dead)],by simpa [List.replicate_succ',List.append_assoc] using s2,hA2,by simpa [List.replicate_succ',List.append_assoc] using hb2,fun b' hb' i=>?_,.ha (h.length+bs1.length) sz 0 Qj.length cap,?_,?_⟩
    ·rw [GM.cut_other (fun g=>hb' (ZaP.2 (.inl g)))]
     exact hk1 b' (fun g=>hb' (ZaP.2 (.inr g))) i
    ·simp only [Th]
     exact .inr ⟨trivial,hne,ys,bs1,_,cap,hth,⟨hcap,by
      have l2:=q1.length
      have l3:=hsz
      simp only [List.length_drop,Array.length_toList]
      have l4:=ZeR Qj q3
      omega⟩,rfl,rfl⟩
    ·simp only [Rep]
     have l1:=s1.inv.len
     have l0:=s.inv.len
     simp only [List.length_append] at l1
     refine ⟨trivial,by simp;omega,?_⟩
     rw [<- List.append_assoc,List.getD_eq_getElem?_getD,List.getElem?_append_right (by simp;omega)]
     simp [show h.length+bs1.length - (μ.length+ν1.length)=0 by omega]
 | .agg xs,B,μ,h,OH,O,v,Ov,E,hw,s,hA,hb,hr,hf,hn=>by
  simp only [QB] at hw
  simp only [Rep] at hr
  obtain ⟨vs,rfl,h1,h2⟩:=hr
  obtain ⟨B',ν,bs,g1,g2,g3,g4,ys,g5,g6⟩:=ZgF xs B μ h OH O vs Ov E hw s hA hb h2 hf hn
  exact ⟨B',ν,bs,g1,g2,g3,g4,.agg ys,by simp only [Th];exact ⟨ys,rfl,g5⟩,by simp only [Rep];exact ⟨vs,rfl,h1,g6⟩⟩
 | .tup xs,B,μ,h,OH,O,v,Ov,E,hw,s,hA,hb,hr,hf,hn=>by
  simp only [QB] at hw
  simp only [Rep] at hr
  obtain ⟨vs,rfl,h2⟩:=hr
  obtain ⟨B',ν,bs,g1,g2,g3,g4,ys,g5,g6⟩:=ZgF xs B μ h OH O vs Ov E hw s hA hb h2 hf hn
  exact ⟨B',ν,bs,g1,g2,g3,g4,.tup ys,by simp only [Th];exact ⟨ys,rfl,g5⟩,by simp only [Rep];exact ⟨vs,rfl,g6⟩⟩
 | .ha _ _ _ _ _,_,_,_,_,_,_,_,_,hw,_,_,_,_,_,_=>by simp [QB] at hw
 | .ptr _ _,_,_,_,_,_,_,_,_,hw,_,_,_,_,_,_=>by simp [QB] at hw
 | .rp _,_,_,_,_,_,_,_,_,hw,_,_,_,_,_,_=>by simp [QB] at hw
 | .fn _ _,_,_,_,_,_,_,_,_,hw,_,_,_,_,_,_=>by simp [QB] at hw
 | .fnm _ _,_,_,_,_,_,_,_,_,hw,_,_,_,_,_,_=>by simp [QB] at hw
 | .raw _,_,_,_,_,_,_,_,_,hw,_,_,_,_,_,_=>by simp [QB] at hw
 | .dead,_,_,_,_,_,_,_,_,hw,_,_,_,_,_,_=>by simp [QB] at hw
 | .both _ _,_,_,_,_,_,_,_,_,hw,_,_,_,_,_,_=>by simp [QB] at hw
theorem ZgF:∀ (xs:List LV) (B:GM) (μ:List Nat) (h:List Box) (OH:List (List Own)) (O:List Own) (vs:List Value) (Ov E:List Own),QS xs->St' x w B μ h OH O->A1.Le B->ZdG w A1 μ h OH->RepVals B μ xs vs Ov ->
  (∀ p:Own->Bool,Ov.countP p+E.countP p<=O.countP p)->(∀ b,K6 Ov b->New x A1 b) ->
  Zrt x w A1 B μ h OH Ov E fun bs ν=>∃ ys,WQ xs h.length ys bs∧RepVals A1 (μ++ν) ys vs []
 | [],B,μ,h,OH,O,vs,Ov,E,hw,s,hA,hb,hr,hf,hn=>by
  simp only [RepVals] at hr
  obtain ⟨rfl,rfl⟩:=hr
  exact ⟨B,[],[],by simpa using s.fewer (fun p=>by have:=hf p;simp at this;exact this),hA,by simpa using hb,fun _ _ _=>rfl,[],by simp [WQ],by simp [RepVals]⟩
 | t::xs,B,μ,h,OH,O,vs,Ov,E,hw,s,hA,hb,hr,hf,hn=>by
  simp only [QS] at hw
  simp only [RepVals] at hr
  obtain ⟨v,ws,O1,O2,rfl,rfl,h1,h2⟩:=hr
  obtain ⟨B1,ν1,bs1,s1,hA1,hb1,hk1,y,hth,hy⟩:=Zqb t B μ h OH O v O1 (O2++E) hw.1 s hA hb h1 (fun p=>by have:=hf p;simp only [List.countP_append] at this ⊢;omega) (fun b hb=>hn b (Xm.2 (.inl hb)))
  have h2':RepVals B1 (μ++ν1) xs ws O2:=by
   refine RepVals.mono (fun _ _ _ h=>h) xs ws O2 (RepVals.own xs ws O2 hw.2 h2 fun b hb i=>hk1 b (fun h1=>ZnR s hf h1 hb) i)
  obtain ⟨B2,ν2,bs2,s2,hA2,hb2,hk2,ys,hths,hys⟩:=ZgF xs B1 (μ++ν1) (h++bs1) _ (O2++E) ws O2 E hw.2 s1 hA1 hb1 h2' (fun p=>by simp) (fun b hb=>hn b (Xm.2 (.inr hb)))
  refine ⟨B2,ν1++ν2,bs1++bs2,?_,hA2,?_,fun b hb i=>?_,y::ys,?_,?_⟩
  ·simpa [List.append_assoc,<- List.replicate_append_replicate] using s2
  ·simpa [List.append_assoc,<- List.replicate_append_replicate] using hb2
  ·rw [hk2 b (fun g=>hb (Xm.2 (.inr g))),hk1 b (fun g=>hb (Xm.2 (.inl g)))]
  ·simp only [WQ]
   exact ⟨y,bs1,ys,bs2,hth,by simpa using hths,rfl,rfl⟩
  ·simp only [RepVals]
   refine ⟨v,ws,[],[],rfl,rfl,?_,by rw [<- List.append_assoc];exact hys⟩
   have:=Rep.mono (ν:=ν2) (fun _ _ _ h=>h) y v [] hy
   rwa [List.append_assoc] at this
theorem Zqh:∀ (Qj:List (List LV)) (B:GM) (μ:List Nat) (h:List Box) (OH:List (List Own)) (O:List Own) (vs:List Value) (Ov E:List Own) (sz:Nat),(∀ r∈Qj,r.length=sz)->QL Qj->St' x w B μ h OH O->A1.Le B->ZdG w A1 μ h OH->RepVals B μ Qj.flatten vs Ov ->
  (∀ p:Own->Bool,Ov.countP p+E.countP p<=O.countP p)->(∀ b,K6 Ov b->New x A1 b) ->
  Zrt x w A1 B μ h OH Ov E fun bs ν=>∃ ys,Xn Qj sz h.length ys bs∧RepVals A1 (μ++ν) ys vs []
 | [],B,μ,h,OH,O,vs,Ov,E,sz,hl,hw,s,hA,hb,hr,hf,hn=>by
  simp only [List.flatten_nil,RepVals] at hr
  obtain ⟨rfl,rfl⟩:=hr
  exact ⟨B,[],[],by simpa using s.fewer (fun p=>by have:=hf p;simp at this;exact this),hA,by simpa using hb,fun _ _ _=>rfl,[],by simp [Xn],by simp [RepVals]⟩
 | row::Qj,B,μ,h,OH,O,vs,Ov,E,sz,hl,hw,s,hA,hb,hr,hf,hn=>by
  simp only [QL] at hw
  rw [List.flatten_cons] at hr
  obtain ⟨v1,v2,O1,O2,rfl,rfl,h1,h2⟩:=hr.split
  obtain ⟨B1,ν1,bs1,s1,hA1,hb1,hk1,y,hth,hy⟩:=ZgF row B μ h OH O v1 O1 (O2++E) hw.1 s hA hb h1 (fun p=>by have:=hf p;simp only [List.countP_append] at this ⊢;omega) (fun b hb=>hn b (Xm.2 (.inl hb)))
  have hwf:∀ Qj:List (List LV),QL Qj->QS Qj.flatten:=by
   intro Qj
   induction Qj with
   | nil=>intro _;simp [QS]
   | cons r rs ih =>
    intro h
    simp only [QL] at h
    rw [List.flatten_cons]
    have h3:=ih h.2
    clear ih
    have:∀ r:List LV,QS r->QS (r++rs.flatten):=by
     intro r
     induction r with
     | nil=>intro _;exact h3
     | cons a r ih=>intro h;simp only [QS] at h;exact ⟨h.1,ih h.2⟩
    exact this r h.1
  have h2':RepVals B1 (μ++ν1) Qj.flatten v2 O2:=by
   refine RepVals.mono (fun _ _ _ h=>h) _ v2 O2 (RepVals.own _ v2 O2 (hwf Qj hw.2) h2 fun b hb i=>hk1 b (fun h1=>ZnR s hf h1 hb) i)
  obtain ⟨B2,ν2,bs2,s2,hA2,hb2,hk2,ys,hths,hys⟩:=Zqh Qj B1 (μ++ν1) (h++bs1) _ (O2++E) v2 O2 E sz (fun r hr=>hl r (by simp [hr])) hw.2 s1 hA1 hb1 h2' (fun p=>by simp) (fun b hb=>hn b (Xm.2 (.inr hb)))
  refine ⟨B2,ν1++ν2,bs1++bs2,?_,hA2,?_,fun b hb i=>?_,y++ys,?_,?_⟩
  ·simpa [List.append_assoc,<- List.replicate_append_replicate] using s2
  ·simpa [List.append_assoc,<- List.replicate_append_replicate] using hb2
  ·rw [hk2 b (fun g=>hb (Xm.2 (.inr g))),hk1 b (fun g=>hb (Xm.2 (.inl g)))]
  ·simp only [Xn]
   exact ⟨y,bs1,ys,bs2,hl row (by simp),hth,by simpa using hths,rfl,rfl⟩
  ·have:=RepVals.mono (ν:=ν2) (fun _ _ _ h=>h) y v1 [] hy
   rw [List.append_assoc] at this
   have h3:=RepVals.app this (by rw [<- List.append_assoc];exact hys)
   simpa using h3
end
end
def Zgc (t:LV):Prop:=(match t with
 | .sc _=>True
 | .ptr _ _=>True
 | .ha _ _ _ _ _=>True
 | .dead=>True
 | _=>False)∨QB t
theorem Zgc.rep {A A1:GM} {μ:List Nat} {t:LV} {v:Value} {O:List Own} (hk:Zgc t) (hr:Rep A μ t v O) (h:∀ b,K6 O b->∀ i,A1 b i=A b i):Rep A1 μ t v O:=by
 rcases hk with hk | hk
 ·cases t<;>simp only at hk<;>simpa only [Rep] using hr
 ·exact Rep.own t v O hk hr h
theorem Zgc.vals {A A1:GM} {μ:List Nat}:∀ {xs:List LV} {vs:List Value} {O:List Own},(∀ c∈xs,Zgc c)->RepVals A μ xs vs O->(∀ b,K6 O b->∀ i,A1 b i=A b i)->RepVals A1 μ xs vs O
 | [],vs,O,_,h,_=>by simpa only [RepVals] using h
 | x::xs,vs,O,hk,h,ho=>by
  simp only [RepVals] at h ⊢
  obtain ⟨v,ws,O1,O2,rfl,rfl,h1,h2⟩:=h
  exact ⟨v,ws,O1,O2,rfl,rfl,(hk x (by simp)).rep h1 fun b hb=>ho b (Xm.2 (.inl hb)),Zgc.vals (fun c hc=>hk c (by simp [hc])) h2 fun b hb=>ho b (Xm.2 (.inr hb))⟩
noncomputable def wkB:Box->Box
 | some xs=>open Classical in if ∀ c∈xs,Zgc c then some xs else none
 | none=>none
noncomputable def wkO:List Box->List (List Own)->List (List Own)
 | b::h,o::OH=>(if (wkB b).isSome=true then o else [])::wkO h OH
 | _,_=>[]
theorem Zj4 {b:Box} {ys:List LV} (h:wkB b=some ys):b=some ys∧∀ c∈ys,Zgc c:=by
 cases b with
 | none=>simp [wkB] at h
 | some xs =>
  simp only [wkB] at h
  split at h
  ·rename_i hk
   simp only [Option.some.injEq] at h
   subst h;exact ⟨rfl,hk⟩
  ·simp at h
theorem wkB_keep {xs:List LV} (h:∀ c∈xs,Zgc c):wkB (some xs)=some xs:=by simp only [wkB];rw [if_pos h]
theorem Zgt:∀ {h:List Box} {OH:List (List Own)},OH.length=h.length->(wkO h OH).length=h.length
 | [],[],_=>rfl
 | [],_::_,h=>by simp at h
 | _::_,[],h=>by simp at h
 | b::h,o::OH,hl=>by simp only [wkO,List.length_cons];rw [Zgt (by simpa using hl)]
theorem ZsF:∀ {h:List Box} {OH:List (List Own)} {l:Nat} {ys:List LV},OH.length=h.length->(h.map wkB)[l]?=some (some ys)->(wkO h OH).getD l []=OH.getD l []
 | [],_,l,ys,_,h=>by simp at h
 | _::_,[],l,ys,h,_=>by simp at h
 | b::h,o::OH,0,ys,hl,hb=>by
  simp only [List.map_cons,List.getElem?_cons_zero,Option.some.injEq] at hb
  simp only [wkO,List.getD_cons_zero,hb,Option.isSome_some,if_true]
 | b::h,o::OH,l+1,ys,hl,hb=>by
  simp only [List.map_cons,List.getElem?_cons_succ] at hb
  simp only [wkO,List.getD_cons_succ]
  exact ZsF (by simpa using hl) hb
theorem Zso (p:Own->Bool):∀ {h:List Box} {OH:List (List Own)},(wkO h OH).flatten.countP p<=OH.flatten.countP p
 | [],OH=>by cases OH<;>simp [wkO]
 | _::_,[]=>by simp [wkO]
 | b::h,o::OH=>by
  have ih:=Zso p (h:=h) (OH:=OH)
  simp only [wkO,List.flatten_cons,List.countP_append]
  have:(if (wkB b).isSome=true then o else []).countP p<=o.countP p:=by
   split
   ·exact Nat.le_refl _
   ·exact Nat.zero_le _
  omega
section
variable {x:Cx} {w:World} {A:GM} {μ:List Nat} {h:List Box} {OH:List (List Own)} {O:List Own}
theorem Zpl {b:Nat} (hb:Kg μ (h.map wkB) b):Kg μ h b:=by
 obtain ⟨l,xs,hl,hm⟩:=hb
 rw [List.getElem?_map,Option.map_eq_some_iff] at hl
 obtain ⟨bx,h1,h2⟩:=hl
 obtain ⟨rfl,_⟩:=Zj4 h2
 exact ⟨l,xs,h1,hm⟩
theorem St'.wk (s:St' x w A μ h OH O):St' x w A μ (h.map wkB) (wkO h OH) O:=by
 have hl:=s.inv.lenO
 have back:∀ {l:Nat} {ys:List LV},(h.map wkB)[l]?=some (some ys)->h[l]?=some (some ys):=fun {l ys} hy=>by
  rw [List.getElem?_map,Option.map_eq_some_iff] at hy
  obtain ⟨bx,h1,h2⟩:=hy
  obtain ⟨rfl,_⟩:=Zj4 h2
  exact h1
 have few:Zi (O++(wkO h OH).flatten) (O++OH.flatten):=(Zi.refl O).app (fun p=>Zso p)
 refine ⟨⟨by simpa using s.inv.len,by simpa using Zgt hl,s.inv.cells,fun l ys hy=>?_,fun b hb=>s.inv.loose b (Zpl hb),fun l l' ys ys' h1 h2=>s.inv.apart l l' ys ys' (back h1) (back h2),fun b n c hm=>?_,fun b=>Nat.le_trans (few (XF b)) (s.inv.once b)⟩,
  { s.since with ownT:=fun b n c hm=>s.since.ownT b n c (few.mem hm),liveT:=fun b hb=>s.since.liveT b (Zpl hb) }⟩
 ·obtain ⟨c,e,g1,g2,g3⟩:=s.inv.box l ys (back hy)
  exact ⟨c,e,g1,by rw [ZsF hl hy];exact g2,g3⟩
 ·obtain ⟨g1,g2,g3⟩:=s.inv.own b n c (few.mem hm)
  exact ⟨g1,g2,fun hb=>g3 (Zpl hb)⟩
end
section
variable {x:Cx} {w:World} {A1 B:GM} {μ:List Nat} {h:List Box} {OH:List (List Own)} {O:List Own}
theorem St'.adoptO (s:St' x w B μ h OH O) (hA1:A1.Le B) (hbx:ZdG w A1 μ h OH) {b n c:Nat} (hm:(b,n,c)∈O) (hnew:x.w0.heap.size<=b) (hA0:∀ i,x.A0 b i=none) (hA1b:∀ i,A1 b i=none)
  {cs:Array Value} {e:TypeId} (hb:w.heap[b]?=some (.cells cs e (0,0))) (h1:∀ v∈cs.toList,v.oneCell'=true) (xs:List LV) (Ox:List Own) (hr:RepVals A1 μ xs cs.toList Ox)
  (O2:List Own) (hf:∀ p:Own->Bool,O2.countP p+Ox.countP p+(if p (b,n,c) then 1 else 0)<=O.countP p) :
  St' x w (B.cut b) (μ++[b]) (h++[some xs]) (OH++[Ox]) O2∧ZdG w A1 (μ++[b]) (h++[some xs]) (OH++[Ox])∧A1.Le (B.cut b):=by
 have hlen:=s.inv.len
 have hlenO:=s.inv.lenO
 have hmono:∀ xs vs O,RepVals A1 μ xs vs O->RepVals A1 (μ++[b]) xs vs O:=fun xs vs O=>RepVals.mono (fun _ _ _ h=>h) xs vs O
 have hfl:(OH++[Ox]).flatten=OH.flatten++Ox:=by simp
 have hnl:¬ Kg μ h b:=(s.inv.own b n c (List.mem_append.2 (.inl hm))).2.2
 have hfew:Zi (O2++(OH.flatten++Ox)) (O++OH.flatten):=fun p=>by have:=hf p;simp only [List.countP_append];omega
 have honce:(O2++(OH.flatten++Ox)).countP (XF b)=0:=by
  have h2:=s.inv.once b
  have h3:=hf (XF b)
  simp only [List.countP_append] at h2 ⊢
  have:(if XF b (b,n,c)=true then 1 else 0)=1:=by simp [XF]
  omega
 have hno:∀ m k,(b,m,k) ∉ O2++(OH.flatten++Ox):=fun m k hmk=>by
  have:=W4.1 ⟨m,k,hmk⟩
  omega
 have hmemO:∀ e,e∈O2++(OH.flatten++Ox)->e∈O++OH.flatten:=fun e he=>hfew.mem he
 have hA1c:A1.Le (B.cut b):=by
  intro b' i v hv
  unfold GM.cut
  split
  ·rename_i hb';rw [hb',hA1b i] at hv;simp at hv
  ·exact hA1 b' i v hv
 have hbx2:ZdG w A1 (μ++[b]) (h++[some xs]) (OH++[Ox]):=by
  intro l ys hl
  rcases Nat.lt_trichotomy l h.length with hlt | heq | hgt
  ·rw [List.getElem?_append_left hlt] at hl
   obtain ⟨c,e',g1,g2,g3⟩:=hbx l ys hl
   rw [Yi (by omega)]
   refine ⟨c,e',g1,?_,g3⟩
   rw [List.getD_eq_getElem?_getD,List.getElem?_append_left (by omega),<- List.getD_eq_getElem?_getD]
   exact hmono _ _ _ g2
  ·subst heq
   simp at hl
   subst hl
   refine ⟨cs,e,?_,?_,h1⟩
   ·rw [List.getD_eq_getElem?_getD,List.getElem?_append_right (by omega)]
    simp [hlen,hb]
   ·rw [List.getD_eq_getElem?_getD,List.getElem?_append_right (by omega)]
    simp [hlenO]
    exact hmono _ _ _ hr
  ·rw [List.getElem?_eq_none (by simp;omega)] at hl;simp at hl
 refine ⟨⟨⟨by simp [hlen],by simp [hlenO],fun b' i v hv=>s.inv.cells b' i v (GM.cut_some hv).1,?_,?_,?_,?_,?_⟩,⟨s.since.size,?_,?_,?_,?_,?_,s.since.still⟩⟩,hbx2,hA1c⟩
 ·intro l ys hl
  obtain ⟨c,e',g1,g2,g3⟩:=hbx2 l ys hl
  have:=RepVals.mono (ν:=[]) hA1c ys c.toList _ g2
  rw [List.append_nil] at this
  exact ⟨c,e',g1,this,g3⟩
 ·intro b' hb' i
  unfold GM.cut
  split
  ·rfl
  ·rename_i hne
   rcases Ve hlen hb' with hb' | ⟨h,_⟩
   ·exact s.inv.loose b' hb' i
   ·exact absurd h hne
 ·intro l l' ys ys' hl hl' heq
  have key:∀ k zs,(h++[some xs])[k]?=some (some zs)->(k < h.length∧h[k]?=some (some zs)∧(μ++[b]).getD k 0=μ.getD k 0∧μ.getD k 0≠b)∨(k=h.length∧(μ++[b]).getD k 0=b):=by
   intro k zs hk
   rcases Nat.lt_trichotomy k h.length with hlt | heq | hgt
   ·left
    rw [List.getElem?_append_left hlt] at hk
    exact ⟨hlt,hk,Yi (by omega),fun h=>hnl ⟨k,zs,hk,h⟩⟩
   ·right
    refine ⟨heq,?_⟩
    rw [List.getD_eq_getElem?_getD,List.getElem?_append_right (by omega)]
    simp [hlen,heq]
   ·rw [List.getElem?_eq_none (by simp;omega)] at hk;simp at hk
  rcases key l ys hl with ⟨a1,a2,a3,a4⟩ | ⟨a1,a2⟩<;>rcases key l' ys' hl' with ⟨b1,b2,b3,b4⟩ | ⟨b1,b2⟩
  ·rw [a3,b3] at heq;exact s.inv.apart l l' ys ys' a2 b2 heq
  ·rw [a3,b2] at heq;exact absurd heq a4
  ·rw [a2,b3] at heq;exact absurd heq.symm b4
  ·omega
 ·intro b' n c hm'
  rw [hfl] at hm'
  have hne:b'≠b:=fun h=>hno n c (h ▸ hm')
  obtain ⟨g1,g3,g4⟩:=s.inv.own b' n c (hmemO _ hm')
  refine ⟨g1,fun i hi=>by rw [GM.cut_other hne];exact g3 i hi,fun hl=>?_⟩
  rcases Ve hlen hl with hl | ⟨h,_⟩
  ·exact g4 hl
  ·exact hne h
 ·intro b';rw [hfl];exact Nat.le_trans (hfew (XF b')) (s.inv.once b')
 ·intro b' hb' ht
  obtain ⟨g1,g2⟩:=s.since.kept b' hb' ht
  refine ⟨g1,fun i=>?_⟩
  rw [GM.cut_other (by omega)]
  exact g2 i
 ·intro b' n c hm';rw [hfl] at hm';exact s.since.ownT b' n c (hmemO _ hm')
 ·intro b' hb'
  rcases Ve hlen hb' with hb' | ⟨rfl,_⟩
  ·exact s.since.liveT b' hb'
  ·exact .inl hnew
 ·intro b' i v hv
  unfold GM.cut
  split
  ·rename_i hb';rw [hb',hA0 i] at hv;simp at hv
  ·exact s.since.le b' i v hv
 ·obtain ⟨ν,hν⟩:=s.since.ext
  exact ⟨ν++[b],by rw [hν,List.append_assoc]⟩
end
theorem Zhp:∀ {Qj:List (List LV)},QL Qj->∀ c∈Qj.flatten,QB c
 | [],_,c,hc=>by simp at hc
 | r::Qj,h,c,hc=>by
  simp only [QL] at h
  simp only [List.flatten_cons,List.mem_append] at hc
  rcases hc with hc | hc
  ·exact all r h.1 c hc
  ·exact Zhp h.2 c hc
where
 all:∀ (xs:List LV),QS xs->∀ c∈xs,QB c
  | [],_,c,hc=>by simp at hc
  | x::xs,h,c,hc=>by
   simp only [QS] at h
   rcases List.mem_cons.1 hc with rfl | hc
   ·exact h.1
   ·exact all xs h.2 c hc
def Zni (ks:List Nat) (n:Nat) (t:Nat->LV):Nat->LV:=fun j=>if j < n then (if ks.contains j=true then t j else .dead) else t j
theorem thw_sim {x:Cx} {n:Nat} {s:St} {a:Act} {w:World} {ks:List Nat} {k o l p:Nat} {xs:List LV} {sz:Nat} {Qj:List (List LV)} (sim:Sim x n s a w) (hT:∀ b,¬ x.T0 b) (hA0:∀ b,x.w0.heap.size<=b->∀ i,x.A0 b i=none)
  (hk:k < n) (hs:s.t k=.ptr l p) (hl:s.h[l]?=some (some xs)) (ht:xs[p+o]?=some (.sl true false sz Qj)) (hne:Qj≠[]) (hrl:∀ r∈Qj,r.length=sz) (hw:QL Qj) (hkeep:∀ j,ks.contains j=true->Zgc (s.t j)) :
  ∃ cap slack,Qj.length<=cap∧Qj.length * sz+slack=cap * sz∧((∀ c∈xs,Zgc c)->Sim x n ⟨Zni ks n s.t,(((s.h.set l (some (splice xs (p+o) [.dead]))).map wkB)++[some (Qj.flatten++List.replicate slack LV.dead)]).set l (some (splice xs (p+o) [LV.ha s.h.length sz 0 Qj.length cap]))⟩ a w):=by
 obtain ⟨q,hpq⟩:∃ q,p+o=q:=⟨_,rfl⟩
 rw [hpq] at ht ⊢
 obtain ⟨A,μ,OH,Ot,htm,h0,hr,st⟩:=sim
 obtain ⟨c,e,hc,hxs,hone⟩:=st.inv.box l xs hl
 have hq:q < xs.length:=by
  rcases Nat.lt_or_ge q xs.length with g | g
  ·exact g
  ·rw [List.getElem?_eq_none g] at ht;simp at ht
 have hx1:(xs.drop q).take 1=[.sl true false sz Qj]:=by
  rw [List.getElem?_eq_getElem hq] at ht
  simp only [Option.some.injEq] at ht
  rw [List.drop_eq_getElem_cons hq,ht];simp
 obtain ⟨P1,P2,P3,hP,hp1,hpart,hp3⟩:=hxs.mid q 1 (by omega)
 rw [hx1] at hpart
 simp only [RepVals] at hpart
 obtain ⟨v,ws,Ov,Oe,hvs,rfl,hv,rfl,rfl⟩:=hpart
 rw [List.append_nil] at hP
 have hlen:=hxs.length
 have hsame:c.toList.take q++[v]++c.toList.drop (q+1)=c.toList:=by
  rw [<- hvs,List.append_assoc,<- List.drop_drop,List.take_append_drop,List.take_append_drop]
 have hO':RepVals A μ (splice xs q [.dead]) c.toList (P1++[]++P3):=by
  have:=RepVals.app (RepVals.app hp1 (show RepVals A μ [.dead] [v] [] by simp only [RepVals];exact ⟨v,[],[],[],rfl,rfl,by simp [Rep],rfl,rfl⟩)) hp3
  rw [hsame] at this
  exact this
 let Ot2:Nat->List Own:=fun j=>if ks.contains j=true then Ot j else []
 have few2:∀ m (f:Own->Bool),(XV m Ot2).countP f<=(XV m Ot).countP f:=by
  intro m f
  induction m with
  | zero=>simp [XV]
  | succ m ih =>
   rw [ZcG,ZcG,List.countP_append,List.countP_append]
   have:(Ot2 m).countP f<=(Ot m).countP f:=by
    show (if ks.contains m=true then Ot m else []).countP f<=_
    split
    ·exact Nat.le_refl _
    ·simp
   omega
 have st1:=st.setBox hl c e (splice xs q [.dead]) (P1++[]++P3) (Ov++XV n Ot2) hO' hone (fun f=>by
  have:=few2 n f
  rw [hP]
  simp only [List.countP_append,List.append_nil,List.countP_nil]
  omega)
 rw [YW hc] at st1
 have st2:=st1.wk
 have hlh:(s.h.set l (some (splice xs q [.dead]))).length=s.h.length:=by simp
 generalize hh1:(s.h.set l (some (splice xs q [.dead])))=h1 at *
 generalize hoh:OH.set l (P1++[]++P3)=OH1 at *
 have hlO:=st1.inv.lenO
 simp only [Rep] at hv
 rcases hv with ⟨h,_⟩ | ⟨_,b,off,sp,cap,O',rfl,hsp,hcap,hrow,hO⟩
 ·simp at h
 have hpos:0 < Qj.length:=List.length_pos_iff.2 hne
 have hsp:sp=none:=hsp.resolve_right (fun h=>hne h.1)
 subst hsp
 obtain ⟨hoff,hOe⟩:off=0∧Ov=(b,Qj.length * sz,cap * sz)::O':=by
  rcases hO with ⟨_,k1,k2⟩ | ⟨k1,_⟩
  ·exact ⟨k1,k2⟩
  ·rcases k1 with k1 | k1
   ·simp at k1
   ·omega
 subst hoff hOe
 obtain ⟨vs,q1,q2,q3,q4⟩:=hrow.vals
 have hbO:(b,Qj.length * sz,cap * sz)∈(b,Qj.length * sz,cap * sz)::O'++XV n Ot2:=by simp
 obtain ⟨⟨cs,e',hcs,hsz,hone'⟩,_,_⟩:=st2.inv.own _ _ _ (List.mem_append.2 (.inl hbO))
 have offT:∀ b',b'=b->¬ K6 (O'++(XV n Ot2++(wkO h1 OH1).flatten)) b':=fun b' hb' hb2=>by
  subst hb'
  have k2:=W4.1 hb2
  have k3:=st2.inv.once b'
  simp only [List.countP_append,List.countP_cons] at k2 k3
  have:XF b' (b',Qj.length * sz,cap * sz)=true:=by simp [XF]
  simp only [this,if_true] at k3
  omega
 have hbx:ZdG w (A.cut b) μ (h1.map wkB) (wkO h1 OH1):=by
  intro j ys hj
  obtain ⟨c',e',g1,g2,g3⟩:=st2.inv.box j ys hj
  refine ⟨c',e',g1,?_,g3⟩
  have hj2:=hj
  rw [List.getElem?_map,Option.map_eq_some_iff] at hj2
  obtain ⟨bx,q1,q2⟩:=hj2
  obtain ⟨_,hk2⟩:=Zj4 q2
  refine Zgc.vals hk2 g2 fun b' hb' i=>GM.cut_other (fun hov=>offT b' hov (Xm.2 (.inr (Xm.2 (.inr ?_))))) i
  obtain ⟨m,k',hm⟩:=hb'
  refine ⟨m,k',List.mem_flatten.2 ⟨_,?_,hm⟩⟩
  have hjl:j < (wkO h1 OH1).length:=by
   rw [Zgt hlO]
   rcases Nat.lt_or_ge j h1.length with g | g
   ·exact g
   ·rw [List.getElem?_eq_none (by simpa using g)] at hj;simp at hj
  rw [List.getD_eq_getElem?_getD,List.getElem?_eq_getElem hjl]
  exact List.getElem_mem _
 have hnew:x.w0.heap.size<=b:=by
  rcases st2.since.ownT b _ _ (List.mem_append.2 (.inl hbO)) with g | g
  ·exact g
  ·exact absurd g (hT b)
 have hcell:∀ (j:Nat) (u:Value),vs[j]?=some u->cs[j]?=some u:=by
  intro j u hj
  have:=st2.inv.cells _ _ _ (q4 j u hj).1
  rw [Xj hcs] at this
  simpa using this
 have hsplit:cs.toList=vs++cs.toList.drop vs.length:=by
  apply List.ext_getElem?
  intro j
  by_cases hj:j < vs.length
  ·rw [List.getElem?_append_left hj,List.getElem?_eq_getElem hj,<- hcell j _ (List.getElem?_eq_getElem hj)]
   simp
  ·rw [List.getElem?_append_right (by omega),List.getElem?_drop]
   congr 1;omega
 have q1':RepVals (A.cut b) μ Qj.flatten vs O':=Zgc.vals (fun z hz=>.inr (Zhp hw z hz)) q1 fun b' hb' i=>GM.cut_other (fun hov=>offT b' hov (Xm.2 (.inl hb'))) i
 obtain ⟨slack,hslack⟩:∃ slack,(cs.toList.drop vs.length).length=slack:=⟨_,rfl⟩
 have hcells:RepVals (A.cut b) μ (Qj.flatten++List.replicate slack .dead) cs.toList O':=by
  rw [hsplit,<- hslack]
  have:=RepVals.app q1' (RepVals.dead (A:=A.cut b) (μ:=μ) (cs.toList.drop vs.length))
  simpa [<- hsplit] using this
 have hcapsz:Qj.length * sz+slack=cap * sz:=by
  have l2:=q1.length
  have l3:=hsz
  have l4:=ZeR Qj q3
  simp only [List.length_drop,Array.length_toList] at hslack
  have hle:vs.length<=cs.size:=by
   rcases Nat.lt_or_ge cs.size vs.length with g | g
   ·have:=hcell cs.size _ (List.getElem?_eq_getElem g)
    simp at this
   ·exact g
  omega
 have hcutle:(A.cut b).Le A:=fun b' i u hu=>(GM.cut_some hu).1
 obtain ⟨st3,hbx3,hle⟩:=st2.adoptO hcutle hbx hbO hnew (hA0 b hnew) (fun i=>by unfold GM.cut;rw [if_pos rfl]) hcs hone' _ O' hcells (XV n Ot2) (fun f=>by simp only [List.countP_append,List.countP_cons];omega)
 obtain ⟨ν,hν⟩:∃ ν,ν=[b]:=⟨_,rfl⟩
 rw [<- hν] at st3 hbx3
 obtain ⟨bs,hbs⟩:∃ bs,bs=[some (Qj.flatten++List.replicate slack LV.dead)]:=⟨_,rfl⟩
 rw [<- hbs] at st3 hbx3
 obtain ⟨B,hB⟩:∃ B,B=A.cut b:=⟨_,rfl⟩
 rw [<- hB] at st3 hle
 have hmlen:(h1.map wkB).length=s.h.length:=by simpa using hlh
 refine ⟨cap,slack,hcap,hcapsz,fun hxk=>?_⟩
 rw [<- hbs]
 obtain ⟨y,hy0⟩:∃ y,y=LV.ha s.h.length sz 0 Qj.length cap:=⟨_,rfl⟩
 rw [<- hy0]
 have hll:l < s.h.length:=by
  rcases Nat.lt_or_ge l s.h.length with g | g
  ·exact g
  ·rw [List.getElem?_eq_none g] at hl;simp at hl
 have hdk:∀ c∈splice xs q [.dead],Zgc c:=by
  intro z hz
  unfold splice at hz
  simp only [List.mem_append,List.mem_singleton] at hz
  rcases hz with (hz | rfl) | hz
  ·exact hxk z (List.mem_of_mem_take hz)
  ·exact .inl trivial
  ·exact hxk z (List.mem_of_mem_drop hz)
 have hl3:(h1.map wkB++bs)[l]?=some (some (splice xs q [.dead])):=by
  rw [List.getElem?_append_left (by omega),List.getElem?_map,<- hh1,List.getElem?_set_self hll]
  simp only [Option.map_some,wkB_keep hdk]
 obtain ⟨c3,e3,g1,g2,g3⟩:=st3.inv.box l _ hl3
 have hgm:(μ++ν).getD l 0=μ.getD l 0:=Yi (by have:=st.inv.len;omega)
 rw [hgm,hc] at g1
 simp only [Option.some.injEq,Obj.cells.injEq] at g1
 obtain ⟨rfl,rfl,_⟩:=g1
 obtain ⟨Q1,Q2,Q3,hQ,r1,r2,r3⟩:=g2.mid q 1 (by simp [splice];omega)
 have hq2:((splice xs q [.dead]).take q)=xs.take q:=by unfold splice;rw [List.append_assoc,List.take_left' (by simp;omega)]
 have hq3:((splice xs q [.dead]).drop (q+1))=xs.drop (q+1):=by
  unfold splice
  rw [List.drop_left' (by simp;omega)];rfl
 rw [hq2] at r1
 rw [hq3] at r3
 have hml:=st.inv.len
 have hyB:Rep B (μ++ν) y (.slice (some ⟨b,0,none⟩) Qj.length cap) []:=by
  rw [hy0,hν]
  simp only [Rep]
  refine ⟨trivial,by simp;omega,?_⟩
  rw [List.getD_eq_getElem?_getD,List.getElem?_append_right (by omega)]
  simp [hml]
 have hfin:RepVals B (μ++ν) (splice xs q [y]) c.toList (Q1++[]++Q3):=by
  have:=RepVals.app (RepVals.app r1 (show RepVals B (μ++ν) [y] [.slice (some ⟨b,0,none⟩) Qj.length cap] [] by simp only [RepVals];exact ⟨_,[],[],[],rfl,rfl,hyB,rfl,rfl⟩)) r3
  rw [hsame] at this
  exact this
 have st4:=st3.setBox hl3 c e (splice xs q [y]) (Q1++[]++Q3) (XV n Ot2) hfin g3 (fun f=>by
  rw [hQ];simp only [List.countP_append,List.countP_nil];omega)
 rw [YW (by rw [hgm];exact hc)] at st4
 refine ⟨B,μ++ν,_,Ot2,htm,h0,fun j hj=>?_,st4⟩
 show Rep B (μ++ν) (Zni ks n s.t j) _ (if ks.contains j=true then Ot j else [])
 simp only [Zni,hj,if_true]
 by_cases hjk:ks.contains j=true
 ·rw [if_pos hjk,if_pos hjk]
  have hrj:=hr j hj
  have:=(hkeep j hjk).rep (A1:=B) hrj fun b' hb' i=>by
   rw [hB]
   exact GM.cut_other (fun hov=>offT b' hov (Xm.2 (.inr (Xm.2 (.inl (by
    obtain ⟨m,k',hm⟩:=hb'
    exact ⟨m,k',mem_allO.2 ⟨j,hj,by show _∈(if ks.contains j=true then Ot j else []);rw [if_pos hjk];exact hm⟩⟩)))))) i
  exact Rep.mono (fun _ _ _ h=>h) _ _ _ this
 ·rw [if_neg hjk,if_neg hjk]
  simp [Rep]
inductive C where
 | skip
 | reg (gs:List GI)
 | par (its:List (It GI))
 | frz (k:Nat)
 | thw (ks:List Nat) (n k o:Nat)
 | seq (a b:C)
 | cond (x:X) (a b:C)
 | block (id:Nat) (b:C)
 | loop (b:C)
 | exit (id:Nat)
 | ret
 deriving Inhabited
def Exit.flow:Exit->Bool
 | .normal=>true
 | .exit _=>true
 | .ret=>true
 | _=>false
def Yu (next:St->Prop) (Q:Exit->St->Prop):Exit->St->Prop
 | .normal,s=>next s
 | e,s=>Q e s
def YP (id:Nat) (Q:Exit->St->Prop):Exit->St->Prop
 | .exit id',s=>if id'=id then Q .normal s else Q (.exit id') s
 | e,s=>Q e s
def Zhy (k:Nat) (s:St):Option St:=match s.t k with
 | .rp _=>some s
 | .sl _ _ _ _=>some s
 | _=>step (.mv k .frz (.t k)) s
theorem Ziy {x:Cx} {n k:Nat} {s s':St} {a:Act} {w:World} (hk:k < n) (hs:Zhy k s=some s') (sim:Sim x n s a w):Sim x n s' a w:=by
 unfold Zhy at hs
 split at hs
 ·simp only [Option.some.injEq] at hs;subst hs;exact sim
 ·simp only [Option.some.injEq] at hs;subst hs;exact sim
 ·exact Zto hk hs sim
theorem ZmD {k:Nat} {s s':St} (h:Zhy k s=some s'):∀ j,j≠k->s'.t j=s.t j:=by
 unfold Zhy at h
 split at h
 ·simp only [Option.some.injEq] at h;subst h;exact fun _ _=>rfl
 ·simp only [Option.some.injEq] at h;subst h;exact fun _ _=>rfl
 ·exact fun j hj=>(ZcY _ s s' h).1 j (by simpa [I.writes,I.dst,I.gives,QZ] using hj)
def C.thws:C->Bool
 | .thw _ _ _ _=>true
 | .seq a b=>a.thws || b.thws
 | .cond _ a b=>a.thws || b.thws
 | .block _ b=>b.thws
 | .loop b=>b.thws
 | _=>false
def wpC (P:Program):C->(Exit->St->Prop)->St->Prop
 | .skip,Q,s=>Q .normal s
 | .reg gs,Q,s=>wpL P gs (Q .normal) s
 | .par its,Q,s=>Y5 P its (Q .normal) s
 | .frz k,Q,s=>∃ s',Zhy k s=some s'∧Q .normal s'
 | .thw ks n k o,Q,s=>∃ l p xs sz Qj,s.t k=.ptr l p∧s.h[l]?=some (some xs)∧xs[p+o]?=some (.sl true false sz Qj)∧Qj≠[]∧(∀ r∈Qj,r.length=sz)∧QL Qj∧(∀ c∈xs,Zgc c)∧(∀ j,ks.contains j=true->Zgc (s.t j)) ∧
   ∀ cap slack,Qj.length<=cap->Qj.length * sz+slack=cap * sz->Q .normal ⟨Zni ks n s.t,(((s.h.set l (some (splice xs (p+o) [.dead]))).map wkB)++[some (Qj.flatten++List.replicate slack LV.dead)]).set l (some (splice xs (p+o) [.ha s.h.length sz 0 Qj.length cap]))⟩
 | .seq a b,Q,s=>wpC P a (Yu (wpC P b Q) Q) s
 | .cond x a b,Q,s=>∃ v,Zd7 (get s.t x)=some v∧(v=true->wpC P a Q s)∧(v=false->wpC P b Q s)
 | .block id b,Q,s=>wpC P b (YP id Q) s
 | .loop b,Q,s=>∃ (I:Nat->St->Prop) (k:Nat),I k s∧∀ k s,I k s->wpC P b (Yu (fun s'=>∃ k' < k,I k' s') Q) s
 | .exit id,Q,s=>Q (.exit id) s
 | .ret,Q,s=>Q .ret s
section
variable (P:Program) (n:Nat) (md:Nat->List Md)
def frzs:List Md->Nat->C->Option C
 | [],_,c=>some c
 | .frz::ms,k,c=>if k < n then (frzs ms (k+1) c).map fun r=>.seq (.frz k) r else none
 | _::ms,k,c=>frzs ms (k+1) c
def Zfl:List Md->Nat->C->Option C
 | [],_,c=>some c
 | .frz::ms,k,c=>if k < n then Zfl ms (k+1) (.seq c (.frz k)) else none
 | _::ms,k,c=>Zfl ms (k+1) c
def Zq3:List Md->Nat->List Nat
 | [],_=>[]
 | .take::ms,k=>k::Zq3 ms (k+1)
 | _::ms,k=>Zq3 ms (k+1)
def Zhv (keep:List Nat):List Md->Nat->C->Option C
 | [],_,c=>some c
 | .part o::_,k,c=>if k < n then some (.seq (.thw keep n k o) c) else none
 | _::ms,k,c=>Zhv keep ms (k+1) c
def cC:Code->Option C
 | .skip=>some .skip
 | .label _=>some .skip
 | .region id ops draw=>(Zgq P n ops ops.toList (md id)).bind fun gs =>
   (if draw=true then (if ZgZ ops gs=true then some (.reg gs) else if ZoB ops gs=true then some (.par ((KX (Wm 0 gs) []).map It.gi)) else if ZrC ops gs=true then some (.par ((Zrz ops gs).map It.gi)) else none) else some (.reg gs)).bind fun c=>(Zfl n (md (2000000+id)) 0 c).bind fun c=>(frzs n (md (1000000+id)) 0 c).bind fun c=>Zhv n (Zq3 (md (4000000+id)) 0) (md (3000000+id)) 0 c
 | .seq a b=>(cC a).bind fun x=>(cC b).map fun y=>.seq x y
 | .cond c a b=>(cX P n 0 c).bind fun z=>(cC a).bind fun x=>(cC b).map fun y=>.cond z x y
 | .block id b=>(cC b).map fun x=>.block id x
 | .loop b=>(cC b).map fun x=>.loop x
 | .scope b=>cC b
 | .exit id=>some (.exit id)
 | .ret=>some .ret
 | _=>none
end
section
variable {P:Program} {x:Cx} {n:Nat} {md:Nat->List Md}
def QR (x:Cx) (n:Nat) (Q:Exit->St->Prop):Exit->Act->World->Prop:=fun e a w=>Exit.flow e=true∧∃ s,Sim x n s a w∧Q e s
theorem Zqd {c:Code} {Q:Exit->Act->World->Prop} (I:Nat->Act->World->Prop) (round:∀ k a w,I k a w->c.wp P (Exit.then (fun a' w'=>∃ k' < k,I k' a' w') Q) a w) :
  ∀ (k:Nat) (a:Act) (w:World),I k a w->(Code.loop c).wp P Q a w:=by
 intro k a w h b kk cs
 have key:∀ k a w,I k a w->∃ e a' w',Q e a' w'∧Arrives P (lone (b.at a (.code c::.inLoop c::kk)) cs w) b kk cs e a' w':=by
  intro k
  induction k using Nat.strongRecOn with
  | _ k ih =>
   intro a w hI
   obtain ⟨e,a₁,w₁,hq,harr⟩:=round k a w hI b (.inLoop c::kk) cs
   cases e with
   | normal =>
    obtain ⟨k',hlt,hI₁⟩:=hq
    obtain ⟨e₂,a₂,w₂,hq₂,harr₂⟩:=ih k' hlt a₁ w₁ hI₁
    exact ⟨e₂,a₂,w₂,hq₂,.of_steps (Steps.trans harr (.one step_inLoop)) harr₂⟩
   | exit id=>exact ⟨_,a₁,w₁,hq,.pass (x:=.inLoop c) rfl (fun _ _=>.inl (by simp)) harr⟩
   | goto l=>exact ⟨_,a₁,w₁,hq,.pass (x:=.inLoop c) rfl (fun _ _=>.inl (by simp)) harr⟩
   | ret=>exact ⟨_,a₁,w₁,hq,.pass (x:=.inLoop c) rfl (fun _ _=>.inl (by simp)) harr⟩
   | panic ch=>exact ⟨_,a₁,w₁,hq,.pass (x:=.inLoop c) rfl (fun _ _=>.inl (by simp)) harr⟩
   | outgrown=>exact ⟨_,a₁,w₁,hq,.pass (x:=.inLoop c) rfl (fun _ _=>.inl (by simp)) harr⟩
 obtain ⟨e,a',w',hq,harr⟩:=key k a w h
 exact ⟨e,a',w',hq,.of_steps (.one step_loop) harr⟩
theorem Zsz {next:St->Prop} {R:Act->World->Prop} {Q:Exit->St->Prop} (h:∀ a w s,Sim x n s a w->next s->R a w) (e:Exit) (a:Act) (w:World)
  (hq:QR x n (Yu next Q) e a w):Exit.then R (QR x n Q) e a w:=by
 obtain ⟨hf,s,hs,hk⟩:=hq
 cases e with
 | normal=>exact h a w s hs hk
 | exit id=>exact ⟨rfl,s,hs,hk⟩
 | ret=>exact ⟨rfl,s,hs,hk⟩
 | _=>simp [Exit.flow] at hf
theorem Vs {code:Code}:∀ (ms:List Md) (j:Nat) (c k:C) (Q:Exit->St->Prop) (s:St) (a:Act) (w:World),frzs n ms j c=some k->wpC P k Q s->Sim x n s a w ->
  (∀ s a w,wpC P c Q s->Sim x n s a w->code.wp P (QR x n Q) a w)->code.wp P (QR x n Q) a w
 | [],j,c,k,Q,s,a,w,hz,hw,sim,hk=>by
  simp only [frzs,Option.some.injEq] at hz
  subst hz
  exact hk s a w hw sim
 | .frz::ms,j,c,k,Q,s,a,w,hz,hw,sim,hk=>by
  simp only [frzs] at hz
  split at hz
  ·rename_i hj
   simp only [Option.map_eq_some_iff] at hz
   obtain ⟨r,hr,rfl⟩:=hz
   obtain ⟨s',h1,h2⟩:=hw
   exact Vs ms (j+1) c r Q s' a w hr h2 (Ziy hj h1 sim) hk
  ·simp at hz
 | .copy::ms,j,c,k,Q,s,a,w,hz,hw,sim,hk=>Vs ms (j+1) c k Q s a w (by simpa [frzs] using hz) hw sim hk
 | .take::ms,j,c,k,Q,s,a,w,hz,hw,sim,hk=>Vs ms (j+1) c k Q s a w (by simpa [frzs] using hz) hw sim hk
 | .own::ms,j,c,k,Q,s,a,w,hz,hw,sim,hk=>Vs ms (j+1) c k Q s a w (by simpa [frzs] using hz) hw sim hk
 | .part _::ms,j,c,k,Q,s,a,w,hz,hw,sim,hk=>Vs ms (j+1) c k Q s a w (by simpa [frzs] using hz) hw sim hk
theorem KK {code:Code}:∀ (ms:List Md) (j:Nat) (c k:C) (Q:Exit->St->Prop) (s:St) (a:Act) (w:World),Zfl n ms j c=some k->wpC P k Q s->Sim x n s a w ->
  (∀ Q s a w,wpC P c Q s->Sim x n s a w->code.wp P (QR x n Q) a w)->code.wp P (QR x n Q) a w
 | [],j,c,k,Q,s,a,w,hz,hw,sim,hk=>by
  simp only [Zfl,Option.some.injEq] at hz
  subst hz
  exact hk Q s a w hw sim
 | .frz::ms,j,c,k,Q,s,a,w,hz,hw,sim,hk=>by
  simp only [Zfl] at hz
  split at hz
  ·rename_i hj
   refine KK ms (j+1) _ k Q s a w hz hw sim fun Q s a w hw sim=>?_
   refine wp_mono (hk _ s a w hw sim) fun e a' w' he=>?_
   obtain ⟨hf,s1,hs1,hq⟩:=he
   cases e with
   | normal =>
    obtain ⟨s2,h1,h2⟩:=hq
    exact ⟨rfl,s2,Ziy hj h1 hs1,h2⟩
   | exit id=>exact ⟨rfl,s1,hs1,hq⟩
   | ret=>exact ⟨rfl,s1,hs1,hq⟩
   | _=>simp [Exit.flow] at hf
  ·simp at hz
 | .copy::ms,j,c,k,Q,s,a,w,hz,hw,sim,hk=>KK ms (j+1) c k Q s a w (by simpa [Zfl] using hz) hw sim hk
 | .take::ms,j,c,k,Q,s,a,w,hz,hw,sim,hk=>KK ms (j+1) c k Q s a w (by simpa [Zfl] using hz) hw sim hk
 | .own::ms,j,c,k,Q,s,a,w,hz,hw,sim,hk=>KK ms (j+1) c k Q s a w (by simpa [Zfl] using hz) hw sim hk
 | .part _::ms,j,c,k,Q,s,a,w,hz,hw,sim,hk=>KK ms (j+1) c k Q s a w (by simpa [Zfl] using hz) hw sim hk
def Fresh (x:Cx):Prop:=(∀ b,¬ x.T0 b)∧∀ b,x.w0.heap.size<=b->∀ i,x.A0 b i=none
theorem V2 {code:Code} {keep:List Nat}:∀ (ms:List Md) (j:Nat) (c k:C) (Q:Exit->St->Prop) (s:St) (a:Act) (w:World),Zhv n keep ms j c=some k->(k.thws=true->Fresh x)->wpC P k Q s->Sim x n s a w ->
  (∀ s a w,(c.thws=true->Fresh x)->wpC P c Q s->Sim x n s a w->code.wp P (QR x n Q) a w)->code.wp P (QR x n Q) a w
 | [],j,c,k,Q,s,a,w,hz,hx,hw,sim,hk=>by
  simp only [Zhv,Option.some.injEq] at hz
  subst hz
  exact hk s a w hx hw sim
 | .part o::ms,j,c,k,Q,s,a,w,hz,hx,hw,sim,hk=>by
  simp only [Zhv] at hz
  split at hz
  ·rename_i hj
   simp only [Option.some.injEq] at hz
   subst hz
   obtain ⟨l,p,xs,sz,Qj,h1,h2,h3,h4a,h4b,h4,h5,h6,h7⟩:=hw
   obtain ⟨f1,f2⟩:=hx (by simp [C.thws])
   obtain ⟨cap,slack,g0,g1,g2⟩:=thw_sim sim f1 f2 hj h1 h2 h3 h4a h4b h4 h6
   exact hk _ a w (fun _=>⟨f1,f2⟩) (h7 cap slack g0 g1) (g2 h5)
  ·simp at hz
 | .copy::ms,j,c,k,Q,s,a,w,hz,hx,hw,sim,hk=>V2 ms (j+1) c k Q s a w (by simpa only [Zhv] using hz) hx hw sim hk
 | .take::ms,j,c,k,Q,s,a,w,hz,hx,hw,sim,hk=>V2 ms (j+1) c k Q s a w (by simpa only [Zhv] using hz) hx hw sim hk
 | .frz::ms,j,c,k,Q,s,a,w,hz,hx,hw,sim,hk=>V2 ms (j+1) c k Q s a w (by simpa only [Zhv] using hz) hx hw sim hk
 | .own::ms,j,c,k,Q,s,a,w,hz,hx,hw,sim,hk=>V2 ms (j+1) c k Q s a w (by simpa only [Zhv] using hz) hx hw sim hk
theorem Z8 (hm:P.follows .mixedOrders=true):∀ (c:Code) (k:C) (Q:Exit->St->Prop) (s:St) (a:Act) (w:World),(k.thws=true->Fresh x)->cC P n md c=some k->wpC P k Q s->Sim x n s a w->c.wp P (QR x n Q) a w
 | .skip,k,Q,s,a,w,hx,hc,hw,sim=>by
  simp only [cC,Option.some.injEq] at hc
  subst hc
  exact wp_skip ⟨rfl,s,sim,hw⟩
 | .label l,k,Q,s,a,w,hx,hc,hw,sim=>by
  simp only [cC,Option.some.injEq] at hc
  subst hc
  exact wp_label ⟨rfl,s,sim,hw⟩
 | .region id ops draw,k,Q,s,a,w,hx,hc,hw,sim=>by
  simp only [cC,Option.bind_eq_some_iff] at hc
  obtain ⟨gs,hgs,c,hc,c2,hz2,c3,hz,hz3⟩:=hc
  refine V2 (md (3000000+id)) 0 c3 k Q s a w hz3 hx hw sim fun s a w _ hw sim=>?_
  refine Vs (md (1000000+id)) 0 c2 c3 Q s a w hz hw sim fun s a w hw sim=>?_
  refine KK (md (2000000+id)) 0 c c2 Q s a w hz2 hw sim fun Q s a w hw sim=>?_
  cases draw with
  | true =>
   rw [if_pos rfl] at hc
   split at hc
   ·rename_i hok
    simp only [Option.some.injEq] at hc
    subst hc
    exact Zrx hm hgs hok hw sim fun s' a' w' hs hk=>⟨rfl,s',hs,hk⟩
   ·split at hc
    ·rename_i hok
     simp only [Option.some.injEq] at hc
     subst hc
     exact Zpj hm hgs hok hw sim fun s' a' w' hs hk=>⟨rfl,s',hs,hk⟩
    ·split at hc
     ·rename_i hok
      simp only [Option.some.injEq] at hc
      subst hc
      exact Zqm hm hgs hok hw sim fun s' a' w' hs hk=>⟨rfl,s',hs,hk⟩
     ·simp at hc
  | false =>
   rw [if_neg (by simp)] at hc
   simp only [Option.some.injEq] at hc
   subst hc
   exact Zpm hgs hw sim fun s' a' w' hs hk=>⟨rfl,s',hs,hk⟩
 | .seq c d,k,Q,s,a,w,hx,hc,hw,sim=>by
  simp only [cC,Option.bind_eq_some_iff,Option.map_eq_some_iff] at hc
  obtain ⟨p,hp,q,hq,rfl⟩:=hc
  exact wp_seq (wp_mono (Z8 hm c p _ s a w (fun h=>hx (by simp [C.thws,h])) hp hw sim) (Zsz fun a' w' s' hs hk=>Z8 hm d q Q s' a' w' (fun h=>hx (by simp [C.thws,h])) hq hk hs))
 | .cond z c d,k,Q,s,a,w,hx,hc,hw,sim=>by
  simp only [cC,Option.bind_eq_some_iff,Option.map_eq_some_iff] at hc
  obtain ⟨y,hy,p,hp,q,hq,rfl⟩:=hc
  obtain ⟨v,hv,h1,h2⟩:=hw
  have sim':=sim
  obtain ⟨A,μ,OH,Ot,ht,h0,hr,st⟩:=sim
  refine wp_cond_split (ZrN hv (QY (W8 hy) hr)) (fun e=>Z8 hm c p Q s a w (fun h=>hx (by simp [C.thws,h])) hp (h1 e) sim') (fun e=>Z8 hm d q Q s a w (fun h=>hx (by simp [C.thws,h])) hq (h2 e) sim')
 | .block id c,k,Q,s,a,w,hx,hc,hw,sim=>by
  simp only [cC,Option.map_eq_some_iff] at hc
  obtain ⟨p,hp,rfl⟩:=hc
  refine wp_block (wp_mono (Z8 hm c p _ s a w (fun h=>hx (by simp [C.thws,h])) hp hw sim) fun e a' w' he=>?_)
  obtain ⟨hf,s',hs,hk⟩:=he
  cases e with
  | normal=>exact ⟨rfl,s',hs,hk⟩
  | ret=>exact ⟨rfl,s',hs,hk⟩
  | exit id' =>
   simp only [YP] at hk
   simp only [Exit.inBlock]
   by_cases hid:id'=id
   ·rw [if_pos hid] at hk ⊢;exact ⟨rfl,s',hs,hk⟩
   ·rw [if_neg hid] at hk ⊢;exact ⟨rfl,s',hs,hk⟩
  | _=>simp [Exit.flow] at hf
 | .loop c,k,Q,s,a,w,hx,hc,hw,sim=>by
  simp only [cC,Option.map_eq_some_iff] at hc
  obtain ⟨p,hp,rfl⟩:=hc
  obtain ⟨I,k0,h0,hround⟩:=hw
  refine Zqd (fun k a w=>∃ s,Sim x n s a w∧I k s) (fun k a w hI=>?_) k0 a w ⟨s,sim,h0⟩
  obtain ⟨s',hs,hk⟩:=hI
  exact wp_mono (Z8 hm c p _ s' a w (fun h=>hx (by simp [C.thws,h])) hp (hround k s' hk) hs) (Zsz fun a' w' s2 hs2 hk2=>by
   obtain ⟨k',hlt,hk'⟩:=hk2
   exact ⟨k',hlt,s2,hs2,hk'⟩)
 | .scope c,k,Q,s,a,w,hx,hc,hw,sim=>by
  simp only [cC] at hc
  refine wp_scope_straight (wp_mono (Z8 hm c k Q s a w hx hc hw sim) fun e a' w' he=>?_)
  obtain ⟨hf,s',hs,hk⟩:=he
  cases e with
  | goto l=>simp [Exit.flow] at hf
  | _=>exact ⟨hf,s',hs,hk⟩
 | .exit id,k,Q,s,a,w,hx,hc,hw,sim=>by
  simp only [cC,Option.some.injEq] at hc
  subst hc
  exact wp_exit ⟨rfl,s,sim,hw⟩
 | .ret,k,Q,s,a,w,hx,hc,hw,sim=>by
  simp only [cC,Option.some.injEq] at hc
  subst hc
  exact wp_ret ⟨rfl,s,sim,hw⟩
 | .rangeFunc _ _ _ _,k,Q,s,a,w,hx,hc,hw,sim=>by simp [cC] at hc
 | .goto _,k,Q,s,a,w,hx,hc,hw,sim=>by simp [cC] at hc
 | .refuse _,k,Q,s,a,w,hx,hc,hw,sim=>by simp [cC] at hc
end
inductive RV where
 | tmp (t:Nat)
 | cell (t:Nat) (agg:Bool) (sz:Nat)
def Zg9 (s:St):RV->Option (LV×St)
 | .tmp t=>some (s.t t,{ s with t:=upd s.t t (share (s.t t)) })
 | .cell t agg sz=>match s.t t with
  | .ptr l 0=>match s.h[l]? with
   | some (some xs)=>if sz=xs.length then match Wp agg xs with
    | some v=>some (v,{ s with h:=s.h.set l (some (shareAll xs)) })
    | none=>none
    else none
   | _=>none
  | _=>none
def Ys (s:St):List RV->Option (List LV×St)
 | []=>some ([],s)
 | r::rs=>match Zg9 s r with
  | some (v,s')=>match Ys s' rs with
   | some (vs,s'')=>some (v::vs,s'')
   | none=>none
  | none=>none
def ZdR:List LV->LV
 | [v]=>v
 | vs=>.tup vs
section
variable (P:Program) (n:Nat)
def rvOf:List ResultVar->Option (List RV)
 | []=>some []
 | .tmp t::rs=>if t < n then (rvOf rs).map fun l=>.tmp t::l else none
 | .cell t ty::rs=>if t < n then (Zba P ty).bind fun a=>(sz? P ty).bind fun s=>(rvOf rs).map fun l=>.cell t a s::l else none
end
section
variable {P:Program} {x:Cx} {n:Nat}
def Zh9 (tmps:Array Value):ResultVar->Sem Value
 | .tmp t=>pure (tmps.getD t undef)
 | .cell a t=>do loadVar t (<- asAddr (tmps.getD a undef))
theorem Zc0 {a:Act} {w:World} {A:GM} {μ:List Nat}:∀ (rs:List ResultVar) (rvs:List RV) (s s':St) (vs:List LV) (OH:List (List Own)) (Ot:Nat->List Own),rvOf P n rs=some rvs->Ys s rvs=some (vs,s') ->
  (∀ i,i < n->Rep A μ (s.t i) (a.tmps.getD i undef) (Ot i))->∀ (O E:List Own),St' x w A μ s.h OH O->(∀ p:Own->Bool,(XV n Ot).countP p+E.countP p<=O.countP p) ->
  ∃ vals OH' Ov O',(rs.mapM (Zh9 a.tmps)).run P w=.ok vals w∧RepVals A μ vs vals Ov∧St' x w A μ s'.h OH' O'∧(∀ p:Own->Bool,Ov.countP p+E.countP p<=O'.countP p)
 | [],rvs,s,s',vs,OH,Ot,h1,h2,hr,O,E,st,hf=>by
  simp only [rvOf,Option.some.injEq] at h1
  subst h1
  simp only [Ys,Option.some.injEq,Prod.mk.injEq] at h2
  obtain ⟨rfl,rfl⟩:=h2
  exact ⟨[],OH,[],O,by simp,by simp [RepVals],st,fun p=>by have:=hf p;simp;omega⟩
 | .tmp t::rs,rvs,s,s',vs,OH,Ot,h1,h2,hr,O,E,st,hf=>by
  simp only [rvOf] at h1
  split at h1
  ·rename_i ht
   simp only [Option.map_eq_some_iff] at h1
   obtain ⟨l,hl,rfl⟩:=h1
   simp only [Ys,Zg9] at h2
   split at h2
   ·rename_i vs2 s2 hrest
    simp only [Option.some.injEq,Prod.mk.injEq] at h2
    obtain ⟨rfl,rfl⟩:=h2
    obtain ⟨vals,OH',Ov,O',g1,g2,g3,g4⟩:=Zc0 rs l { s with t:=upd s.t t (share (s.t t)) } s2 vs2 OH (upd Ot t []) hl hrest (fun i hi=>by
     by_cases e:i=t
     ·subst e;simp only [QO];exact Rep.share _ _ _ (hr i hi)
     ·simp only [Ws _ _ _ e];exact hr i hi) O (Ot t++E) st (fun p=>by
     have k1:=Xe p Ot t [] n ht
     have k2:=hf p
     simp only [List.countP_append,List.countP_nil] at k1 ⊢
     omega)
    refine ⟨a.tmps.getD t undef::vals,OH',Ot t++Ov,O',?_,?_,g3,fun p=>?_⟩
    ·simp only [List.mapM_cons,Zh9,pure_bind,Sem.run_bind,g1];rfl
    ·simp only [RepVals];exact ⟨_,vals,Ot t,Ov,rfl,rfl,hr t ht,g2⟩
    ·have:=g4 p
     simp only [List.countP_append] at this ⊢
     omega
   ·simp at h2
  ·simp at h1
 | .cell t ty::rs,rvs,s,s',vs,OH,Ot,h1,h2,hr,O,E,st,hf=>by
  simp only [rvOf] at h1
  split at h1
  ·rename_i ht
   simp only [Option.bind_eq_some_iff,Option.map_eq_some_iff] at h1
   obtain ⟨agg,hagg,sz,hsz,l,hl,rfl⟩:=h1
   simp only [Ys,Zg9] at h2
   split at h2
   ·rename_i v s1 hv
    split at hv
    ·rename_i lb hptr
     split at hv
     ·rename_i xs hxs
      split at hv
      ·rename_i hlen
       split at hv
       ·rename_i v' hof
        simp only [Option.some.injEq,Prod.mk.injEq] at hv
        obtain ⟨rfl,rfl⟩:=hv
        split at h2
        ·rename_i vs2 s2 hrest
         simp only [Option.some.injEq,Prod.mk.injEq] at h2
         obtain ⟨rfl,rfl⟩:=h2
         have hp:=hr t ht
         rw [hptr] at hp
         simp only [Rep] at hp
         obtain ⟨c,e,hc,hrep,hone⟩:=st.inv.box lb xs hxs
         have hcl:=hrep.length
         obtain ⟨u,hu,hue,hu1⟩:=V4 hof hrep hone
         have hrun:=Zed (P:=P) (w:=w) (b:=μ.getD lb 0) (off:=0) (vs:=c.toList) hagg hsz (by rw [hcl,hlen]) (fun j v hj=>by
          rw [Xj hc,<- Array.getElem?_toList,Nat.zero_add];exact hj) (fun h=>⟨u,hu1 h⟩)
         rw [<- hue] at hrun
         have hll:lb < s.h.length:=by
          rcases Nat.lt_or_ge lb s.h.length with g | g
          ·exact g
          ·rw [List.getElem?_eq_none g] at hxs;simp at hxs
         have st2:=st.setBox hxs c e (shareAll xs) [] (O++OH.getD lb []) (RepVals.share _ _ _ hrep) hone (fun p=>by simp [List.countP_append])
         rw [YW hc] at st2
         obtain ⟨vals,OH',Ov,O',g1,g2,g3,g4⟩:=Zc0 rs l { s with h:=s.h.set lb (some (shareAll xs)) } s2 vs2 (OH.set lb []) Ot hl hrest hr (O++OH.getD lb []) (OH.getD lb []++E) st2 (fun p=>by
          have k2:=hf p
          simp only [List.countP_append]
          omega)
         refine ⟨u::vals,OH',OH.getD lb []++Ov,O',?_,?_,g3,fun p=>?_⟩
         ·simp only [List.mapM_cons,Zh9,Sem.run_bind,hp.2.2,asAddr,Sem.run_pure,Result.andThen_ok,hrun,g1]
         ·simp only [RepVals];exact ⟨u,vals,_,Ov,rfl,rfl,hu,g2⟩
         ·have:=g4 p
          simp only [List.countP_append] at this ⊢
          omega
        ·simp at h2
       ·simp at hv
      ·simp at hv
     ·simp at hv
    ·simp at hv
   ·simp at h2
  ·simp at h1
def Zio:List Value->Value
 | [v]=>v
 | vs=>.tuple vs.toArray
theorem Zqr {fn:Func} {tmps:Array Value} {w:World} {vals:List Value} (h:(fn.results.toList.mapM (Zh9 tmps)).run P w=.ok vals w) :
  (results fn tmps).run P w=.ok (Zio vals) w:=by
 have e:(fn.results.mapM (Zh9 tmps)).run P w=.ok vals.toArray w:=by
  rw [Array.mapM_eq_mapM_toList]
  simp [h]
 have e2:results fn tmps=(do let vs <- fn.results.mapM (Zh9 tmps);pure (if h:vs.size=1 then vs[0] else .tuple vs)):=by
  unfold results
  congr 1
 rw [e2,Sem.run_bind,e]
 simp only [Result.andThen_ok,Sem.run_pure]
 congr 1
 match vals with
 | []=>simp [Zio]
 | [v]=>simp [Zio]
 | v::u::vs=>simp [Zio]
theorem Zp7 {A:GM} {μ:List Nat} {vs:List LV} {vals:List Value} {O:List Own} (h:RepVals A μ vs vals O):Rep A μ (ZdR vs) (Zio vals) O:=by
 have hl:=h.length
 match vs,vals,hl with
 | [],[],_=>simp only [ZdR,Zio,Rep];exact ⟨[],rfl,h⟩
 | [x],[v],_ =>
  simp only [RepVals] at h
  obtain ⟨v',ws,O1,O2,he,rfl,h1,h2,rfl⟩:=h
  simp only [List.cons.injEq] at he
  obtain ⟨rfl,rfl⟩:=he
  simpa [ZdR,Zio] using h1
 | x::y::xs,v::u::ws,_=>simp only [ZdR,Zio,Rep];exact ⟨_,rfl,h⟩
def env (args:List LV):Nat->LV:=fun i=>args.getD i .dead
theorem Zsq {A:GM} {μ:List Nat}:∀ (args:List LV) (vals:List Value) (Oa:List Own) (m:Nat),RepVals A μ args vals Oa->args.length<=m ->
  ∃ Ot:Nat->List Own,(∀ i,Rep A μ (env args i) (vals.getD i undef) (Ot i))∧XV m Ot=Oa
 | [],vals,Oa,m,h,_=>by
  simp only [RepVals] at h
  obtain ⟨rfl,rfl⟩:=h
  exact ⟨fun _=>[],fun i=>by simp [env,Rep],allO_nil m⟩
 | x::xs,vals,Oa,0,h,hm=>by simp at hm
 | x::xs,vals,Oa,m+1,h,hm=>by
  simp only [RepVals] at h
  obtain ⟨v,ws,O1,O2,rfl,rfl,h1,h2⟩:=h
  obtain ⟨Ot,g1,g2⟩:=Zsq xs ws O2 m h2 (by simpa using hm)
  refine ⟨fun i=>match i with | 0=>O1 | i+1=>Ot i,fun i=>?_,?_⟩
  ·cases i with
   | zero=>simpa [env] using h1
   | succ i=>simpa [env] using g1 i
  ·simp only [XV,List.range_succ_eq_map,List.flatMap_cons,List.flatMap_map]
   rw [<- g2];rfl
def KZ (rvs:List RV) (m:Nat) (R:LV->List Box->Prop):Exit->St->Prop:=fun e s=>(e=.normal∨e=.ret) ∧
 ∃ vs s' k,Ys s rvs=some (vs,s')∧m<=k∧k<=s'.h.length∧(k=s'.h.length∨(Low k (ZdR vs)∧∀ l xs,l < k->s'.h[l]?=some (some xs)->QI k xs))∧R (ZdR vs) (s'.h.take k)
theorem QE.of_code {f:FuncId} {fn:Func} {c:Code} {k:C} {md:Nat->List Md} {rvs:List RV} {args:List LV} {h:List Box} {R:LV->List Box->Prop} (hm:P.follows .mixedOrders=true)
  (hcal:Zak P f=true) (hf:P.funcs[f]?=some fn) (hb:fn.body=some c) (hc:cC P fn.ntmps md c=some k) (hrv:rvOf P fn.ntmps fn.results.toList=some rvs) (hlen:args.length<=fn.ntmps)
  (hth:k.thws=true->h=[]∧shareAll args=args) (hex:∃ r h',R r h') (hw:wpC P k (KZ rvs h.length R) { t:=env args,h:=h }):QE P f args h R:=by
 refine ⟨hcal,hex,fun w A μ OH vals Oa hv hi=>?_⟩
 refine calls_of_wp hf hb ?_
 have hvl:=hv.length
 obtain ⟨Ot,hot,hall⟩:=Zsq args vals Oa fn.ntmps hv hlen
 have sim:Sim (Zq w A μ h OH Oa) fn.ntmps { t:=env args,h:=h } { tmps:=vals.toArray++Array.replicate (fn.ntmps - vals.toArray.size) undef,defers:=[] } w:=by
  refine ⟨A,μ,OH,Ot,by simp;omega,rfl,fun i hi'=>?_,?_⟩
  ·have:(vals.toArray++Array.replicate (fn.ntmps - vals.toArray.size) undef).getD i undef=vals.getD i undef:=by
    rw [Array.getD_eq_getD_getElem?,List.getD_eq_getElem?_getD,Array.getElem?_append]
    by_cases hlt:i < vals.length
    ·simp [hlt]
    ·rw [if_neg (by simpa using hlt)]
     simp at hlt ⊢
     simp [List.getElem?_eq_none hlt,Array.getElem?_replicate]
     split<;>rfl
   rw [this]
   exact hot i
  ·rw [hall]
   exact ⟨hi,⟨Nat.le_refl _,fun b _ _=>⟨rfl,fun _=>rfl⟩,fun b m c' hm'=>.inr (.inr ⟨m,c',hm'⟩),fun b hl=>.inr (.inl hl),fun _ _ _ h=>h,⟨[],by simp [Zq]⟩,⟨rfl,rfl,rfl⟩⟩⟩
 refine wp_mono (Z8 hm c k _ _ _ w (fun hk=>by
  obtain ⟨rfl,hs⟩:=hth hk
  have hOa:Oa=[]:=RepVals.shd args vals Oa (by rw [hs];exact hv)
  subst hOa
  have hOH:OH=[]:=List.eq_nil_of_length_eq_zero (by simpa using hi.lenO)
  subst hOH
  refine ⟨?_,fun b hb i=>hi.unsettled hb i⟩
  rintro b (⟨l,xs,hl,_⟩ | ⟨m,c',hm⟩)
  ·simp at hl
  ·simp at hm) hc hw sim) fun e a' w' he=>?_
 obtain ⟨_,s,hs,hp⟩:=he
 have core:a'.defers=[]∧∃ v,(results fn a'.tmps).run P w'=.ok v w'∧Ends w A μ h OH Oa R (.returned v) w':=by
  obtain ⟨_,vs,s',kk,hrvs,hk1,hk2,hlow,hR⟩:=hp
  obtain ⟨B,μ',OH',Ot',ht',h0',hr',st'⟩:=hs
  obtain ⟨vals',OH2,Ov,O',g1,g2,g3,g4⟩:=Zc0 (P:=P) (x:=Zq w A μ h OH Oa) fn.results.toList rvs s s' vs OH' Ot' hrv hrvs hr' (XV fn.ntmps Ot') [] st' (fun p=>by simp)
  refine ⟨h0',_,Zqr g1,?_⟩
  obtain ⟨ν,hν⟩:=g3.since.ext
  have hμl:μ.length=h.length:=hi.len
  have hμ0:(Zq w A μ h OH Oa).μ0=μ:=rfl
  have st1:=g3.fewer (O':=Ov) (fun p=>by have:=g4 p;simp at this;omega)
  have st2:St' (Zq w A μ h OH Oa) w' B (μ'.take kk) (s'.h.take kk) (OH2.take kk) Ov:=by
   rcases hlow with e | ⟨_,hlowh⟩
   ·rw [List.take_of_length_le (by have:=g3.inv.len;omega),List.take_of_length_le (by omega),List.take_of_length_le (by have:=g3.inv.lenO;omega)]
    exact st1
   ·exact st1.cut kk (by rw [hμ0];omega) hlowh hk2
  have hμk:μ'.take kk=μ++ν.take (kk - μ.length):=by
   rw [hν,hμ0,List.take_append,List.take_of_length_le (by omega)]
  have hl':=g3.inv.len
  refine ⟨_,ZdR vs,s'.h.take kk,B,ν.take (kk - μ.length),OH2.take kk,Ov,rfl,hR,?_,?_⟩
  ·rw [<- hμk]
   rcases hlow with e | ⟨hlow,_⟩
   ·rw [List.take_of_length_le (by omega)]
    exact Zp7 g2
   ·exact Rep.low (k:=kk) (by simp;omega) (fun l hl=>by rw [List.getD_eq_getElem?_getD,List.getElem?_take,if_pos hl,<- List.getD_eq_getElem?_getD]) _ _ _ hlow (Zp7 g2)
  ·rw [<- hμk];exact st2
 rcases hp.1 with rfl | rfl
 ·exact core
 ·exact core
end
section
variable {P:Program}
theorem Qe.of_code {f:FuncId} {fn:Func} {c:Code} {k:C} {md:Nat->List Md} {rvs:List RV} {args:List LV} {R:LV->Prop} (hm:P.follows .mixedOrders=true)
  (hcal:Zak P f=true) (hf:P.funcs[f]?=some fn) (hb:fn.body=some c) (hc:cC P fn.ntmps md c=some k) (hrv:rvOf P fn.ntmps fn.results.toList=some rvs) (hlen:args.length<=fn.ntmps)
  (hth:k.thws=true->shareAll args=args) (hex:∃ r,R r∧Low 0 r)
  (hw:wpC P k (fun e s=>(e=.normal∨e=.ret)∧∃ vs s',Ys s rvs=some (vs,s')∧Low 0 (ZdR vs)∧R (ZdR vs)) { t:=env args,h:=[] }):Qe P f args R:=by
 refine QE.of_code hm hcal hf hb hc hrv hlen (fun h=>⟨rfl,hth h⟩) (by obtain ⟨r,hr⟩:=hex;exact ⟨r,[],hr⟩) (wpC_mono k hw fun e s hs=>?_)
 obtain ⟨he,vs,s',h1,h2,h3⟩:=hs
 exact ⟨he,vs,s',0,h1,Nat.zero_le _,Nat.zero_le _,.inr ⟨h2,fun l xs hl=>by omega⟩,h3,h2⟩
where
 wpL_mono:∀ (gs:List GI) {Q Q':St->Prop} {s:St},wpL P gs Q s->(∀ s,Q s->Q' s)->wpL P gs Q' s
  | [],_,_,s,h,hq=>hq s h
  | g::gs,_,_,s,h,hq=>WF h fun s' hs'=>wpL_mono gs hs' hq
 wpC_mono:∀ (k:C) {Q Q':Exit->St->Prop} {s:St},wpC P k Q s->(∀ e s,Q e s->Q' e s)->wpC P k Q' s
  | .skip,_,_,s,h,hq=>hq _ s h
  | .reg gs,_,_,s,h,hq=>wpL_mono gs h (hq _)
  | .par its,_,_,s,h,hq=>Zf9 its h (hq _)
  | .frz k,_,_,s,h,hq=>by
   obtain ⟨s',h1,h2⟩:=h
   exact ⟨s',h1,hq _ s' h2⟩
  | .thw ks n k o,_,_,s,h,hq=>by
   obtain ⟨l,p,xs,sz,Qj,h1,h2,h3,h4a,h4b,h4,h5,h6,h7⟩:=h
   exact ⟨l,p,xs,sz,Qj,h1,h2,h3,h4a,h4b,h4,h5,h6,fun c sl hc hs=>hq _ _ (h7 c sl hc hs)⟩
  | .seq a b,_,_,s,h,hq=>wpC_mono a h fun e s hs=>by
   cases e<;>first | exact wpC_mono b hs hq | exact hq _ _ hs
  | .cond x a b,_,_,s,h,hq=>by
   obtain ⟨v,h1,h2,h3⟩:=h
   exact ⟨v,h1,fun e=>wpC_mono a (h2 e) hq,fun e=>wpC_mono b (h3 e) hq⟩
  | .block id b,_,_,s,h,hq=>wpC_mono b h fun e s hs=>by
   cases e<;>first | exact hq _ _ hs | skip
   simp only [YP] at hs ⊢
   split
   ·rename_i hid;rw [if_pos hid] at hs;exact hq _ _ hs
   ·rename_i hid;rw [if_neg hid] at hs;exact hq _ _ hs
  | .loop b,_,_,s,h,hq=>by
   obtain ⟨I,k,h1,h2⟩:=h
   exact ⟨I,k,h1,fun k s hk=>wpC_mono b (h2 k s hk) fun e s hs=>by
    cases e<;>first | exact hs | exact hq _ _ hs⟩
  | .exit id,_,_,s,h,hq=>hq _ s h
  | .ret,_,_,s,h,hq=>hq _ s h
end
end Go.TL