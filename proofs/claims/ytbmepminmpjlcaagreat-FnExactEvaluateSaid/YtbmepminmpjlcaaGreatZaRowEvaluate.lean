/- Part 1 of the proof of the row of the text YtbmepminmpjlcaaGreatZRowEvaluate: texts joined. No conditions. -/
import Derived.WalkKit
set_option linter.unusedSimpArgs false
set_option linter.unusedVariables false
set_option linter.unusedSectionVars false
namespace Go.TL
inductive LV where
 | sc (v:Value)
 | sl (u nil:Bool) (sz:Nat) (xs:List (List LV))
 | ha (l sz off len cap:Nat)
 | ptr (l o:Nat)
 | rp (xs:List LV)
 | fn (f:FuncId) (caps:List LV)
 | fnm (f:FuncId) (first:List LV)
 | agg (xs:List LV)
 | tup (xs:List LV)
 | raw (sz:Nat)
 | dead
 | both (u:Value) (t:LV)
 deriving Inhabited
abbrev GM:=Nat->Nat->Option Value
abbrev Own:=Nat×Nat×Nat
mutual
def Rep (A:GM) (μ:List Nat):LV->Value->List Own->Prop
 | .sc u,v,O=>v=u∧O=[]
 | .sl u nil sz xs,v,O =>
  (nil=true∧v=.slice none 0 0∧xs=[]∧O=[]) ∨
  (nil=false∧∃ b off sp cap O',v=.slice (some ⟨b,off,sp⟩) xs.length cap∧(sp=none∨(xs=[]∧(u=false∨cap=0)))∧xs.length<=cap∧Qw A μ xs sz b off O' ∧
   ((u=true∧off=0∧O=(b,xs.length * sz,cap * sz)::O')∨((u=false∨cap=0)∧O=O')))
 | .raw sz,v,O=>∃ b len cap,v=.slice (some ⟨b,0,none⟩) len cap∧O=[(b,0,cap * sz)]
 | .ha l sz off len cap,v,O=>O=[]∧l < μ.length∧v=.slice (some ⟨μ.getD l 0,off * sz,none⟩) len cap
 | .ptr l o,v,O=>O=[]∧l < μ.length∧v=.pointer (some ⟨μ.getD l 0,o,none⟩)
 | .rp xs,v,O=>∃ b off,v=.pointer (some ⟨b,off,none⟩)∧Qu A μ xs b off O
 | .fn f caps,v,O=>∃ vs:List Value,v=.func (.func f) #[] vs.toArray∧RepVals A μ caps vs O
 | .fnm f first,v,O=>∃ vs:List Value,v=.func (.func f) vs.toArray #[]∧RepVals A μ first vs O
 | .agg xs,v,O=>∃ vs:List Value,v=.agg vs.toArray∧(∀ c∈vs,c.oneCell'=true)∧RepVals A μ xs vs O
 | .tup xs,v,O=>∃ vs:List Value,v=.tuple vs.toArray∧RepVals A μ xs vs O
 | .dead,_,O=>O=[]
 | .both u t,v,O=>O=[]∧v=u∧Rep A μ t v []
def Qw (A:GM) (μ:List Nat):List (List LV)->Nat->Nat->Nat->List Own->Prop
 | [],_,_,_,O=>O=[]
 | x::xs,sz,b,off,O=>∃ O1 O2,O=O1++O2∧x.length=sz∧Qu A μ x b off O1∧Qw A μ xs sz b (off+sz) O2
def Qu (A:GM) (μ:List Nat):List LV->Nat->Nat->List Own->Prop
 | [],_,_,O=>O=[]
 | x::xs,b,off,O=>∃ v O1 O2,O=O1++O2∧A b off=some v∧v.oneCell'=true∧Rep A μ x v O1∧Qu A μ xs b (off+1) O2
def RepVals (A:GM) (μ:List Nat):List LV->List Value->List Own->Prop
 | [],vs,O=>vs=[]∧O=[]
 | x::xs,vs,O=>∃ v ws O1 O2,vs=v::ws∧O=O1++O2∧Rep A μ x v O1∧RepVals A μ xs ws O2
end
mutual
def share:LV->LV
 | .sc v=>.sc v
 | .sl _ nil sz xs=>.sl false nil sz (Qv xs)
 | .ha l sz off len cap=>.ha l sz off len cap
 | .raw _=>.dead
 | .ptr l o=>.ptr l o
 | .rp xs=>.rp (shareAll xs)
 | .fn f caps=>.fn f (shareAll caps)
 | .fnm f first=>.fnm f (shareAll first)
 | .agg xs=>.agg (shareAll xs)
 | .tup xs=>.tup (shareAll xs)
 | .dead=>.dead
 | .both _ t=>share t
def shareAll:List LV->List LV
 | []=>[]
 | x::xs=>share x::shareAll xs
def Qv:List (List LV)->List (List LV)
 | []=>[]
 | x::xs=>shareAll x::Qv xs
end
theorem We:∀ xs:List LV,(shareAll xs).length=xs.length
 | []=>rfl
 | _::xs=>by simp [shareAll,We xs]
theorem Xc:∀ xs:List (List LV),(Qv xs).length=xs.length
 | []=>rfl
 | _::xs=>by simp [Qv,Xc xs]
theorem Kv:∀ xs:List LV,shareAll xs=xs.map share
 | []=>rfl
 | _::xs=>by simp [shareAll,Kv xs]
theorem Zas:∀ xs:List (List LV),Qv xs=xs.map (·.map share)
 | []=>rfl
 | _::xs=>by simp [Qv,Zas xs,Kv]
def GM.Le (A B:GM):Prop:=∀ b i v,A b i=some v->B b i=some v
section mono
variable {A B:GM} {μ ν:List Nat}
theorem Yi {l:Nat} (h:l < μ.length):(μ++ν).getD l 0=μ.getD l 0:=by
 simp [List.getD_eq_getElem?_getD,List.getElem?_append_left h]
mutual
theorem Rep.mono (hA:A.Le B):∀ (x:LV) (v:Value) (O:List Own),Rep A μ x v O->Rep B (μ++ν) x v O
 | .sc _,_,_,h=>h
 | .sl _ _ _ xs,_,_,h=>by
  simp only [Rep] at h ⊢
  rcases h with h | ⟨h1,b,off,sp,cap,O',h2,hs,h3,h4,h5⟩
  ·exact .inl h
  ·exact .inr ⟨h1,b,off,sp,cap,O',h2,hs,h3,Qw.mono hA xs _ _ _ _ h4,h5⟩
 | .ha _ _ _ _ _,_,_,h=>by
  simp only [Rep] at h ⊢
  obtain ⟨h1,h2,h3⟩:=h
  rw [Yi h2]
  exact ⟨h1,by simp;omega,h3⟩
 | .ptr _ _,_,_,h=>by
  simp only [Rep] at h ⊢
  obtain ⟨h1,h2,h3⟩:=h
  rw [Yi h2]
  exact ⟨h1,by simp;omega,h3⟩
 | .rp xs,_,_,h=>by
  simp only [Rep] at h ⊢
  obtain ⟨b,off,h1,h2⟩:=h
  exact ⟨b,off,h1,Qu.mono hA xs _ _ _ h2⟩
 | .fn _ xs,_,_,h=>by
  simp only [Rep] at h ⊢
  obtain ⟨vs,h1,h2⟩:=h
  exact ⟨vs,h1,RepVals.mono hA xs _ _ h2⟩
 | .fnm _ xs,_,_,h=>by
  simp only [Rep] at h ⊢
  obtain ⟨vs,h1,h2⟩:=h
  exact ⟨vs,h1,RepVals.mono hA xs _ _ h2⟩
 | .agg xs,_,_,h=>by
  simp only [Rep] at h ⊢
  obtain ⟨vs,h1,h0,h2⟩:=h
  exact ⟨vs,h1,h0,RepVals.mono hA xs _ _ h2⟩
 | .tup xs,_,_,h=>by
  simp only [Rep] at h ⊢
  obtain ⟨vs,h1,h2⟩:=h
  exact ⟨vs,h1,RepVals.mono hA xs _ _ h2⟩
 | .raw _,_,_,h=>by simpa only [Rep] using h
 | .dead,_,_,h=>h
 | .both _ t,_,_,h=>by
  simp only [Rep] at h ⊢
  exact ⟨h.1,h.2.1,Rep.mono hA t _ _ h.2.2⟩
theorem Qw.mono (hA:A.Le B):∀ (xs:List (List LV)) (sz b off:Nat) (O:List Own),Qw A μ xs sz b off O->Qw B (μ++ν) xs sz b off O
 | [],_,_,_,_,h=>h
 | x::xs,_,_,_,_,h=>by
  simp only [Qw] at h ⊢
  obtain ⟨O1,O2,h1,h2,h3,h4⟩:=h
  exact ⟨O1,O2,h1,h2,Qu.mono hA x _ _ _ h3,Qw.mono hA xs _ _ _ _ h4⟩
theorem Qu.mono (hA:A.Le B):∀ (xs:List LV) (b off:Nat) (O:List Own),Qu A μ xs b off O->Qu B (μ++ν) xs b off O
 | [],_,_,_,h=>h
 | x::xs,_,_,_,h=>by
  simp only [Qu] at h ⊢
  obtain ⟨v,O1,O2,h1,h2,h2',h3,h4⟩:=h
  exact ⟨v,O1,O2,h1,hA _ _ _ h2,h2',Rep.mono hA x _ _ h3,Qu.mono hA xs _ _ _ h4⟩
theorem RepVals.mono (hA:A.Le B):∀ (xs:List LV) (vs:List Value) (O:List Own),RepVals A μ xs vs O->RepVals B (μ++ν) xs vs O
 | [],_,_,h=>h
 | x::xs,_,_,h=>by
  simp only [RepVals] at h ⊢
  obtain ⟨v,ws,O1,O2,h1,h2,h3,h4⟩:=h
  exact ⟨v,ws,O1,O2,h1,h2,Rep.mono hA x _ _ h3,RepVals.mono hA xs _ _ h4⟩
end
end mono
section shares
variable {A:GM} {μ:List Nat}
mutual
theorem Rep.share:∀ (x:LV) (v:Value) (O:List Own),Rep A μ x v O->Rep A μ (share x) v []
 | .sc _,_,_,h=>by simp only [Rep,TL.share] at h ⊢;exact ⟨h.1,trivial⟩
 | .sl _ _ _ xs,_,_,h=>by
  simp only [Rep,TL.share] at h ⊢
  rcases h with ⟨h1,h2,h3,_⟩ | ⟨h1,b,off,sp,cap,O',h2,hs,h3,h4,_⟩
  ·subst h3;exact .inl ⟨h1,h2,rfl,trivial⟩
  ·exact .inr ⟨h1,b,off,sp,cap,[],by rw [Xc];exact h2,hs.imp id (fun k=>⟨by rw [k.1];simp [Qv],.inl trivial⟩),by rw [Xc];exact h3,Qw.share xs _ _ _ _ h4,.inr ⟨.inl trivial,rfl⟩⟩
 | .ha _ _ _ _ _,_,_,h=>by simp only [Rep,TL.share] at h ⊢;exact ⟨trivial,h.2⟩
 | .ptr _ _,_,_,h=>by simp only [Rep,TL.share] at h ⊢;exact ⟨trivial,h.2⟩
 | .rp xs,_,_,h=>by
  simp only [Rep,TL.share] at h ⊢
  obtain ⟨b,off,h1,h2⟩:=h
  exact ⟨b,off,h1,Qu.share xs _ _ _ h2⟩
 | .fn _ xs,_,_,h=>by
  simp only [Rep,TL.share] at h ⊢
  obtain ⟨vs,h1,h2⟩:=h
  exact ⟨vs,h1,RepVals.share xs _ _ h2⟩
 | .fnm _ xs,_,_,h=>by
  simp only [Rep,TL.share] at h ⊢
  obtain ⟨vs,h1,h2⟩:=h
  exact ⟨vs,h1,RepVals.share xs _ _ h2⟩
 | .agg xs,_,_,h=>by
  simp only [Rep,TL.share] at h ⊢
  obtain ⟨vs,h1,h0,h2⟩:=h
  exact ⟨vs,h1,h0,RepVals.share xs _ _ h2⟩
 | .tup xs,_,_,h=>by
  simp only [Rep,TL.share] at h ⊢
  obtain ⟨vs,h1,h2⟩:=h
  exact ⟨vs,h1,RepVals.share xs _ _ h2⟩
 | .raw _,_,_,_=>by simp only [Rep,TL.share]
 | .dead,_,_,_=>by simp only [Rep,TL.share]
 | .both _ t,_,_,h=>by
  simp only [Rep] at h
  simp only [TL.share]
  exact Rep.share t _ _ h.2.2
theorem Qw.share:∀ (xs:List (List LV)) (sz b off:Nat) (O:List Own),Qw A μ xs sz b off O->Qw A μ (Qv xs) sz b off []
 | [],_,_,_,_,_=>by simp only [Qw,Qv]
 | x::xs,_,_,_,_,h=>by
  simp only [Qw,Qv] at h ⊢
  obtain ⟨O1,O2,_,h2,h3,h4⟩:=h
  exact ⟨[],[],rfl,by rw [We];exact h2,Qu.share x _ _ _ h3,Qw.share xs _ _ _ _ h4⟩
theorem Qu.share:∀ (xs:List LV) (b off:Nat) (O:List Own),Qu A μ xs b off O->Qu A μ (shareAll xs) b off []
 | [],_,_,_,_=>by simp only [Qu,shareAll]
 | x::xs,_,_,_,h=>by
  simp only [Qu,shareAll] at h ⊢
  obtain ⟨v,O1,O2,_,h2,h2',h3,h4⟩:=h
  exact ⟨v,[],[],rfl,h2,h2',Rep.share x _ _ h3,Qu.share xs _ _ _ h4⟩
theorem RepVals.share:∀ (xs:List LV) (vs:List Value) (O:List Own),RepVals A μ xs vs O->RepVals A μ (shareAll xs) vs []
 | [],_,_,h=>by simp only [RepVals,shareAll] at h ⊢;exact ⟨h.1,trivial⟩
 | x::xs,_,_,h=>by
  simp only [RepVals,shareAll] at h ⊢
  obtain ⟨v,ws,O1,O2,h1,_,h3,h4⟩:=h
  exact ⟨v,ws,[],[],h1,rfl,Rep.share x _ _ h3,RepVals.share xs _ _ h4⟩
end
end shares
abbrev Box:=Option (List LV)
def Kg (μ:List Nat) (h:List Box) (b:Nat):Prop:=∃ (l:Nat) (xs:List LV),h[l]?=some (some xs)∧μ.getD l 0=b
def K6 (O:List Own) (b:Nat):Prop:=∃ n c,(b,n,c)∈O
def XF (b:Nat) (o:Own):Bool:=o.1 == b
theorem W4 {O:List Own} {b:Nat}:K6 O b ↔ 0 < O.countP (XF b):=by
 constructor
 ·rintro ⟨n,c,h⟩
  exact List.countP_pos_iff.2 ⟨_,h,by simp [XF]⟩
 ·intro h
  obtain ⟨⟨b',n,c⟩,h1,h2⟩:=List.countP_pos_iff.1 h
  simp [XF] at h2
  exact ⟨n,c,h2 ▸ h1⟩
structure WInv (w:World) (A:GM) (μ:List Nat) (h:List Box) (OH:List (List Own)) (O:List Own):Prop where
 len:μ.length=h.length
 lenO:OH.length=h.length
 cells:∀ b i v,A b i=some v->w.cell? ⟨b,i,none⟩=some v
 box:∀ l xs,h[l]?=some (some xs)->∃ c e,w.heap[μ.getD l 0]?=some (.cells c e (0,0))∧RepVals A μ xs c.toList (OH.getD l [])∧(∀ v∈c.toList,v.oneCell'=true)
 loose:∀ b,Kg μ h b->∀ i,A b i=none
 apart:∀ l l' xs xs',h[l]?=some (some xs)->h[l']?=some (some xs')->μ.getD l 0=μ.getD l' 0->l=l'
 own:∀ b n c,(b,n,c)∈O++OH.flatten->(∃ cs e,w.heap[b]?=some (.cells cs e (0,0))∧cs.size=c∧∀ v∈cs.toList,v.oneCell'=true)∧(∀ i,n<=i->A b i=none)∧¬ Kg μ h b
 once:∀ b,(O++OH.flatten).countP (XF b)<=1
def Zi (O' O:List Own):Prop:=∀ p:Own->Bool,O'.countP p<=O.countP p
theorem Zi.refl (O:List Own):Zi O O:=fun _=>Nat.le_refl _
theorem Zi.nil (O:List Own):Zi [] O:=fun _=>by simp
theorem Zi.trans {a b c:List Own} (h:Zi a b) (k:Zi b c):Zi a c:=fun p=>Nat.le_trans (h p) (k p)
theorem Zi.app {a b c d:List Own} (h:Zi a b) (k:Zi c d):Zi (a++c) (b++d):=fun p=>by
 simp only [List.countP_append];exact Nat.add_le_add (h p) (k p)
theorem Zi.mem {O' O:List Own} (h:Zi O' O) {e:Own} (he:e∈O'):e∈O:=by
 have h1:0 < O'.countP (· == e):=List.countP_pos_iff.2 ⟨e,he,by simp⟩
 obtain ⟨x,hx,hxe⟩:=List.countP_pos_iff.1 (Nat.lt_of_lt_of_le h1 (h (· == e)))
 simp at hxe
 exact hxe ▸ hx
def isE (e z:Own):Bool:=z.1 == e.1 && (z.2.1 == e.2.1 && z.2.2 == e.2.2)
theorem VS (e z:Own):isE e z=true ↔ z=e:=by
 obtain ⟨a,b,c⟩:=e
 obtain ⟨a',b',c'⟩:=z
 simp [isE]
theorem ZjS {O' O:List Own} {y:Own} (hf:∀ p:Own->Bool,O'.countP p<=O.countP p+(if p y then 1 else 0)) {e:Own} (he:e∈O'):e∈O∨e=y:=by
 by_cases hy:e=y
 ·exact .inr hy
 ·have h1:0 < O'.countP (isE e):=List.countP_pos_iff.2 ⟨e,he,(VS e e).2 rfl⟩
  have h2:=hf (isE e)
  rw [if_neg (fun h=>hy ((VS e y).1 h).symm)] at h2
  obtain ⟨z,hz,hze⟩:=List.countP_pos_iff.1 (Nat.lt_of_lt_of_le h1 h2)
  exact .inl ((VS e z).1 hze ▸ hz)
theorem Zrl {O:List Own} {b n c:Nat} (h1:O.countP (XF b)<=1) (hm:(b,n,c)∈O) (p:Own->Bool) :
  O.countP p=(if p (b,n,c) then 1 else 0)+(O.filter fun z=>!XF b z).countP p:=by
 rw [List.countP_eq_countP_filter_add O p (XF b)]
 congr 1
 have hm':(b,n,c)∈O.filter (XF b):=List.mem_filter.2 ⟨hm,by simp [XF]⟩
 have hl:(O.filter (XF b)).length<=1:=by rw [<- List.countP_eq_length_filter];exact h1
 match hx:O.filter (XF b),hl,hm' with
 | [y],_,hm' =>
  simp at hm'
  subst hm'
  simp [List.countP_cons]
section
variable {w:World} {A:GM} {μ:List Nat} {h:List Box} {OH:List (List Own)} {O O':List Own}
theorem WInv.fewer (i:WInv w A μ h OH O) (f:Zi O' O):WInv w A μ h OH O' where
 len:=i.len
 lenO:=i.lenO
 cells:=i.cells
 box:=i.box
 loose:=i.loose
 apart:=i.apart
 own:=fun b n c hm=>i.own b n c ((f.app (.refl _)).mem hm)
 once:=fun b=>Nat.le_trans ((f.app (.refl _)) (XF b)) (i.once b)
theorem Xj {b:Nat} {cs:Array Value} {e:TypeId} (hb:w.heap[b]?=some (.cells cs e (0,0))) (i:Nat):w.cell? ⟨b,i,none⟩=cs[i]?:=by
 simp [World.cell?,hb]
theorem XS {b:Nat} {o:Obj} (hb:w.heap[b]?=some o):b < w.heap.size:=by
 rcases Nat.lt_or_ge b w.heap.size with h | h
 ·exact h
 ·rw [Array.getElem?_eq_none h] at hb;simp at hb
theorem Zf5 {b i:Nat} {v:Value} (hc:w.cell? ⟨b,i,none⟩=some v):b < w.heap.size:=by
 cases hb:w.heap[b]? with
 | none=>simp [World.cell?,hb] at hc
 | some o=>exact XS hb
theorem WInv.settled_lt (i:WInv w A μ h OH O) {b j:Nat} {v:Value} (ha:A b j=some v):b < w.heap.size:=Zf5 (i.cells b j v ha)
theorem WInv.unsettled (i:WInv w A μ h OH O) {b:Nat} (hb:w.heap.size<=b) (j:Nat):A b j=none:=by
 cases hv:A b j with
 | none=>rfl
 | some v=>have:=i.settled_lt hv;omega
theorem WInv.live_lt (i:WInv w A μ h OH O) {b:Nat} (hb:Kg μ h b):b < w.heap.size:=by
 obtain ⟨l,xs,hl,rfl⟩:=hb
 obtain ⟨c,e,hc,_⟩:=i.box l xs hl
 exact XS hc
theorem WInv.own_lt (i:WInv w A μ h OH O) {b n c:Nat} (hb:(b,n,c)∈O++OH.flatten):b < w.heap.size:=by
 obtain ⟨⟨cs,e,hc,_⟩,_⟩:=i.own b n c hb
 exact XS hc
end
def upd {α:Type} (t:Nat->α) (d:Nat) (x:α):Nat->α:=fun i=>if i=d then x else t i
theorem QO {α:Type} (t:Nat->α) (d:Nat) (x:α):upd t d x d=x:=by simp [upd]
theorem Ws {α:Type} (t:Nat->α) (d:Nat) (x:α) {i:Nat} (h:i≠d):upd t d x i=t i:=by simp [upd,h]
def XV (n:Nat) (Ot:Nat->List Own):List Own:=(List.range n).flatMap Ot
theorem ZcG (n:Nat) (Ot:Nat->List Own):XV (n+1) Ot=XV n Ot++Ot n:=by simp [XV,List.range_succ]
theorem ZiF (Ot:Nat->List Own) (d:Nat) (X:List Own):∀ m,m<=d->XV m (upd Ot d X)=XV m Ot
 | 0,_=>rfl
 | m+1,h=>by rw [ZcG,ZcG,ZiF Ot d X m (by omega),Ws _ _ _ (by omega)]
theorem Xe (p:Own->Bool) (Ot:Nat->List Own) (d:Nat) (X:List Own):∀ n,d < n ->
  (XV n (upd Ot d X)).countP p+(Ot d).countP p=(XV n Ot).countP p+X.countP p
 | 0,h=>by omega
 | n+1,h=>by
  simp only [ZcG,List.countP_append]
  by_cases hd:d=n
  ·subst hd
   rw [ZiF Ot d X d (Nat.le_refl _),QO];omega
  ·have:=Xe p Ot d X n (by omega)
   rw [Ws _ _ _ (fun e=>hd e.symm)];omega
theorem allO_nil (n:Nat):XV n (fun _=>[])=[]:=by simp [XV]
theorem mem_allO {n:Nat} {Ot:Nat->List Own} {e:Own}:e∈XV n Ot ↔ ∃ i,i < n∧e∈Ot i:=by
 simp [XV]
structure Cx where
 w0:World
 A0:GM
 μ0:List Nat
 T0:Nat->Prop
def Zj7 (w0 w:World):Prop:=w.os=w0.os∧w.tape=w0.tape∧w.output=w0.output
theorem Zj7.trans {a b c:World} (h:Zj7 a b) (k:Zj7 b c):Zj7 a c:=⟨k.1.trans h.1,k.2.1.trans h.2.1,k.2.2.trans h.2.2⟩
structure Since (x:Cx) (w:World) (A:GM) (μ:List Nat) (h:List Box) (OH:List (List Own)) (O:List Own):Prop where
 size:x.w0.heap.size<=w.heap.size
 kept:∀ b,b < x.w0.heap.size->¬ x.T0 b->w.heap[b]?=x.w0.heap[b]?∧∀ i,A b i=x.A0 b i
 ownT:∀ b n c,(b,n,c)∈O++OH.flatten->x.w0.heap.size<=b∨x.T0 b
 liveT:∀ b,Kg μ h b->x.w0.heap.size<=b∨x.T0 b
 le:x.A0.Le A
 ext:∃ ν,μ=x.μ0++ν
 still:Zj7 x.w0 w
theorem Since.fewer {x:Cx} {w:World} {A:GM} {μ:List Nat} {h:List Box} {OH:List (List Own)} {O O':List Own} (s:Since x w A μ h OH O) (f:Zi O' O):Since x w A μ h OH O' :=
 { s with ownT:=fun b n c hm=>s.ownT b n c ((f.app (.refl _)).mem hm) }
structure St' (x:Cx) (w:World) (A:GM) (μ:List Nat) (h:List Box) (OH:List (List Own)) (O:List Own):Prop where
 inv:WInv w A μ h OH O
 since:Since x w A μ h OH O
section
variable {x:Cx} {w:World} {A:GM} {μ:List Nat} {h:List Box} {OH:List (List Own)} {O:List Own}
theorem St'.fewer {O':List Own} (s:St' x w A μ h OH O) (f:Zi O' O):St' x w A μ h OH O':=⟨s.inv.fewer f,s.since.fewer f⟩
theorem St'.heap {w':World} (s:St' x w A μ h OH O) (e:w'.heap=w.heap) (hs:Zj7 w w'):St' x w' A μ h OH O:=by
 have hc:∀ a,w'.cell? a=w.cell? a:=fun a=>by simp [World.cell?,e]
 exact ⟨{ s.inv with
   cells:=fun b i v hv=>by rw [hc];exact s.inv.cells b i v hv
   box:=fun l xs hl=>by rw [e];exact s.inv.box l xs hl
   own:=fun b n c hm=>by rw [e];exact s.inv.own b n c hm },
  { s.since with
   size:=by rw [e];exact s.since.size
   kept:=fun b h1 h2=>by rw [e];exact s.since.kept b h1 h2
   still:=s.since.still.trans hs }⟩
def GM.put (A:GM) (b lo hi:Nat) (cs:Array Value):GM:=fun b' i=>if b'=b∧lo<=i∧i < hi then cs[i]? else A b' i
theorem GM.put_le {A:GM} {b lo hi:Nat} {cs:Array Value} (hA:∀ i,lo<=i->A b i=none):A.Le (A.put b lo hi cs):=by
 intro b' i v hv
 unfold GM.put
 by_cases hc:b'=b∧lo<=i∧i < hi
 ·obtain ⟨rfl,h1,_⟩:=hc
  rw [hA i h1] at hv;simp at hv
 ·rw [if_neg hc];exact hv
theorem St'.newRow (s:St' x w A μ h OH O) (cs:Array Value) (hcs:∀ v∈cs.toList,v.oneCell'=true) (e:TypeId) (n:Nat) (O':List Own) (hf:∀ p,O'.countP p<=(O.countP p)+(if p (w.heap.size,n,cs.size) then 1 else 0)) :
  St' x { w with heap:=w.heap.push (.cells cs e (0,0)) } (A.put w.heap.size 0 n cs) μ h OH O':=by
 have hmem:∀ b m c,(b,m,c)∈O'++OH.flatten->(b,m,c)∈O++OH.flatten∨(b=w.heap.size∧m=n∧c=cs.size):=by
  intro b m c hm
  rcases List.mem_append.1 hm with hm | hm
  ·exact ZjS hf hm |>.elim (fun h=>.inl (List.mem_append.2 (.inl h))) (fun h=>.inr (by simpa using h))
  ·exact .inl (List.mem_append.2 (.inr hm))
 have hA:∀ i,0<=i->A w.heap.size i=none:=fun i _=>s.inv.unsettled (Nat.le_refl _) i
 have old:∀ b,b < w.heap.size->(w.heap.push (.cells cs e (0,0)))[b]?=w.heap[b]?:=by
  intro b hb
  rw [Array.getElem?_push,if_neg (by omega)]
 have hlive:∀ b,Kg μ h b->b < w.heap.size:=fun b hb=>s.inv.live_lt hb
 have hput:∀ b,b≠w.heap.size->∀ i,A.put w.heap.size 0 n cs b i=A b i:=by
  intro b hb i
  unfold GM.put
  rw [if_neg (fun hc=>hb hc.1)]
 refine ⟨⟨s.inv.len,s.inv.lenO,?_,?_,?_,s.inv.apart,?_,?_⟩,⟨?_,?_,?_,s.since.liveT,?_,s.since.ext,s.since.still⟩⟩
 ·intro b i v hv
  by_cases hb:b=w.heap.size
  ·subst hb
   unfold GM.put at hv
   by_cases hc:w.heap.size=w.heap.size∧0<=i∧i < n
   ·rw [if_pos hc] at hv
    simp [World.cell?,hv]
   ·rw [if_neg hc,hA i (Nat.zero_le _)] at hv;simp at hv
  ·rw [hput b hb] at hv
   have:=s.inv.cells b i v hv
   have hlt:=Zf5 this
   simp only [World.cell?] at this ⊢
   rw [old b hlt];exact this
 ·intro l xs hl
  obtain ⟨c,e',h1,h2,h3⟩:=s.inv.box l xs hl
  exact ⟨c,e',by rw [old _ (XS h1)];exact h1,by
   have:=RepVals.mono (ν:=[]) (GM.put_le (lo:=0) (hi:=n) (cs:=cs) hA) xs c.toList _ h2
   simpa using this,h3⟩
 ·intro b hb i
  rw [hput b (by have:=hlive b hb;omega)]
  exact s.inv.loose b hb i
 ·intro b m c hm
  rcases hmem b m c hm with hm | ⟨rfl,rfl,rfl⟩
  ·obtain ⟨⟨cs',e',h1,h2⟩,h3,h4⟩:=s.inv.own b m c hm
   have hlt:=XS h1
   exact ⟨⟨cs',e',by rw [old b hlt];exact h1,h2⟩,fun i hi=>by rw [hput b (by omega)];exact h3 i hi,h4⟩
  ·refine ⟨⟨cs,e,by simp,rfl,hcs⟩,fun i hi=>?_,fun hl=>by have:=hlive _ hl;omega⟩
   unfold GM.put
   rw [if_neg (by omega)]
   exact hA i (Nat.zero_le _)
 ·intro b
  have h1:=s.inv.once b
  have h2:=hf (XF b)
  simp only [List.countP_append] at h1 ⊢
  by_cases hb:b=w.heap.size
  ·subst hb
   have h3:(O++OH.flatten).countP (XF w.heap.size)=0:=by
    refine Nat.eq_zero_of_not_pos fun hp=>?_
    obtain ⟨m,c,hm⟩:=W4.2 hp
    have:=s.inv.own_lt hm
    omega
   simp only [List.countP_append] at h3
   simp only [XF] at h2 h3 ⊢
   simp at h2
   omega
  ·have:XF b (w.heap.size,n,cs.size)=false:=by simp [XF];exact fun e=>hb e.symm
   rw [this] at h2
   simp at h2
   omega
 ·have:=s.since.size;simp;omega
 ·intro b hb ht
  have hs:=s.since.size
  obtain ⟨h1,h2⟩:=s.since.kept b hb ht
  refine ⟨?_,fun i=>?_⟩
  ·show (w.heap.push _)[b]?=_
   rw [old b (by omega)];exact h1
  ·rw [hput b (by omega)];exact h2 i
 ·intro b m c hm
  rcases hmem b m c hm with hm | ⟨rfl,_,_⟩
  ·exact s.since.ownT b m c hm
  ·exact .inl s.since.size
 ·exact fun b i v hv=>GM.put_le hA b i v (s.since.le b i v hv)
theorem ZT {w:World} {b:Nat} {o:Obj} (h:b < w.heap.size):(w.heap.setIfInBounds b o)[b]?=some o:=by
 simp [h]
theorem Xk {w:World} {b b':Nat} {o:Obj} (h:b'≠b):(w.heap.setIfInBounds b o)[b']?=w.heap[b']?:=by
 rw [Array.getElem?_setIfInBounds_ne (fun e=>h e.symm)]
theorem St'.grow (s:St' x w A μ h OH O) {b n m c:Nat} {cs cs':Array Value} {e:TypeId} (hb:w.heap[b]?=some (.cells cs e (0,0)))
  (hm:(b,n,c)∈O) (hs:cs'.size=cs.size) (hcs:∀ v∈cs'.toList,v.oneCell'=true) (heq:∀ i,i < n->cs'[i]?=cs[i]?) (O':List Own)
  (hf:∀ p:Own->Bool,O'.countP p+(if p (b,n,c) then 1 else 0)<=O.countP p+(if p (b,n+m,c) then 1 else 0)) :
  St' x { w with heap:=w.heap.setIfInBounds b (.cells cs' e (0,0)) } (A.put b n (n+m) cs') μ h OH O':=by
 have hlt:=XS hb
 obtain ⟨⟨cs0,e0,h0,hc,_⟩,hA,hnl⟩:=s.inv.own b n c (List.mem_append.2 (.inl hm))
 rw [hb] at h0
 obtain ⟨rfl,rfl⟩:cs=cs0∧e=e0:=by simpa using h0
 have h1:=s.inv.once b
 simp only [List.countP_append] at h1
 have hO1:0 < O.countP (XF b):=W4.1 ⟨n,c,hm⟩
 have hf':∀ p:Own->Bool,O'.countP p<=(O.filter fun z=>!XF b z).countP p+(if p (b,n+m,c) then 1 else 0):=by
  intro p
  have:=hf p
  rw [Zrl (show O.countP (XF b)<=1 by omega) hm p] at this
  omega
 have hmem:∀ b' m' c',(b',m',c')∈O'++OH.flatten->((b',m',c')∈O++OH.flatten∧b'≠b)∨(b'=b∧m'=n+m∧c'=c):=by
  intro b' m' c' hm'
  rcases List.mem_append.1 hm' with hm' | hm'
  ·rcases ZjS hf' hm' with h | h
   ·left
    obtain ⟨h2,h3⟩:=List.mem_filter.1 h
    exact ⟨List.mem_append.2 (.inl h2),by simpa [XF] using h3⟩
   ·right;simpa using h
  ·left
   refine ⟨List.mem_append.2 (.inr hm'),fun hbb=>?_⟩
   subst hbb
   have:0 < OH.flatten.countP (XF b'):=W4.1 ⟨m',c',hm'⟩
   omega
 have hput:∀ b',b'≠b->∀ i,A.put b n (n+m) cs' b' i=A b' i:=by
  intro b' hb' i
  unfold GM.put
  rw [if_neg (fun h=>hb' h.1)]
 have hle':=GM.put_le (A:=A) (b:=b) (lo:=n) (hi:=n+m) (cs:=cs') hA
 refine ⟨⟨s.inv.len,s.inv.lenO,?_,?_,?_,s.inv.apart,?_,?_⟩,⟨?_,?_,?_,s.since.liveT,?_,s.since.ext,s.since.still⟩⟩
 ·intro b' i v hv
  by_cases hbb:b'=b
  ·subst hbb
   have hcell:∀ i,({ w with heap:=w.heap.setIfInBounds b' (.cells cs' e (0,0)) }:World).cell? ⟨b',i,none⟩=cs'[i]?:=by
    intro i
    exact Xj (w:={ w with heap:=w.heap.setIfInBounds b' (.cells cs' e (0,0)) }) (ZT hlt) i
   rw [hcell]
   unfold GM.put at hv
   by_cases hc':b'=b'∧n<=i∧i < n+m
   ·rw [if_pos hc'] at hv;exact hv
   ·rw [if_neg hc'] at hv
    have hi:i < n:=by
     rcases Nat.lt_or_ge i n with h | h
     ·exact h
     ·rw [hA i h] at hv;simp at hv
    rw [heq i hi,<- Xj hb i]
    exact s.inv.cells b' i v hv
  ·rw [hput b' hbb] at hv
   have:=s.inv.cells b' i v hv
   simp only [World.cell?] at this ⊢
   rw [Xk hbb];exact this
 ·intro l xs hl
  obtain ⟨c',e',h1,h2,h3⟩:=s.inv.box l xs hl
  have hne:μ.getD l 0≠b:=fun h=>hnl ⟨l,xs,hl,h⟩
  exact ⟨c',e',by
   show (w.heap.setIfInBounds b _)[_]?=_
   rw [Xk hne];exact h1,by
   have:=RepVals.mono (ν:=[]) hle' xs c'.toList _ h2
   simpa using this,h3⟩
 ·intro b' hb' i
  rw [hput b' (fun h=>hnl (h ▸ hb'))]
  exact s.inv.loose b' hb' i
 ·intro b' m' c' hm'
  rcases hmem b' m' c' hm' with ⟨hm',hne⟩ | ⟨rfl,rfl,rfl⟩
  ·obtain ⟨⟨cs2,e2,h1,h2⟩,h3,h4⟩:=s.inv.own b' m' c' hm'
   exact ⟨⟨cs2,e2,by
    show (w.heap.setIfInBounds b _)[_]?=_
    rw [Xk hne];exact h1,h2⟩,fun i hi=>by rw [hput b' hne];exact h3 i hi,h4⟩
  ·refine ⟨⟨cs',e,ZT hlt,by omega,hcs⟩,fun i hi=>?_,hnl⟩
   unfold GM.put
   rw [if_neg (by omega)]
   exact hA i (by omega)
 ·intro b'
  have h2:=s.inv.once b'
  have h3:=hf (XF b')
  simp only [List.countP_append] at h2 ⊢
  have:(if XF b' (b,n+m,c)=true then 1 else 0)=(if XF b' (b,n,c)=true then 1 else 0):=rfl
  omega
 ·simpa using s.since.size
 ·intro b' hb' ht
  have hne:b'≠b:=by
   intro h
   rcases s.since.ownT b n c (List.mem_append.2 (.inl hm)) with h2 | h2
   ·omega
   ·exact ht (h ▸ h2)
  obtain ⟨h1,h2⟩:=s.since.kept b' hb' ht
  refine ⟨?_,fun i=>by rw [hput b' hne];exact h2 i⟩
  show (w.heap.setIfInBounds b _)[_]?=_
  rw [Xk hne];exact h1
 ·intro b' m' c' hm'
  rcases hmem b' m' c' hm' with ⟨hm',_⟩ | ⟨rfl,rfl,rfl⟩
  ·exact s.since.ownT b' m' c' hm'
  ·exact s.since.ownT b' n c' (List.mem_append.2 (.inl hm))
 ·exact fun b' i v hv=>hle' b' i v (s.since.le b' i v hv)
theorem Ve {μ:List Nat} {h:List Box} {n b:Nat} {o:Box} (hl:μ.length=h.length):Kg (μ++[n]) (h++[o]) b->Kg μ h b∨(b=n∧∃ xs,o=some xs):=by
 rintro ⟨l,xs,h1,h2⟩
 rcases Nat.lt_trichotomy l h.length with hlt | heq | hgt
 ·left
  rw [List.getElem?_append_left hlt] at h1
  rw [Yi (by omega)] at h2
  exact ⟨l,xs,h1,h2⟩
 ·right
  subst heq
  simp at h1
  rw [List.getD_eq_getElem?_getD,List.getElem?_append_right (by omega)] at h2
  simp [hl] at h2
  exact ⟨h2.symm,xs,h1⟩
 ·rw [List.getElem?_eq_none (by simp;omega)] at h1;simp at h1
theorem St'.newBox (s:St' x w A μ h OH O) (vs:List Value) (e:TypeId) (xs:List LV) (Ox O':List Own) (hr:RepVals A μ xs vs Ox)
  (h1:∀ v∈vs,v.oneCell'=true) (hf:∀ p:Own->Bool,O'.countP p+Ox.countP p<=O.countP p) :
  St' x { w with heap:=w.heap.push (.cells vs.toArray e (0,0)) } A (μ++[w.heap.size]) (h++[some xs]) (OH++[Ox]) O':=by
 have hfew:Zi (O'++(OH++[Ox]).flatten) (O++OH.flatten):=by
  intro p
  have:=hf p
  simp only [List.flatten_append,List.countP_append,List.flatten_cons,List.flatten_nil,List.append_nil]
  omega
 have hmem:=fun e (he:e∈O'++(OH++[Ox]).flatten)=>hfew.mem he
 have old:∀ b,b < w.heap.size->(w.heap.push (.cells vs.toArray e (0,0)))[b]?=w.heap[b]?:=by
  intro b hb
  rw [Array.getElem?_push,if_neg (by omega)]
 have hmono:∀ xs vs O,RepVals A μ xs vs O->RepVals A (μ++[w.heap.size]) xs vs O:=fun xs vs O=>RepVals.mono (fun _ _ _ h=>h) xs vs O
 have hlen:=s.inv.len
 have hlenO:=s.inv.lenO
 refine ⟨⟨by simp [hlen],by simp [hlenO],?_,?_,?_,?_,?_,?_⟩,⟨?_,?_,?_,?_,s.since.le,?_,s.since.still⟩⟩
 ·intro b i v hv
  have:=s.inv.cells b i v hv
  have hlt:=Zf5 this
  simp only [World.cell?] at this ⊢
  rw [old b hlt];exact this
 ·intro l ys hl
  rcases Nat.lt_trichotomy l h.length with hlt | heq | hgt
  ·rw [List.getElem?_append_left hlt] at hl
   obtain ⟨c,e',g1,g2,g3⟩:=s.inv.box l ys hl
   rw [Yi (by omega)]
   refine ⟨c,e',by rw [old _ (XS g1)];exact g1,?_,g3⟩
   rw [List.getD_eq_getElem?_getD,List.getElem?_append_left (by omega),<- List.getD_eq_getElem?_getD]
   exact hmono _ _ _ g2
  ·subst heq
   simp at hl
   subst hl
   refine ⟨vs.toArray,e,?_,?_,by simpa using h1⟩
   ·rw [List.getD_eq_getElem?_getD,List.getElem?_append_right (by omega)]
    simp [hlen]
   ·rw [List.getD_eq_getElem?_getD,List.getElem?_append_right (by omega)]
    simp [hlenO]
    exact hmono _ _ _ hr
  ·rw [List.getElem?_eq_none (by simp;omega)] at hl;simp at hl
 ·intro b hb i
  rcases Ve hlen hb with hb | ⟨rfl,_⟩
  ·exact s.inv.loose b hb i
  ·exact s.inv.unsettled (Nat.le_refl _) i
 ·intro l l' ys ys' hl hl' heq
  have key:∀ k zs,(h++[some xs])[k]?=some (some zs)->(k < h.length∧h[k]?=some (some zs)∧(μ++[w.heap.size]).getD k 0=μ.getD k 0∧μ.getD k 0 < w.heap.size)∨(k=h.length∧(μ++[w.heap.size]).getD k 0=w.heap.size):=by
   intro k zs hk
   rcases Nat.lt_trichotomy k h.length with hlt | heq | hgt
   ·left
    rw [List.getElem?_append_left hlt] at hk
    exact ⟨hlt,hk,Yi (by omega),s.inv.live_lt ⟨k,zs,hk,rfl⟩⟩
   ·right
    refine ⟨heq,?_⟩
    rw [List.getD_eq_getElem?_getD,List.getElem?_append_right (by omega)]
    simp [hlen,heq]
   ·rw [List.getElem?_eq_none (by simp;omega)] at hk;simp at hk
  rcases key l ys hl with ⟨a1,a2,a3,a4⟩ | ⟨a1,a2⟩<;>rcases key l' ys' hl' with ⟨b1,b2,b3,b4⟩ | ⟨b1,b2⟩
  ·rw [a3,b3] at heq;exact s.inv.apart l l' ys ys' a2 b2 heq
  ·rw [a3,b2] at heq;omega
  ·rw [a2,b3] at heq;omega
  ·omega
 ·intro b n c hm
  obtain ⟨⟨cs,e',g1,g2⟩,g3,g4⟩:=s.inv.own b n c (hmem _ hm)
  have hlt:=XS g1
  refine ⟨⟨cs,e',by rw [old b hlt];exact g1,g2⟩,g3,fun hl=>?_⟩
  rcases Ve hlen hl with hl | ⟨rfl,_⟩
  ·exact g4 hl
  ·omega
 ·exact fun b=>Nat.le_trans (hfew (XF b)) (s.inv.once b)
 ·have:=s.since.size;simp;omega
 ·intro b hb ht
  have hs:=s.since.size
  obtain ⟨g1,g2⟩:=s.since.kept b hb ht
  exact ⟨by
   show (w.heap.push _)[b]?=_
   rw [old b (by omega)];exact g1,g2⟩
 ·exact fun b n c hm=>s.since.ownT b n c (hmem _ hm)
 ·intro b hb
  rcases Ve hlen hb with hb | ⟨rfl,_⟩
  ·exact s.since.liveT b hb
  ·exact .inl s.since.size
 ·obtain ⟨ν,hν⟩:=s.since.ext
  exact ⟨ν++[w.heap.size],by rw [hν,List.append_assoc]⟩
theorem K9 (p:Own->Bool) (X:List Own):∀ (OH:List (List Own)) (l:Nat),l < OH.length ->
  (OH.set l X).flatten.countP p+(OH.getD l []).countP p=OH.flatten.countP p+X.countP p
 | Y::OH,0,_=>by simp [List.countP_append];omega
 | Y::OH,l+1,h=>by
  have:=K9 p X OH l (by simpa using h)
  simp [List.countP_append] at this ⊢
  omega
theorem Zm3 {α:Type} {l:List α} {i:Nat} {x d:α} (h:i < l.length):(l.set i x).getD i d=x:=by
 simp [List.getD_eq_getElem?_getD,h]
theorem Zek {α:Type} {l:List α} {i j:Nat} {x d:α} (h:j≠i):(l.set i x).getD j d=l.getD j d:=by
 simp [List.getD_eq_getElem?_getD,Ne.symm h]
theorem St'.setBox (s:St' x w A μ h OH O) {l:Nat} {xs:List LV} (hl:h[l]?=some (some xs)) (c':Array Value) (e:TypeId) (xs':List LV) (Ox' O':List Own)
  (hr:RepVals A μ xs' c'.toList Ox') (h1:∀ v∈c'.toList,v.oneCell'=true)
  (hf:∀ p:Own->Bool,O'.countP p+Ox'.countP p<=O.countP p+(OH.getD l []).countP p) :
  St' x { w with heap:=w.heap.setIfInBounds (μ.getD l 0) (.cells c' e (0,0)) } A μ (h.set l (some xs')) (OH.set l Ox') O':=by
 have hlen:=s.inv.len
 have hlenO:=s.inv.lenO
 have hll:l < h.length:=by
  rcases Nat.lt_or_ge l h.length with g | g
  ·exact g
  ·rw [List.getElem?_eq_none g] at hl;simp at hl
 have hlt:μ.getD l 0 < w.heap.size:=s.inv.live_lt ⟨l,xs,hl,rfl⟩
 have hfew:Zi (O'++(OH.set l Ox').flatten) (O++OH.flatten):=by
  intro p
  have:=hf p
  have:=K9 p Ox' OH l (by omega)
  simp only [List.countP_append]
  omega
 have hlive:∀ b,Kg μ (h.set l (some xs')) b->Kg μ h b:=by
  rintro b ⟨k,ys,hk,hb⟩
  by_cases hkl:k=l
  ·subst hkl;exact ⟨k,xs,hl,hb⟩
  ·rw [List.getElem?_set_ne (fun g=>hkl g.symm)] at hk
   exact ⟨k,ys,hk,hb⟩
 refine ⟨⟨by simp [hlen],by simp [hlenO],?_,?_,?_,?_,?_,?_⟩,⟨?_,?_,?_,?_,s.since.le,s.since.ext,s.since.still⟩⟩
 ·intro b i v hv
  have hne:b≠μ.getD l 0:=by
   intro hb
   rw [s.inv.loose b ⟨l,xs,hl,hb.symm⟩ i] at hv;simp at hv
  have:=s.inv.cells b i v hv
  simp only [World.cell?] at this ⊢
  rw [Xk hne];exact this
 ·intro k ys hk
  by_cases hkl:k=l
  ·subst hkl
   rw [List.getElem?_set_self hll] at hk
   obtain rfl:xs'=ys:=by simpa using hk
   exact ⟨c',e,ZT hlt,by rw [Zm3 (by omega)];exact hr,h1⟩
  ·rw [List.getElem?_set_ne (fun g=>hkl g.symm)] at hk
   obtain ⟨c,e',g1,g2,g3⟩:=s.inv.box k ys hk
   have hne:μ.getD k 0≠μ.getD l 0:=fun g=>hkl (s.inv.apart k l ys xs hk hl g)
   exact ⟨c,e',by
    show (w.heap.setIfInBounds _ _)[_]?=_
    rw [Xk hne];exact g1,by rw [Zek hkl];exact g2,g3⟩
 ·exact fun b hb i=>s.inv.loose b (hlive b hb) i
 ·intro k k' ys ys' hk hk' heq
  have key:∀ (k:Nat) (zs:List LV),(h.set l (some xs'))[k]?=some (some zs)->∃ zs':List LV,h[k]?=some (some zs'):=by
   intro k zs hk
   by_cases hkl:k=l
   ·exact ⟨xs,hkl ▸ hl⟩
   ·rw [List.getElem?_set_ne (fun g=>hkl g.symm)] at hk
    exact ⟨zs,hk⟩
  obtain ⟨z,hz⟩:=key k ys hk
  obtain ⟨z',hz'⟩:=key k' ys' hk'
  exact s.inv.apart k k' z z' hz hz' heq
 ·intro b n c hm
  obtain ⟨⟨cs,e',g1,g2⟩,g3,g4⟩:=s.inv.own b n c (hfew.mem hm)
  have hne:b≠μ.getD l 0:=fun g=>g4 ⟨l,xs,hl,g.symm⟩
  exact ⟨⟨cs,e',by
   show (w.heap.setIfInBounds _ _)[_]?=_
   rw [Xk hne];exact g1,g2⟩,g3,fun g=>g4 (hlive b g)⟩
 ·exact fun b=>Nat.le_trans (hfew (XF b)) (s.inv.once b)
 ·simpa using s.since.size
 ·intro b hb ht
  have hne:b≠μ.getD l 0:=by
   intro g
   rcases s.since.liveT b ⟨l,xs,hl,g.symm⟩ with g2 | g2
   ·omega
   ·exact ht g2
  obtain ⟨g1,g2⟩:=s.since.kept b hb ht
  exact ⟨by
   show (w.heap.setIfInBounds _ _)[_]?=_
   rw [Xk hne];exact g1,g2⟩
 ·exact fun b n c hm=>s.since.ownT b n c (hfew.mem hm)
 ·exact fun b hb=>s.since.liveT b (hlive b hb)
theorem St'.settle (s:St' x w A μ h OH O) {l:Nat} {xs:List LV} (hl:h[l]?=some (some xs)) (O':List Own) {c:Array Value} {e:TypeId} (hc:w.heap[μ.getD l 0]?=some (.cells c e (0,0))) (m:Nat)
  (hf:∀ p:Own->Bool,O'.countP p<=O.countP p+(OH.getD l []).countP p+(if p (μ.getD l 0,m,c.size) then 1 else 0)) :
  St' x w (A.put (μ.getD l 0) 0 m c) μ (h.set l none) (OH.set l []) O':=by
 have hlen:=s.inv.len
 have hlenO:=s.inv.lenO
 have hll:l < h.length:=by
  rcases Nat.lt_or_ge l h.length with g | g
  ·exact g
  ·rw [List.getElem?_eq_none g] at hl;simp at hl
 have hlv:Kg μ h (μ.getD l 0):=⟨l,xs,hl,rfl⟩
 have hcs:∀ v∈c.toList,v.oneCell'=true:=by
  obtain ⟨c2,e2,g1,_,g3⟩:=s.inv.box l xs hl
  rw [hc] at g1
  obtain ⟨rfl,rfl⟩:c=c2∧e=e2:=by simpa using g1
  exact g3
 have hA:∀ i,0<=i->A (μ.getD l 0) i=none:=fun i _=>s.inv.loose _ hlv i
 have hle':=GM.put_le (A:=A) (b:=μ.getD l 0) (lo:=0) (hi:=m) (cs:=c) hA
 have hput:∀ b',b'≠μ.getD l 0->∀ i,A.put (μ.getD l 0) 0 m c b' i=A b' i:=by
  intro b' hb' i
  unfold GM.put
  rw [if_neg (fun h=>hb' h.1)]
 have hlive:∀ b,Kg μ (h.set l none) b->Kg μ h b∧b≠μ.getD l 0:=by
  rintro b ⟨k,ys,hk,hb⟩
  have hkl:k≠l:=by
   intro hkl
   subst hkl
   rw [List.getElem?_set_self hll] at hk;simp at hk
  rw [List.getElem?_set_ne (fun g=>hkl g.symm)] at hk
  exact ⟨⟨k,ys,hk,hb⟩,fun g=>hkl (s.inv.apart k l ys xs hk hl (hb.trans g))⟩
 have hcnt:∀ p:Own->Bool,(O'++(OH.set l []).flatten).countP p<=(O++OH.flatten).countP p+(if p (μ.getD l 0,m,c.size) then 1 else 0):=by
  intro p
  have h1:=hf p
  have h2:=K9 p [] OH l (by omega)
  simp only [List.countP_append,List.countP_nil] at h2 ⊢
  omega
 have hmem:∀ {b n c'},(b,n,c')∈O'++(OH.set l []).flatten->(b,n,c')∈O++OH.flatten∨(b=μ.getD l 0∧n=m∧c'=c.size):=by
  intro b n c' hm
  exact (ZjS hcnt hm).imp id (fun h=>by simpa using h)
 have hnone:(O++OH.flatten).countP (XF (μ.getD l 0))=0:=by
  refine Nat.eq_zero_of_not_pos fun hp=>?_
  obtain ⟨m',c',hm⟩:=W4.2 hp
  exact (s.inv.own _ m' c' hm).2.2 hlv
 refine ⟨⟨by simp [hlen],by simp [hlenO],?_,?_,?_,?_,?_,?_⟩,⟨s.since.size,?_,?_,?_,?_,s.since.ext,s.since.still⟩⟩
 ·intro b i v hv
  by_cases hb:b=μ.getD l 0
  ·subst hb
   unfold GM.put at hv
   by_cases hc':μ.getD l 0=μ.getD l 0∧0<=i∧i < m
   ·rw [if_pos hc'] at hv
    rw [Xj hc];exact hv
   ·rw [if_neg hc',hA i (Nat.zero_le _)] at hv;simp at hv
  ·rw [hput b hb] at hv
   exact s.inv.cells b i v hv
 ·intro k ys hk
  have hkl:k≠l:=by
   intro hkl
   subst hkl
   rw [List.getElem?_set_self hll] at hk;simp at hk
  rw [List.getElem?_set_ne (fun g=>hkl g.symm)] at hk
  obtain ⟨c2,e',g1,g2,g3⟩:=s.inv.box k ys hk
  exact ⟨c2,e',g1,by
   rw [Zek hkl]
   have:=RepVals.mono (ν:=[]) hle' ys c2.toList _ g2
   simpa using this,g3⟩
 ·intro b hb i
  obtain ⟨h1,h2⟩:=hlive b hb
  rw [hput b h2]
  exact s.inv.loose b h1 i
 ·intro k k' ys ys' hk hk' heq
  have key:∀ (k:Nat) (zs:List LV),(h.set l none)[k]?=some (some zs)->h[k]?=some (some zs):=by
   intro k zs hk
   have hkl:k≠l:=by
    intro hkl
    subst hkl
    rw [List.getElem?_set_self hll] at hk;simp at hk
   rwa [List.getElem?_set_ne (fun g=>hkl g.symm)] at hk
  exact s.inv.apart k k' ys ys' (key k ys hk) (key k' ys' hk') heq
 ·intro b n c' hm
  rcases hmem hm with hm | ⟨rfl,rfl,rfl⟩
  ·obtain ⟨g1,g3,g4⟩:=s.inv.own b n c' hm
   have hne:b≠μ.getD l 0:=fun g=>g4 (g ▸ hlv)
   exact ⟨g1,fun i hi=>by rw [hput b hne];exact g3 i hi,fun g=>g4 (hlive b g).1⟩
  ·refine ⟨⟨c,e,hc,rfl,hcs⟩,fun i hi=>?_,fun g=>(hlive _ g).2 rfl⟩
   unfold GM.put
   rw [if_neg (by omega)]
   exact hA i (Nat.zero_le _)
 ·intro b
  have h1:=hcnt (XF b)
  have h2:=s.inv.once b
  by_cases hb:b=μ.getD l 0
  ·subst hb
   rw [hnone] at h1
   simp [XF] at h1
   simpa [XF] using h1
  ·have:XF b (μ.getD l 0,m,c.size)=false:=by simp [XF];exact fun e=>hb e.symm
   rw [this] at h1
   simp only [Bool.false_eq_true,if_false] at h1
   omega
 ·intro b hb ht
  have hne:b≠μ.getD l 0:=by
   intro g
   rcases s.since.liveT b (g ▸ hlv) with g2 | g2
   ·omega
   ·exact ht g2
  obtain ⟨g1,g2⟩:=s.since.kept b hb ht
  exact ⟨g1,fun i=>by rw [hput b hne];exact g2 i⟩
 ·intro b n c' hm
  rcases hmem hm with hm | ⟨rfl,_,_⟩
  ·exact s.since.ownT b n c' hm
  ·exact s.since.liveT _ hlv
 ·exact fun b hb=>s.since.liveT b (hlive b hb).1
 ·exact fun b i v hv=>hle' b i v (s.since.le b i v hv)
end
structure St where
 t:Nat->LV
 h:List Box
inductive X where
 | t (i:Nat)
 | k (v:LV)
 deriving Inhabited
inductive Md where
 | copy | take | frz | own | part (i:Nat)
 deriving Inhabited
def Md.settled:Md->Bool
 | .take=>true
 | _=>false
inductive Cm where
 | num | str | bool | ptr | slc
 deriving Inhabited
inductive Rw where
 | no | any | fr | ap (sz:Nat)
 deriving Inhabited,DecidableEq
def Rw.mem:Rw->Bool
 | .no=>false
 | _=>true
def Rw.isAp:Rw->Bool
 | .ap _=>true
 | _=>false
inductive I where
 | mv (d:Nat) (m:Md) (x:X)
 | box (d:Nat) (x:X)
 | alloc (d:Nat) (z:List LV)
 | load (d:Nat) (m:Md) (agg:Bool) (sz:Nat) (x:X)
 | store (sz:Nat) (x y:X)
 | bin (d:Nat) (c:Cm) (op:BinOp) (x y:X)
 | un (d:Nat) (op:UnOp) (x:X)
 | build (d:Nat) (z:List LV) (ps:List (Nat×Nat×X))
 | bslice (d:Nat) (sz len:Nat) (z:List LV) (ps:List (Nat×Nat×X))
 | slice (d:Nat) (sz:Nat) (x:X) (lo hi mx:Option X)
 | sliceS (d:Nat) (x:X) (lo hi:Option X)
 | fieldA (d:Nat) (off:Nat) (x:X)
 | field (d:Nat) (agg:Bool) (off sz:Nat) (x:X)
 | indexA (d:Nat) (sz:Nat) (x i:X)
 | indexT (d:Nat) (sz:Nat) (x i:X)
 | loadT (d:Nat) (agg:Bool) (sz:Nat) (x:X)
 | loadP (d i:Nat) (agg:Bool) (sz:Nat) (x:X)
 | indexS (d:Nat) (x i:X)
 | extract (d:Nat) (k:Nat) (x:X)
 | len (d:Nat) (x:X)
 | lenS (d:Nat) (x:X)
 | append (d:Nat) (sz:Nat) (x y:X)
 | mkslice (d:Nat) (sz:Nat) (z:List LV) (n:X)
 | minmax (d:Nat) (mx:Bool) (x y:X)
 | mkfn (d:Nat) (f:FuncId) (m:Bool) (caps:List X)
 | nilchk (d:Nat) (x:X)
 | conv (d:Nat) (k:IntKind) (x:X)
 | call (rw:Rw) (d:Option Nat) (f:X) (args:List X)
 | pick (d:Nat) (c x y:X)
 | bad (d:Option Nat)
 | cap (d:Nat) (x:X)
 | growz (d sz:Nat) (x n:X)
 | cut0 (d sz:Nat) (x hi:X)
 deriving Inhabited
def get (t:Nat->LV):X->LV
 | .t i=>t i
 | .k v=>v
def give (t:Nat->LV):X->(Nat->LV)
 | .t i=>upd t i (share (t i))
 | .k _=>t
def ZB (t:Nat->LV):List X->(Nat->LV)
 | []=>t
 | x::xs=>ZB (give t x) xs
def St.put (s:St) (d:Nat) (x:LV):St:={ s with t:=upd s.t d x }
def St.give (s:St) (x:X):St:={ s with t:=TL.give s.t x }
def LV.cells:LV->List LV
 | .agg xs=>xs
 | x=>[x]
def LV.flat:LV->Bool
 | .tup _=>false
 | .raw _=>false
 | .dead=>false
 | .both _ _=>false
 | .sc u=>u.oneCell'
 | _=>true
def LV.alive:LV->Bool
 | .dead=>false
 | .both _ t=>t.alive && (match t with
  | .raw _=>false
  | _=>true)
 | _=>true
def WK:List LV->Bool
 | []=>true
 | x::xs=>x.alive && WK xs
def Wp (agg:Bool) (xs:List LV):Option LV :=
 if agg then some (.agg xs) else match xs with
 | [x]=>some x
 | _=>none
def splice (xs:List LV) (off:Nat) (ys:List LV):List LV:=xs.take off++ys++xs.drop (off+ys.length)
def Qn (sz:Nat):Nat->List LV->List (List LV)
 | 0,_=>[]
 | n+1,xs=>xs.take sz::Qn sz n (xs.drop sz)
def KS (op:BinOp) (k:IntKind) (a b:Int):Option Value :=
 match op with
 | .add=>some (.int k (k.wrap (a+b)))
 | .sub=>some (.int k (k.wrap (a - b)))
 | .mul=>some (.int k (k.wrap (a * b)))
 | .quo=>if b=0 then none else some (.int k (k.wrap (a.tdiv b)))
 | .rem=>if b=0 then none else some (.int k (a.tmod b))
 | .and=>some (.int k (k.wrap (BitVec.ofInt k.bits a &&& BitVec.ofInt k.bits b).toNat))
 | .or=>some (.int k (k.wrap (BitVec.ofInt k.bits a ||| BitVec.ofInt k.bits b).toNat))
 | .xor=>some (.int k (k.wrap (BitVec.ofInt k.bits a ^^^ BitVec.ofInt k.bits b).toNat))
 | .andNot=>some (.int k (k.wrap (BitVec.ofInt k.bits a &&& ~~~BitVec.ofInt k.bits b).toNat))
 | .eql=>some (.bool (a == b))
 | .neq=>some (.bool (a != b))
 | .lss=>some (.bool (a < b))
 | .leq=>some (.bool (a<=b))
 | .gtr=>some (.bool (a > b))
 | .geq=>some (.bool (a >= b))
 | _=>none
def Zrp (op:BinOp) (a b:ByteArray):Option Value :=
 match op with
 | .add=>if a.size+b.size<=1099511627776 then some (.string (a++b)) else none
 | .eql=>some (.bool (a.toList == b.toList))
 | .neq=>some (.bool !(a.toList == b.toList))
 | .lss=>some (.bool (Op.bytesLess a.toList b.toList))
 | .leq=>some (.bool (Op.bytesLess a.toList b.toList || a.toList == b.toList))
 | .gtr=>some (.bool !(Op.bytesLess a.toList b.toList || a.toList == b.toList))
 | .geq=>some (.bool !(Op.bytesLess a.toList b.toList))
 | _=>none
def nilP:LV->Option Bool
 | .sc (.pointer none)=>some true
 | .ptr _ _=>some false
 | .rp _=>some false
 | _=>none
def nilS:LV->Option Bool
 | .sl _ nil _ _=>some nil
 | .ha _ _ _ _ _=>some false
 | _=>none
def neg (op:BinOp) (b:Bool):Option Value :=
 match op with
 | .eql=>some (.bool b)
 | .neq=>some (.bool !b)
 | _=>none
def XB (c:Cm) (op:BinOp) (x y:LV):Option LV :=
 match c,x,y with
 | .num,.sc (.int k a),.sc (.int k' b) =>
  match op with
  | .shl=>if b < 0 then none else some (.sc (.int k (k.wrap (a * 2 ^ (min b.toNat k.bits)))))
  | .shr=>if b < 0 then none else some (.sc (.int k (a.fdiv (2 ^ (min b.toNat k.bits)))))
  | _=>if k=k' then (KS op k a b).map .sc else none
 | .str,.sc (.string a),.sc (.string b)=>(Zrp op a b).map .sc
 | .bool,.sc (.bool a),.sc (.bool b)=>(neg op (a == b)).map .sc
 | .ptr,x,.sc (.pointer none)=>match nilP x with
  | some b=>(neg op b).map .sc
  | none=>none
 | .slc,x,.sl _ true _ []=>match nilS x with
  | some b=>(neg op b).map .sc
  | none=>none
 | _,_,_=>none
def unLV (op:UnOp) (x:LV):Option LV :=
 match op,x with
 | .neg,.sc (.int k n)=>some (.sc (.int k (k.wrap (0 - n))))
 | .not,.sc (.bool b)=>some (.sc (.bool !b))
 | _,_=>none
def intOf (x:LV):Option Int :=
 match x with
 | .sc (.int _ n)=>some n
 | _=>none
def bound (t:Nat->LV) (d:Int):Option X->Option Int
 | none=>some d
 | some x=>intOf (get t x)
def Zbg:LV->Option Nat
 | .sl _ _ _ xs=>some xs.length
 | .ha _ _ _ n _=>some n
 | _=>none
def Zh3:LV->Option Nat
 | .sc (.string s)=>some s.size
 | _=>none
def Kf (t:Nat->LV):List LV->List (Nat×Nat×X)->Option (List LV)
 | zs,[]=>some zs
 | zs,(off,sz,x)::ps =>
  if (get t x).flat∧(get t x).cells.length=sz∧off+sz<=zs.length then Kf (give t x) (splice zs off (get t x).cells) ps else none
def WX:Nat:=1099511627776
def step (i:I) (s:St):Option St :=
 match i with
 | .mv d .copy x=>some (s.put d (share (get s.t x)))
 | .mv d .take x=>some ((s.give x).put d (get s.t x))
 | .mv d .frz x =>
  match get s.t x with
  | .ptr l 0=>match s.h[l]? with
   | some (some xs)=>some ({ s with h:=s.h.set l none }.put d (.rp xs))
   | _=>none
  | .ha l sz 0 n cap=>match s.h[l]? with
   | some (some xs)=>if xs.length=cap * sz∧n<=cap then some ({ s with h:=s.h.set l none }.put d (.sl true false sz (Qn sz n xs))) else none
   | _=>none
  | _=>none
 | .mv _ .own _=>none
 | .mv _ (.part _) _=>none
 | .box d x=>let v:=get s.t x;if v.flat then some ({ (s.give x) with h:=s.h++[some v.cells] }.put d (.ptr s.h.length 0)) else none
 | .alloc d z=>some ({ s with h:=s.h++[some z] }.put d (.ptr s.h.length 0))
 | .load d m agg sz x =>
  match get s.t x with
  | .ptr l o=>if m.settled=true then none else match s.h[l]? with
   | some (some xs)=>if o+sz<=xs.length∧WK ((xs.drop o).take sz)=true then match Wp agg ((xs.drop o).take sz) with
    | some v=>match m with
     | .copy=>some (s.put d (share v))
     | _=>some ({ s with h:=s.h.set l (some (splice xs o (List.replicate sz .dead))) }.put d v)
    | none=>none
    else none
   | _=>none
  | .rp ys=>if sz<=ys.length then match Wp agg (ys.take sz) with
   | some v=>some (s.put d (share v))
   | none=>none
   else none
  | _=>none
 | .store sz x y =>
  match get s.t x with
  | .ptr l o=>match s.h[l]? with
   | some (some xs)=>let v:=get s.t y;if v.flat∧v.cells.length=sz∧o+sz<=xs.length then some { (s.give y) with h:=s.h.set l (some (splice xs o v.cells)) } else none
   | _=>none
  | _=>none
 | .bin d c op x y=>(XB c op (get s.t x) (get s.t y)).map (s.put d)
 | .un d op x=>(unLV op (get s.t x)).map (s.put d)
 | .build d z ps=>(Kf s.t z ps).map fun zs=>({ s with t:=ZB s.t (ps.map fun p=>p.2.2) }:St).put d (.agg zs)
 | .bslice d sz len z ps=>(Kf s.t z ps).map fun zs=>({ s with t:=ZB s.t (ps.map fun p=>p.2.2) }:St).put d (.sl true false sz (Qn sz len zs))
 | .slice d sz x lo hi mx =>
  match get s.t x with
  | .sl _ nil sz' xs=>match bound s.t 0 lo,bound s.t xs.length hi,bound s.t xs.length mx with
   | some l,some h,some m=>if sz'=sz∧0<=l∧l<=h∧h<=m∧m<=xs.length then some (s.put d (.sl (mx.isSome && decide (l=m)) nil sz (Qv ((xs.take h.toNat).drop l.toNat)))) else none
   | _,_,_=>none
  | .ha b sz' off n cap=>match bound s.t 0 lo,bound s.t n hi,bound s.t n mx with
   | some l,some h,some _=>if sz'=sz∧l=0∧0<=h∧h<=n∧n<=cap∧mx.isSome=false then some (s.put d (.ha b sz off h.toNat cap)) else none
   | _,_,_=>none
  | _=>none
 | .sliceS d x lo hi =>
  match get s.t x with
  | .sc (.string b)=>match bound s.t 0 lo,bound s.t b.size hi with
   | some l,some h=>if 0<=l∧l<=h∧h<=b.size then some (s.put d (.sc (.string (b.extract l.toNat h.toNat)))) else none
   | _,_=>none
  | _=>none
 | .fieldA d off x =>
  match get s.t x with
  | .ptr l o=>some (s.put d (.ptr l (o+off)))
  | .rp ys=>if off<=ys.length then some (s.put d (share (.rp (ys.drop off)))) else none
  | _=>none
 | .field d agg off sz x =>
  match get s.t x with
  | .agg xs=>if off+sz<=xs.length then match Wp agg ((xs.drop off).take sz) with
   | some v=>some (s.put d (share v))
   | none=>none
   else none
  | _=>none
 | .indexA d sz x i =>
  match get s.t x,intOf (get s.t i) with
  | .sl _ _ sz' xs,some i=>if sz'=sz∧0<=i∧i < xs.length then some (s.put d (share (.rp (xs.getD i.toNat [])))) else none
  | .ha l sz' off n _,some i=>if sz'=sz∧0<=i∧i < n then some (s.put d (.ptr l ((off+i.toNat) * sz))) else none
  | _,_=>none
 | .indexT d sz x i =>
  match get s.t x,intOf (get s.t i) with
  | .sl _ _ sz' xs,some i=>if sz'=sz∧0<=i∧i < xs.length then some ((s.give x).put d (.rp (xs.getD i.toNat []))) else none
  | _,_=>none
 | .loadT d agg sz x =>
  match get s.t x with
  | .rp ys=>if sz<=ys.length then match Wp agg (ys.take sz) with
   | some v=>some ((s.give x).put d v)
   | none=>none
   else none
  | _=>none
 | .loadP d i agg sz x =>
  match get s.t x with
  | .ptr l o=>match s.h[l]? with
   | some (some xs)=>if agg=false∧sz=1∧o+1<=xs.length then match (xs.drop o).take 1 with
    | [.sl u nl z Qj]=>if i < Qj.length then
      some ({ s with h:=s.h.set l (some (splice xs o [.sl u nl z (Qj.set i (shareAll (Qj.getD i [])))])) }.put d (.sl false nl z ((Qv Qj).set i (Qj.getD i [])))) else none
    | _=>none
    else none
   | _=>none
  | _=>none
 | .indexS d x i =>
  match get s.t x,intOf (get s.t i) with
  | .sc (.string b),some i=>if 0<=i∧i < b.size then some (s.put d (.sc (.int .u8 ((b.data.toList.getD i.toNat 0).toNat:Int)))) else none
  | _,_=>none
 | .extract d k x =>
  match get s.t x with
  | .tup xs=>match xs[k]? with
   | some v=>match x with
    | .t i=>some ({ s with t:=upd s.t i (.tup (xs.set k (share v))) }.put d v)
    | .k _=>none
   | none=>none
  | _=>none
 | .len d x=>(Zbg (get s.t x)).map fun (n:Nat)=>s.put d (.sc (.int .i64 (n:Int)))
 | .lenS d x=>(Zh3 (get s.t x)).map fun (n:Nat)=>s.put d (.sc (.int .i64 (n:Int)))
 | .append d sz x y =>
  match get s.t x,get (give s.t x) y with
  | .sl u nil sz' xs,.sl _ nil2 sz2 ys =>
   if (u=true∨nil=true∨ys=[])∧(sz'=sz∨nil=true)∧(sz2=sz∨nil2=true)∧xs.length+ys.length<=WX then
    some (((s.give x).give y).put d (.sl (u || !ys.isEmpty) (nil && ys.isEmpty) sz (xs++ys))) else none
  | _,_=>none
 | .mkslice d sz z n =>
  match intOf (get s.t n) with
  | some n=>if 0<=n∧n<=WX then some ({ s with h:=s.h++[some (List.replicate n.toNat z).flatten] }.put d (.ha s.h.length sz 0 n.toNat n.toNat)) else none
  | none=>none
 | .minmax d mx x y =>
  match get s.t x,get s.t y with
  | .sc (.int k a),.sc (.int _ b)=>some (s.put d (.sc (.int k (if (if mx then b > a else b < a) then b else a))))
  | _,_=>none
 | .mkfn d f m caps=>some (s.put d (if m=true then .fnm f (caps.map fun c=>share (get s.t c)) else .fn f (caps.map fun c=>share (get s.t c))))
 | .nilchk d x=>match get s.t x with
  | .ptr l o=>some (s.put d (share (.ptr l o)))
  | .rp ys=>some (s.put d (share (.rp ys)))
  | .fn f caps=>some (s.put d (share (.fn f caps)))
  | .fnm f caps=>some (s.put d (share (.fnm f caps)))
  | _=>none
 | .conv d k x=>(intOf (get s.t x)).map fun n=>s.put d (.sc (.int k (k.wrap n)))
 | .call _ _ _ _=>none
 | .pick d c x y=>match get s.t c with
  | .sc (.bool b)=>some (s.put d (share (get s.t (if b=true then x else y))))
  | _=>none
 | .bad _=>none
 | .cap d x=>match get s.t x with
  | .sl _ true _ _=>some (s.put d (.sc (.int .i64 0)))
  | _=>none
 | .growz d sz x n=>match get s.t x,intOf (get s.t n) with
  | .sl _ true _ _,some n=>if 0 < n∧n<=WX then some (s.put d (.raw sz)) else none
  | _,_=>none
 | .cut0 d sz x hi=>match get s.t x,intOf (get s.t hi) with
  | .raw sz',some n=>if sz'=sz∧n=0 then some ((s.give x).put d (.sl true false sz [])) else none
  | _,_=>none
section
variable (P:Program) (n:Nat)
def zCell:Value->Option LV
 | .slice none 0 0=>some (.sl true true 1 [])
 | .bool b=>some (.sc (.bool b))
 | .int k m=>some (.sc (.int k m))
 | .string s=>some (.sc (.string s))
 | .pointer none=>some (.sc (.pointer none))
 | .nilFunc=>some (.sc .nilFunc)
 | .nilIface=>some (.sc .nilIface)
 | _=>none
def Zib:List Value->Option (List LV)
 | []=>some []
 | v::vs=>match zCell v,Zib vs with
  | some x,some xs=>some (x::xs)
  | _,_=>none
def kLV (e:TypeId):Value->Option LV
 | .slice none 0 0=>match P.underlying e with
  | some (.slice el)=>some (.sl true true (P.cellsOf el) [])
  | _=>some (.sl true true 0 [])
 | .bool b=>some (.sc (.bool b))
 | .int k m=>some (.sc (.int k m))
 | .string s=>some (.sc (.string s))
 | .pointer none=>some (.sc (.pointer none))
 | .nilFunc=>some (.sc .nilFunc)
 | .nilIface=>some (.sc .nilIface)
 | .agg vs=>(Zib vs.toList).map .agg
 | .func (.func f) fs cs=>if fs.size=0∧cs.size=0 then some (.fn f []) else none
 | _=>none
def cX (e:TypeId):Operand->Option X
 | .tmp i=>if i < n then some (.t i) else none
 | .const v=>(kLV P e v).map .k
 | .func f=>some (.k (.fn f []))
 | .global _=>none
def cD (o:Oper):Option Nat:=match o.dst with
 | some d=>if d < n then some d else none
 | none=>none
def Zba (t:TypeId):Option Bool:=match P.underlying t with
 | some (.struct _)=>some true
 | some (.array _ _)=>some true
 | some _=>some false
 | none=>none
def sz? (t:TypeId):Option Nat:=(P.info? t).map (·.size)
def zLV (t:TypeId):Option (List LV) :=
 match P.info? t with
 | some i=>match i.zero with
  | some v=>Zib v.cells.toList
  | none=>none
 | none=>none
def Ze7 (t:TypeId) (f:Nat):Option Field:=match P.underlying t with
 | some (.struct fs)=>fs[f]?
 | _=>none
def Z1 (t:TypeId):Option TypeId:=match P.underlying t with
 | some (.slice e)=>some e
 | _=>none
def cmOf (t:TypeId):Option Cm:=match P.underlying t with
 | some (.int _)=>some .num
 | some .string=>some .str
 | some .bool=>some .bool
 | some (.pointer _)=>some .ptr
 | some (.slice _)=>some .slc
 | _=>none
def ZeT (places:Nat->Option (Nat×Nat)):List (Nat×Operand)->Option (List (Nat×Nat×X))
 | []=>some []
 | (i,x)::ps=>match places i,cX P n 0 x,ZeT places ps with
  | some (off,sz),some y,some r=>some ((off,sz,y)::r)
  | _,_,_=>none
def cXs (ts:List TypeId):List Operand->Option (List X)
 | []=>some []
 | x::xs=>match cX P n (ts.headD 0) x,cXs ts.tail xs with
  | some y,some r=>some (y::r)
  | _,_=>none
def Zjr:Option Operand->Option (Option X)
 | none=>some none
 | some x=>(cX P n 0 x).map some
def Md.rw:Md->Rw
 | .copy=>.no
 | .take=>.any
 | .frz=>.fr
 | .own=>.no
 | .part _=>.no
def QQ (o:Oper) (m0:Md):Option I :=
 match o.op with
 | .move x=>(cD n o).bind fun d=>(cX P n o.type x).map fun y=>.mv d m0 y
 | .pick c x y=>(cD n o).bind fun d=>(cX P n 0 c).bind fun z=>(cX P n o.type x).bind fun u=>(cX P n o.type y).map fun v=>.pick d z u v
 | .assign x=>(cD n o).bind fun d=>(cX P n o.type x).map fun y=>.mv d m0 y
 | .alloc e=>(cD n o).bind fun d=>(zLV P e).map fun z=>.alloc d z
 | .box e x=>(cD n o).bind fun d=>(cX P n e x).map fun y=>.box d y
 | .load t x=>(cD n o).bind fun d=>(cX P n 0 x).bind fun y=>(Zba P t).bind fun a=>(sz? P t).map fun s=>match m0 with | .own=>.loadT d a s y | .part i=>.loadP d i a s y | m=>.load d m a s y
 | .store t x y=>match o.dst with
  | none=>(cX P n 0 x).bind fun a=>(cX P n t y).bind fun b=>(sz? P t).map fun s=>.store s a b
  | some _=>none
 | .binOp op t x y _=>(cD n o).bind fun d=>(cX P n t x).bind fun a=>(cX P n t y).bind fun b=>(cmOf P t).map fun c=>.bin d c op a b
 | .unOp op _ x=>(cD n o).bind fun d=>(cX P n 0 x).map fun a=>.un d op a
 | .build t ps=>match P.underlying t with
  | some (.struct fs)=>(cD n o).bind fun d=>(zLV P t).bind fun z=>(fs.toList.mapM fun f=>(P.info? f.type).map fun i=>(f.offset,i.size)).bind fun pl=>(ZeT P n (fun i=>pl.toArray[i]?) ps.toList).map fun qs=>.build d z qs
  | _=>none
 | .buildSlice t len ps=>(cD n o).bind fun d=>(Z1 P t).bind fun e=>(sz? P e).bind fun s =>
   (if len * s<=16777216∧0 < s then some () else none).bind fun _=>(zLV P e).bind fun z =>
   (if z.length=s then some () else none).bind fun _=>(ZeT P n (fun i=>some (i * s,s)) ps.toList).map fun qs=>.bslice d s len (List.replicate len z).flatten qs
 | .slice t x lo hi mx=>match P.underlying t with
  | some (.slice e)=>(cD n o).bind fun d=>(sz? P e).bind fun s=>(cX P n t x).bind fun a=>(Zjr P n lo).bind fun l=>(Zjr P n hi).bind fun h=>(Zjr P n mx).bind fun m =>
   (if mx.isSome && hi.isNone then none else some ()).map fun _=>match m0,l,h,m with
    | .take,none,some k,none=>.cut0 d s a k
    | _,l,h,m=>.slice d s a l h m
  | some .string=>(cD n o).bind fun d=>(cX P n t x).bind fun a=>(Zjr P n lo).bind fun l=>(Zjr P n hi).bind fun h=>(if mx.isSome then none else some ()).map fun _=>.sliceS d a l h
  | _=>none
 | .fieldAddr t x f=>(cD n o).bind fun d=>(cX P n 0 x).bind fun a=>(Ze7 P t f).bind fun g=>(sz? P g.type).bind fun s=>if s=0 then none else some (.fieldA d g.offset a)
 | .field t x f=>(cD n o).bind fun d=>(cX P n 0 x).bind fun a=>(Ze7 P t f).bind fun g=>(Zba P g.type).bind fun ag=>(sz? P g.type).map fun s=>.field d ag g.offset s a
 | .indexAddr t x i=>(cD n o).bind fun d=>(cX P n t x).bind fun a=>(cX P n 0 i).bind fun b=>(Z1 P t).bind fun e=>(sz? P e).map fun s=>match m0 with | .own=>.indexT d s a b | _=>.indexA d s a b
 | .index t x i=>match P.underlying t with
  | some .string=>(cD n o).bind fun d=>(cX P n t x).bind fun a=>(cX P n 0 i).map fun b=>.indexS d a b
  | _=>none
 | .extract x k=>(cD n o).bind fun d=>(cX P n 0 x).map fun a=>.extract d k a
 | .makeSlice t l c=>(cD n o).bind fun d=>(Z1 P t).bind fun e=>(sz? P e).bind fun s=>(zLV P e).bind fun z =>
   (if z.length=s∧0 < s∧P.bytesOf e<=128 then some () else none).bind fun _=>match l,c with
   | .tmp a,.tmp b=>if a=b∧a < n then some (.mkslice d s z (.t a)) else none
   | _,_=>none
 | .makeFunc (.func f) first caps=>(cD n o).bind fun d=>if first.size=0 then (cXs P n [] caps.toList).map fun cs=>.mkfn d f false cs else if caps.size=0 then (cXs P n [] first.toList).map fun cs=>.mkfn d f true cs else none
 | .nilCheck x=>(cD n o).bind fun d=>(cX P n 0 x).map fun a=>.nilchk d a
 | .convert s t x=>match P.underlying s,P.underlying t with
  | some (.int _),some (.int k)=>(cD n o).bind fun d=>(cX P n 0 x).map fun a=>.conv d k a
  | _,_=>none
 | .call c=>match c.callee,c.args.toList,c.argTypes.toList with
  | .builtin .len,[x],[t]=>match P.underlying t with
   | some .string=>(cD n o).bind fun d=>(cX P n t x).map fun a=>.lenS d a
   | some (.slice _)=>(cD n o).bind fun d=>(cX P n t x).map fun a=>.len d a
   | _=>none
  | .builtin .append,[x,y],[t,u]=>match P.underlying u with
   | some (.slice _)=>(cD n o).bind fun d=>(Z1 P t).bind fun e=>(sz? P e).bind fun s=>(zLV P e).bind fun z =>
    (if z.length=s∧0 < s∧P.bytesOf e<=128 then some () else none).bind fun _=>(cX P n t x).bind fun a=>(cX P n t y).map fun b=>(match m0 with | .own=>.call (.ap s) (some d) (.k (.fn 0 [])) [a,b] | _=>.append d s a b)
   | some (.int _)=>(cD n o).bind fun d=>(Z1 P t).bind fun e=>(sz? P e).bind fun s=>(zLV P e).bind fun z =>
    (if z.length=s∧0 < s∧P.bytesOf e<=128 then some () else none).bind fun _=>(cX P n t x).bind fun a=>(cX P n 0 y).map fun b=>.growz d s a b
   | _=>none
  | .builtin .max,[x,y],_=>(cD n o).bind fun d=>(cX P n 0 x).bind fun a=>(cX P n 0 y).map fun b=>.minmax d true a b
  | .builtin .min,[x,y],_=>(cD n o).bind fun d=>(cX P n 0 x).bind fun a=>(cX P n 0 y).map fun b=>.minmax d false a b
  | .builtin .cap,[x],[t]=>match P.underlying t with
   | some (.slice _)=>(cD n o).bind fun d=>(cX P n t x).map fun a=>.cap d a
   | _=>none
  | .value f,xs,ts=>(match o.dst with
    | none=>some none
    | some d=>if d < n then some (some d) else none).bind fun d=>(cX P n 0 f).bind fun g=>(cXs P n ts xs).map fun ys=>I.call m0.rw d g ys
  | _,_,_=>none
 | _=>none
def Zae (o:Oper) (m:Md):Option I :=
 match QQ P n o m with
 | some i=>some i
 | none=>match o.dst with
  | none=>some (.bad none)
  | some d=>if d < n then some (.bad (some d)) else none
end
def Sim (x:Cx) (n:Nat) (s:St) (a:Act) (w:World):Prop :=
 ∃ A μ OH Ot,a.tmps.size=n∧a.defers=[]∧(∀ i,i < n->Rep A μ (s.t i) (a.tmps.getD i undef) (Ot i))∧St' x w A μ s.h OH (XV n Ot)
def Zjp (Ot:Nat->List Own):X->List Own
 | .t i=>Ot i
 | .k _=>[]
def Zm (Ot:Nat->List Own):X->(Nat->List Own)
 | .t i=>upd Ot i []
 | .k _=>Ot
def XOk (n:Nat):X->Operand->Prop
 | .t i,o=>o=.tmp i∧i < n
 | .k v,o=>∀ (A:GM) (μ:List Nat) (a:Act),Rep A μ v (a.eval o) []
theorem Ztn {v:Value} {l:LV} (h:zCell v=some l) (A:GM) (μ:List Nat):Rep A μ l v []∧v.oneCell'=true:=by
 unfold zCell at h
 split at h<;>first
  | (simp only [Option.some.injEq] at h;subst h;simp [Rep,Value.oneCell'];done)
  | (simp at h;done)
theorem ZcR:∀ {vs:List Value} {ls:List LV},Zib vs=some ls->∀ (A:GM) (μ:List Nat),RepVals A μ ls vs []∧∀ v∈vs,v.oneCell'=true
 | [],ls,h,A,μ=>by simp only [Zib,Option.some.injEq] at h;subst h;simp [RepVals]
 | v::vs,ls,h,A,μ=>by
  simp only [Zib] at h
  split at h
  ·rename_i x xs hx hxs
   simp only [Option.some.injEq] at h;subst h
   obtain ⟨h1,h2⟩:=Ztn hx A μ
   obtain ⟨h3,h4⟩:=ZcR hxs A μ
   exact ⟨by simp only [RepVals];exact ⟨v,vs,[],[],rfl,rfl,h1,h3⟩,by simp [h2];exact h4⟩
  ·simp at h
theorem kLV_rep {P:Program} {e:TypeId} {v:Value} {l:LV} (h:kLV P e v=some l) (A:GM) (μ:List Nat):Rep A μ l v []:=by
 unfold kLV at h
 split at h
 case h_8 vs =>
  simp only [Option.map_eq_some_iff] at h
  obtain ⟨ls,hl,rfl⟩:=h
  obtain ⟨h1,h2⟩:=ZcR hl A μ
  simp only [Rep]
  exact ⟨vs.toList,by simp,h2,h1⟩
 case h_9 f fs cs =>
  split at h
  ·rename_i hz
   simp only [Option.some.injEq] at h;subst h
   obtain ⟨h1,h2⟩:=hz
   rw [Array.size_eq_zero_iff] at h1 h2
   simp [Rep,RepVals,h1,h2]
  ·simp at h
 all_goals first
  | (split at h<;>(simp only [Option.some.injEq] at h;subst h;simp [Rep]);done)
  | (simp only [Option.some.injEq] at h;subst h;simp [Rep];done)
  | (simp at h;done)
theorem W8 {P:Program} {n:Nat} {e:TypeId} {o:Operand} {y:X} (h:cX P n e o=some y):XOk n y o:=by
 cases o with
 | tmp i =>
  simp only [cX] at h
  split at h
  ·simp only [Option.some.injEq] at h;subst h;exact ⟨rfl,by assumption⟩
  ·simp at h
 | const v =>
  simp only [cX,Option.map_eq_some_iff] at h
  obtain ⟨l,hl,rfl⟩:=h
  exact fun A μ a=>kLV_rep hl A μ
 | func f =>
  simp only [cX,Option.some.injEq] at h
  subst h
  exact fun A μ a=>by simp [Rep,RepVals,Act.eval]
 | global g=>simp [cX] at h
theorem Xf {n:Nat} {o:Oper} {d:Nat} (h:cD n o=some d):o.dst=some d∧d < n:=by
 unfold cD at h
 split at h
 ·split at h
  ·simp only [Option.some.injEq] at h;subst h;exact ⟨by assumption,by assumption⟩
  ·simp at h
 ·simp at h
section
variable {A B:GM} {μ ν:List Nat} {n:Nat} {t:Nat->LV} {tm:Array Value} {Ot:Nat->List Own}
theorem QY {a:Act} {y:X} {o:Operand} (hy:XOk n y o) (hr:∀ i,i < n->Rep A μ (t i) (a.tmps.getD i undef) (Ot i)) :
  Rep A μ (get t y) (a.eval o) (Zjp Ot y):=by
 cases y with
 | t i =>
  obtain ⟨rfl,hi⟩:=hy
  exact hr i hi
 | k v=>exact hy A μ a
theorem Vf (y:X) (hr:∀ i,i < n->Rep A μ (t i) (tm.getD i undef) (Ot i)) :
  ∀ i,i < n->Rep A μ (give t y i) (tm.getD i undef) (Zm Ot y i):=by
 cases y with
 | t j =>
  intro i hi
  simp only [give,Zm]
  by_cases h:i=j
  ·subst h;rw [QO,QO];exact Rep.share _ _ _ (hr i hi)
  ·rw [Ws _ _ _ h,Ws _ _ _ h];exact hr i hi
 | k v=>exact hr
theorem Zp {y:X} {o:Operand} (hy:XOk n y o) (p:Own->Bool) :
  (XV n (Zm Ot y)).countP p+(Zjp Ot y).countP p=(XV n Ot).countP p:=by
 cases y with
 | t i =>
  have:=Xe p Ot i [] n hy.2
  simpa [Zm,Zjp] using this
 | k v=>simp [Zm,Zjp]
theorem getD_put (tm:Array Value) (d i:Nat) (v:Value) (hd:d < tm.size) :
  (tm.setIfInBounds d v).getD i undef=if i=d then v else tm.getD i undef:=by
 by_cases h:i=d
 ·subst h;simp [Array.getD_eq_getD_getElem?,hd]
 ·rw [if_neg h,Array.getD_eq_getD_getElem?,Array.getElem?_setIfInBounds_ne (fun e=>h e.symm),<- Array.getD_eq_getD_getElem?]
theorem KB {x:Cx} {a:Act} {w':World} {h':List Box} {OH':List (List Own)} {d:Nat} {v:Value} {lv:LV} {Od:List Own}
  (ht:a.tmps.size=n) (hd0:a.defers=[]) (hr:∀ i,i < n->Rep A μ (t i) (a.tmps.getD i undef) (Ot i)) (hle:A.Le B)
  (hd:d < n) (hv:Rep B (μ++ν) lv v Od) (hs:St' x w' B (μ++ν) h' OH' (XV n (upd Ot d Od))) :
  Sim x n { t:=upd t d lv,h:=h' } (a.put (some d) v) w':=by
 refine ⟨B,μ++ν,OH',upd Ot d Od,by simpa [Act.put] using ht,by simpa [Act.put] using hd0,fun i hi=>?_,hs⟩
 simp only [Act.put]
 rw [getD_put _ _ _ _ (by omega)]
 by_cases h:i=d
 ·subst h;rw [QO,QO,if_pos rfl];exact hv
 ·rw [Ws _ _ _ h,Ws _ _ _ h,if_neg h];exact Rep.mono hle _ _ _ (hr i hi)
theorem Wa {x:Cx} {a:Act} {w:World} {h:List Box} {OH:List (List Own)} {d:Nat} {v:Value} {lv:LV} {Od:List Own} {O:List Own}
  (ht:a.tmps.size=n) (hd0:a.defers=[]) (hr:∀ i,i < n->Rep A μ (t i) (a.tmps.getD i undef) (Ot i))
  (hd:d < n) (hv:Rep A μ lv v Od) (hs:St' x w A μ h OH O) (hf:∀ p:Own->Bool,(XV n Ot).countP p+Od.countP p<=O.countP p) :
  Sim x n { t:=upd t d lv,h:=h } (a.put (some d) v) w:=by
 have:=KB (x:=x) (w':=w) (h':=h) (OH':=OH) (ν:=[]) (B:=A) (lv:=lv) (v:=v) (Od:=Od) ht hd0 hr (fun _ _ _ h=>h) hd (by simpa using hv) (by
  rw [List.append_nil]
  refine hs.fewer fun p=>?_
  have h1:=Xe p Ot d Od n hd
  have h2:=hf p
  omega)
 exact this
end
def Zo (P:Program) (x:Cx) (n:Nat) (o:Oper) (s':St) (a:Act) (w:World):Prop :=
 ∀ (next:Act->World->Prop) (Q:Exit->Act->World->Prop),(∀ a' w',Sim x n s' a' w'->next a' w')->o.wp P a w next Q
theorem QG {P:Program} {x:Cx} {n:Nat} {o:Oper} {s':St} {a:Act} {w w':World} {v:Value}
  (hrun:(execOp a.eval o).run P w=.ok (.value v) w') (h:Sim x n s' (a.put o.dst v) w'):Zo P x n o s' a w:=by
 intro next Q hn
 unfold Oper.wp
 rw [hrun]
 exact hn _ _ h
theorem Zs1 {P:Program} {x:Cx} {n:Nat} {o:Oper} {s':St} {a:Act} {w w':World}
  (hrun:(execOp a.eval o).run P w=.ok .skip w') (h:Sim x n s' (a.put o.dst undef) w'):Zo P x n o s' a w:=by
 intro next Q hn
 unfold Oper.wp
 rw [hrun]
 exact hn _ _ h
section
variable {P:Program} {x:Cx} {n:Nat} {o:Oper} {s s':St} {a:Act} {w:World}
theorem Zmw {d:Nat} {y:X} {u:Operand} (he:execOp a.eval o=pure (.value (a.eval u))) (hd:o.dst=some d) (hdn:d < n) (hy:XOk n y u)
  (hs:step (.mv d .copy y) s=some s') (sim:Sim x n s a w):Zo P x n o s' a w:=by
 obtain ⟨A,μ,OH,Ot,ht,h0,hr,st⟩:=sim
 simp only [step,Option.some.injEq] at hs
 subst hs
 refine QG (v:=a.eval u) (w':=w) (by rw [he];rfl) ?_
 rw [hd]
 exact Wa ht h0 hr hdn (Rep.share _ _ _ (QY hy hr)) st (fun p=>by simp)
theorem Zmp {d:Nat} {y:X} {u:Operand} (he:execOp a.eval o=pure (.value (a.eval u))) (hd:o.dst=some d) (hdn:d < n) (hy:XOk n y u)
  (hs:step (.mv d .take y) s=some s') (sim:Sim x n s a w):Zo P x n o s' a w:=by
 obtain ⟨A,μ,OH,Ot,ht,h0,hr,st⟩:=sim
 simp only [step,Option.some.injEq] at hs
 subst hs
 refine QG (v:=a.eval u) (w':=w) (by rw [he];rfl) ?_
 rw [hd]
 exact Wa ht h0 (Vf y hr) hdn (QY hy hr) st (fun p=>Nat.le_of_eq (Zp hy p))
end
theorem RepVals.dead {A:GM} {μ:List Nat}:∀ vs:List Value,RepVals A μ (List.replicate vs.length .dead) vs []
 | []=>by simp [RepVals]
 | v::vs=>by
  simp only [List.length_cons,List.replicate_succ,RepVals]
  exact ⟨v,vs,[],[],rfl,rfl,by simp [Rep],RepVals.dead vs⟩
mutual
theorem Zbf:∀ x:LV,share (share x)=share x
 | .sc v=>by simp only [share]
 | .sl u nl sz xs=>by simp only [share];rw [Zfm xs]
 | .ha l sz off n cap=>by simp only [share]
 | .raw sz=>by simp only [share]
 | .ptr l o=>by simp only [share]
 | .rp xs=>by simp only [share];rw [Y1 xs]
 | .fn f xs=>by simp only [share];rw [Y1 xs]
 | .fnm f xs=>by simp only [share];rw [Y1 xs]
 | .agg xs=>by simp only [share];rw [Y1 xs]
 | .tup xs=>by simp only [share];rw [Y1 xs]
 | .dead=>by simp only [share]
 | .both _ t=>by simp only [share];exact Zbf t
theorem Y1:∀ xs:List LV,shareAll (shareAll xs)=shareAll xs
 | []=>by simp only [shareAll]
 | x::xs=>by simp only [shareAll];rw [Zbf x,Y1 xs]
theorem Zfm:∀ xs:List (List LV),Qv (Qv xs)=Qv xs
 | []=>by simp only [Qv]
 | x::xs=>by simp only [Qv];rw [Y1 x,Zfm xs]
end
section
variable {A:GM} {μ:List Nat}
theorem RepVals.length:∀ {xs:List LV} {vs:List Value} {O:List Own},RepVals A μ xs vs O->vs.length=xs.length
 | [],vs,O,h=>by simp only [RepVals] at h;simp [h.1]
 | x::xs,vs,O,h=>by
  simp only [RepVals] at h
  obtain ⟨v,ws,O1,O2,rfl,_,_,h4⟩:=h
  simp [RepVals.length h4]
theorem RepVals.app:∀ {xs ys:List LV} {vs ws:List Value} {O1 O2:List Own},RepVals A μ xs vs O1->RepVals A μ ys ws O2->RepVals A μ (xs++ys) (vs++ws) (O1++O2)
 | [],_,_,_,_,_,h,k=>by simp only [RepVals] at h;simpa [h.1,h.2] using k
 | x::xs,_,_,_,_,_,h,k=>by
  simp only [RepVals] at h
  obtain ⟨v,ws,P1,P2,rfl,rfl,h3,h4⟩:=h
  simp only [List.cons_append,RepVals]
  exact ⟨v,_,P1,P2++_,rfl,by rw [List.append_assoc],h3,RepVals.app h4 k⟩
theorem RepVals.split:∀ {xs ys:List LV} {vs:List Value} {O:List Own},RepVals A μ (xs++ys) vs O ->
  ∃ vs1 vs2 O1 O2,vs=vs1++vs2∧O=O1++O2∧RepVals A μ xs vs1 O1∧RepVals A μ ys vs2 O2
 | [],_,vs,O,h=>⟨[],vs,[],O,rfl,rfl,by simp [RepVals],h⟩
 | x::xs,ys,vs,O,h=>by
  simp only [List.cons_append,RepVals] at h
  obtain ⟨v,ws,P1,P2,rfl,rfl,h3,h4⟩:=h
  obtain ⟨vs1,vs2,O1,O2,rfl,rfl,h5,h6⟩:=RepVals.split h4
  exact ⟨v::vs1,vs2,P1++O1,O2,rfl,by rw [List.append_assoc],⟨v,vs1,P1,O1,rfl,rfl,h3,h5⟩,h6⟩
theorem RepVals.mid {xs:List LV} {vs:List Value} {O:List Own} (h:RepVals A μ xs vs O) (o m:Nat) (hl:o+m<=xs.length) :
  ∃ O1 O2 O3,O=O1++O2++O3∧RepVals A μ (xs.take o) (vs.take o) O1∧RepVals A μ ((xs.drop o).take m) ((vs.drop o).take m) O2∧RepVals A μ (xs.drop (o+m)) (vs.drop (o+m)) O3:=by
 have e:xs=xs.take o++((xs.drop o).take m++xs.drop (o+m)):=by
  rw [<- List.drop_drop,List.take_append_drop,List.take_append_drop]
 rw [e] at h
 obtain ⟨v1,v2,O1,Or,rfl,rfl,h1,h2⟩:=RepVals.split h
 obtain ⟨v3,v4,O2,O3,rfl,rfl,h3,h4⟩:=RepVals.split h2
 have l1:=h1.length
 have l3:=h3.length
 simp only [List.length_take,List.length_drop] at l1 l3
 have l1':v1.length=o:=by omega
 have l3':v3.length=m:=by omega
 have e1:(v1++(v3++v4)).take o=v1:=List.take_left' l1'
 have e2:((v1++(v3++v4)).drop o).take m=v3:=by rw [List.drop_left' l1',List.take_left' l3']
 have e3:(v1++(v3++v4)).drop (o+m)=v4:=by rw [<- List.drop_drop,List.drop_left' l1',List.drop_left' l3']
 exact ⟨O1,O2,O3,by rw [List.append_assoc],by rw [e1];exact h1,by rw [e2];exact h3,by rw [e3];exact h4⟩
theorem RepVals.splice {xs ys:List LV} {vs ws:List Value} {O Oy:List Own} (h:RepVals A μ xs vs O) (k:RepVals A μ ys ws Oy) (o:Nat) (hl:o+ys.length<=xs.length) :
  ∃ O',RepVals A μ (TL.splice xs o ys) (vs.take o++ws++vs.drop (o+ys.length)) O'∧(∀ p:Own->Bool,O'.countP p<=O.countP p+Oy.countP p) ∧
   ∃ O1 O2 O3,O=O1++O2++O3∧O'=O1++Oy++O3∧RepVals A μ ((xs.drop o).take ys.length) ((vs.drop o).take ys.length) O2:=by
 obtain ⟨O1,O2,O3,rfl,h1,h2,h3⟩:=h.mid o ys.length hl
 refine ⟨O1++Oy++O3,RepVals.app (RepVals.app h1 k) h3,fun p=>?_,O1,O2,O3,rfl,rfl,h2⟩
 simp only [List.countP_append];omega
theorem Qu.vals:∀ {ys:List LV} {b off:Nat} {O:List Own},Qu A μ ys b off O ->
  ∃ vs,RepVals A μ ys vs O∧∀ j v,vs[j]?=some v->A b (off+j)=some v∧v.oneCell'=true
 | [],b,off,O,h=>⟨[],by simp only [Qu] at h;simp [RepVals,h],by simp⟩
 | y::ys,b,off,O,h=>by
  simp only [Qu] at h
  obtain ⟨v,O1,O2,rfl,h1,h2,h3,h4⟩:=h
  obtain ⟨vs,h5,h6⟩:=Qu.vals h4
  refine ⟨v::vs,⟨v,vs,O1,O2,rfl,rfl,h3,h5⟩,fun j u hj=>?_⟩
  cases j with
  | zero=>simp at hj;subst hj;exact ⟨h1,h2⟩
  | succ j =>
   simp at hj
   have:=h6 j u hj
   rwa [show off+1+j=off+(j+1) by omega] at this
theorem Qu.of:∀ {ys:List LV} {vs:List Value} {b off:Nat} {O:List Own},RepVals A μ ys vs O->(∀ j v,vs[j]?=some v->A b (off+j)=some v∧v.oneCell'=true)->Qu A μ ys b off O
 | [],vs,b,off,O,h,_=>by simp only [RepVals] at h;simp [Qu,h]
 | y::ys,vs,b,off,O,h,k=>by
  simp only [RepVals] at h
  obtain ⟨v,ws,O1,O2,rfl,rfl,h3,h4⟩:=h
  simp only [Qu]
  have h0:=k 0 v (by simp)
  refine ⟨v,O1,O2,rfl,h0.1,h0.2,h3,Qu.of h4 fun j u hj=>?_⟩
  have:=k (j+1) u (by simpa using hj)
  rwa [show off+(j+1)=off+1+j by omega] at this
theorem Zii {x:LV} {v:Value} {O:List Own} (hf:x.flat=true) (h:Rep A μ x v O) :
  RepVals A μ x.cells v.cells.toList O∧∀ c∈v.cells.toList,c.oneCell'=true:=by
 have one:∀ {x:LV},x.cells=[x]->Rep A μ x v O->v.oneCell'=true->v.cells=#[v]->RepVals A μ x.cells v.cells.toList O∧∀ c∈v.cells.toList,c.oneCell'=true:=by
  intro x hx hr h1 hc
  rw [hx,hc]
  exact ⟨by simp only [RepVals];exact ⟨v,[],O,[],rfl,by simp,hr,by simp⟩,by simpa using h1⟩
 cases x with
 | agg xs =>
  simp only [Rep] at h
  obtain ⟨vs,rfl,h0,h2⟩:=h
  exact ⟨by simpa [LV.cells,Value.cells] using h2,by simpa [Value.cells] using h0⟩
 | tup xs=>simp [LV.flat] at hf
 | dead=>simp [LV.flat] at hf
 | both u t=>simp [LV.flat] at hf
 | raw sz=>simp [LV.flat] at hf
 | sc u =>
  have h':=h
  simp only [Rep] at h
  obtain ⟨rfl,_⟩:=h
  refine one rfl h' hf ?_
  cases v<;>first | rfl | simp [LV.flat,Value.oneCell'] at hf
 | sl u nil sz xs =>
  have h':=h
  simp only [Rep] at h
  rcases h with ⟨_,rfl,_⟩ | ⟨_,b,off,sp,cap,O',rfl,_⟩<;>exact one rfl h' rfl rfl
 | ha l sz off len cap =>
  have h':=h
  simp only [Rep] at h
  obtain ⟨_,_,rfl⟩:=h
  exact one rfl h' rfl rfl
 | ptr l o =>
  have h':=h
  simp only [Rep] at h
  obtain ⟨_,_,rfl⟩:=h
  exact one rfl h' rfl rfl
 | rp ys =>
  have h':=h
  simp only [Rep] at h
  obtain ⟨b,off,rfl,_⟩:=h
  exact one rfl h' rfl rfl
 | fn f caps =>
  have h':=h
  simp only [Rep] at h
  obtain ⟨vs,rfl,_⟩:=h
  exact one rfl h' rfl rfl
 | fnm f caps =>
  have h':=h
  simp only [Rep] at h
  obtain ⟨vs,rfl,_⟩:=h
  exact one rfl h' rfl rfl
end
section
variable {P:Program} {w:World}
def Yh (c:Array Value):Nat->List Value->Array Value
 | _,[]=>c
 | o,v::vs=>Yh (c.setIfInBounds o v) (o+1) vs
theorem Zee:∀ (vs:List Value) (c:Array Value) (o:Nat),(Yh c o vs).size=c.size
 | [],_,_=>rfl
 | v::vs,c,o=>by simp [Yh,Zee vs]
theorem Zk2:∀ (vs:List Value) (c:Array Value) (o:Nat),(∀ v∈c.toList,v.oneCell'=true)->(∀ v∈vs,v.oneCell'=true)->∀ v∈(Yh c o vs).toList,v.oneCell'=true
 | [],_,_,h,_=>h
 | u::vs,c,o,h,g=>by
  refine Zk2 vs _ _ (fun v hv=>?_) (fun v hv=>g v (List.mem_cons_of_mem _ hv))
  rw [Array.toList_setIfInBounds] at hv
  rcases List.mem_or_eq_of_mem_set hv with hv | rfl
  ·exact h v hv
  ·exact g _ (List.mem_cons_self ..)
theorem Zdg:∀ (vs:List Value) (c:Array Value) (o i:Nat),o+vs.length<=c.size ->
  (Yh c o vs)[i]?=if o<=i∧i < o+vs.length then vs[i - o]? else c[i]?
 | [],c,o,i,_=>by simp [Yh];omega
 | v::vs,c,o,i,h=>by
  simp only [List.length_cons] at h
  rw [Yh,Zdg vs _ _ _ (by simp;omega)]
  by_cases h1:o+1<=i∧i < o+1+vs.length
  ·rw [if_pos h1,if_pos (by simp;omega),show i - o=(i - (o+1))+1 by omega];simp
  ·rw [if_neg h1]
   by_cases h2:i=o
   ·subst h2
    rw [if_pos (by simp),Nat.sub_self,List.getElem?_cons_zero,Array.getElem?_setIfInBounds_self_of_lt (by omega)]
   ·rw [if_neg (by simp;omega),Array.getElem?_setIfInBounds_ne (fun e=>h2 e.symm)]
theorem Zb3 (vs:List Value) (c:Array Value) (o:Nat) (h:o+vs.length<=c.size) :
  (Yh c o vs).toList=c.toList.take o++vs++c.toList.drop (o+vs.length):=by
 apply List.ext_getElem?
 intro i
 rw [Array.getElem?_toList,Zdg vs c o i h]
 have hs:c.toList.length=c.size:=rfl
 by_cases h1:o<=i∧i < o+vs.length
 ·rw [if_pos h1,List.getElem?_append_left (by simp;omega),List.getElem?_append_right (by simp;omega)]
  simp;congr 1;omega
 ·rw [if_neg h1]
  by_cases h2:i < o
  ·rw [List.getElem?_append_left (by simp;omega),List.getElem?_append_left (by simp;omega),List.getElem?_take,if_pos h2];simp
  ·rw [List.getElem?_append_right (by simp;omega),List.getElem?_drop]
   simp only [List.length_append,List.length_take]
   rw [Array.getElem?_toList]
   congr 1;omega
theorem YW {w:World} {b:Nat} {o:Obj} (h:w.heap[b]?=some o):({ w with heap:=w.heap.setIfInBounds b o }:World)=w:=by
 have:w.heap.setIfInBounds b o=w.heap:=by
  apply Array.ext_getElem?
  intro i
  by_cases hi:i=b
  ·subst hi;rw [ZT (XS h)];exact h.symm
  ·exact Xk hi
 rw [this]
theorem Zm1 {b o:Nat} {c:Array Value} {e:TypeId} {v:Value} (h:w.heap[b]?=some (.cells c e (0,0))) :
  w.setCell ⟨b,o,none⟩ v={ w with heap:=w.heap.setIfInBounds b (.cells (c.setIfInBounds o v) e (0,0)) }:=by
 unfold World.setCell
 congr 1
 apply Array.ext_getElem?
 intro i
 rw [Array.getElem?_modify]
 by_cases hi:i=b
 ·subst hi
  rw [ZT (XS h),h];simp
 ·rw [Xk hi]
  rw [if_neg (fun e=>hi e.symm)]
theorem Ky {b off e:Nat}:∀ (vs:List Value) (i:Nat) (c:Array Value) (w:World),w.heap[b]?=some (.cells c e (0,0))->(∀ v∈vs,v.oneCell'=true)->off+i+vs.length<=c.size ->
  (storeCells ⟨b,off,none⟩ vs i).run P w=.ok () { w with heap:=w.heap.setIfInBounds b (.cells (Yh c (off+i) vs) e (0,0)) }
 | [],i,c,w,hb,_,_=>by
  simp only [storeCells,Yh]
  rw [YW hb];rfl
 | v::vs,i,c,w,hb,h1,hl=>by
  simp only [List.length_cons] at hl
  have ha:(⟨b,off,none⟩:Addr).add i=⟨b,off+i,none⟩:=by
   unfold Addr.add;split<;>simp_all
  have hcell:w.cell? ⟨b,off+i,none⟩=some c[off+i]:=by
   rw [Xj hb];exact Array.getElem?_eq_getElem (by omega)
  have hfr:w.frozen? ⟨b,off+i,none⟩=false:=by simp [World.frozen?,hb]
  simp only [storeCells,Sem.run_bind,ha]
  rw [run_store _ _ _ _ _ (h1 v (by simp)),hcell]
  simp only [hfr,Bool.false_eq_true,if_false,Result.andThen_ok]
  rw [Zm1 hb]
  have hb2:(w.heap.setIfInBounds b (.cells (c.setIfInBounds (off+i) v) e (0,0)))[b]?=some (.cells (c.setIfInBounds (off+i) v) e (0,0)):=ZT (XS hb)
  have:=Ky (off:=off) vs (i+1) (c.setIfInBounds (off+i) v) { w with heap:=w.heap.setIfInBounds b (.cells (c.setIfInBounds (off+i) v) e (0,0)) } hb2 (fun u hu=>h1 u (by simp [hu])) (by simp;omega)
  rw [this]
  simp only [Yh,Array.setIfInBounds_setIfInBounds]
  rfl
end
theorem Zgg {P:Program} {t:TypeId} {z:List LV} (h:zLV P t=some z) :
  ∃ i v,P.info? t=some i∧i.zero=some v∧(∀ (A:GM) (μ:List Nat),RepVals A μ z v.cells.toList [])∧∀ c∈v.cells.toList,c.oneCell'=true:=by
 unfold zLV at h
 split at h
 ·rename_i i hi
  split at h
  ·rename_i v hv
   exact ⟨i,v,hi,hv,fun A μ=>(ZcR h A μ).1,(ZcR h (fun _ _=>none) []).2⟩
  ·simp at h
 ·simp at h
theorem Znx {P:Program} {t:TypeId} {b:Bool} (h:Zba P t=some b) (w:World):(isAgg t).run P w=.ok b w:=by
 unfold Zba at h
 unfold isAgg underlying
 split at h
 ·rename_i fs hu;simp at h;subst h;simp [hu]
 ·rename_i k e hu;simp at h;subst h;simp [hu]
 ·rename_i d h1 h2 hu
  simp at h;subst h;simp [hu]
 ·simp at h
theorem ZqP {P:Program} {t:TypeId} {s:Nat} (h:sz? P t=some s):∃ i,P.info? t=some i∧i.size=s:=by
 unfold sz? at h
 simpa [Option.map_eq_some_iff] using h
theorem X9 {P:Program} {t:TypeId} {s:Nat} (h:sz? P t=some s) (w:World):(sizeOf t).run P w=.ok s w:=by
 obtain ⟨i,hi,rfl⟩:=ZqP h
 simp [sizeOf,typeInfo,hi]
theorem KY (b o i:Nat):(⟨b,o,none⟩:Addr).add i=⟨b,o+i,none⟩:=by
 unfold Addr.add;split<;>simp_all
section
variable {P:Program} {x:Cx} {n:Nat} {o:Oper} {s s':St} {a:Act} {w:World}
theorem V7 {μ:List Nat} {h:List Box} {k:Nat} (hl:μ.length=h.length):(μ++[k]).getD h.length 0=k:=by
 rw [List.getD_eq_getElem?_getD,List.getElem?_append_right (by omega)]
 simp [hl]
theorem Zpt {d:Nat} {z:List LV} {e:TypeId} (ho:o.op=.alloc e) (hd:o.dst=some d) (hdn:d < n) (hz:zLV P e=some z)
  (hs:step (.alloc d z) s=some s') (sim:Sim x n s a w):Zo P x n o s' a w:=by
 obtain ⟨A,μ,OH,Ot,ht,h0,hr,st⟩:=sim
 simp only [step,Option.some.injEq] at hs
 subst hs
 obtain ⟨i,v,hi,hv,hrep,hone⟩:=Zgg hz
 refine QG (v:=.pointer (some ⟨w.heap.size,0,none⟩)) (w':={ w with heap:=w.heap.push (.cells v.cells e (0,0)) }) (by
  simp [execOp,ho,Instr.alloc,zeroValue,typeInfo,hi,hv,newVar,newRow]) ?_
 rw [hd]
 have st':=st.newBox v.cells.toList e z [] (XV n (upd Ot d [])) (hrep A μ) hone (fun p=>by
  have:=Xe p Ot d [] n hdn
  simp at this ⊢;omega)
 refine KB (ν:=[w.heap.size]) (Od:=[]) ht h0 hr (fun _ _ _ h=>h) hdn ?_ st'
 simp only [Rep]
 refine ⟨trivial,by simp [st.inv.len],?_⟩
 rw [V7 st.inv.len]
theorem Ztq {d:Nat} {y:X} {u:Operand} {e:TypeId} (ho:o.op=.box e u) (hd:o.dst=some d) (hdn:d < n) (hy:XOk n y u)
  (hs:step (.box d y) s=some s') (sim:Sim x n s a w):Zo P x n o s' a w:=by
 obtain ⟨A,μ,OH,Ot,ht,h0,hr,st⟩:=sim
 simp only [step] at hs
 split at hs
 ·rename_i hflat
  simp only [Option.some.injEq] at hs
  subst hs
  obtain ⟨hrep,hone⟩:=Zii hflat (QY hy hr)
  refine QG (v:=.pointer (some ⟨w.heap.size,0,none⟩)) (w':={ w with heap:=w.heap.push (.cells (a.eval u).cells e (0,0)) }) (by
   simp [execOp,ho,Instr.box,newVar,newRow]) ?_
  rw [hd]
  have st':=st.newBox (a.eval u).cells.toList e _ (Zjp Ot y) (XV n (upd (Zm Ot y) d [])) hrep hone (fun p=>by
   have h1:=Xe p (Zm Ot y) d [] n hdn
   have h2:=Zp (Ot:=Ot) hy p
   simp at h1 ⊢;omega)
  refine KB (ν:=[w.heap.size]) (Od:=[]) ht h0 (Vf y hr) (fun _ _ _ h=>h) hdn ?_ st'
  simp only [Rep]
  refine ⟨trivial,by simp [st.inv.len],?_⟩
  rw [V7 st.inv.len]
 ·simp at hs
theorem V4 {A:GM} {μ:List Nat} {agg:Bool} {xs:List LV} {v:LV} {vs:List Value} {O:List Own} (h:Wp agg xs=some v) (hr:RepVals A μ xs vs O)
  (h1:∀ c∈vs,c.oneCell'=true):∃ u,Rep A μ v u O∧u=(if agg then .agg vs.toArray else vs.headD undef)∧(agg=false->vs=[u]):=by
 unfold Wp at h
 cases agg with
 | true =>
  simp only [if_true,Option.some.injEq] at h
  subst h
  exact ⟨_,by simp only [Rep];exact ⟨vs,rfl,h1,hr⟩,rfl,by simp⟩
 | false =>
  simp only [Bool.false_eq_true,if_false] at h
  split at h
  ·simp only [Option.some.injEq] at h
   subst h
   simp only [RepVals] at hr
   obtain ⟨u,ws,O1,O2,rfl,rfl,h3,rfl,rfl⟩:=hr
   exact ⟨u,by simpa using h3,by simp,fun _=>rfl⟩
  ·simp at h
theorem Zed {t:TypeId} {agg:Bool} {sz b off:Nat} {vs:List Value} (ha:Zba P t=some agg) (hsz:sz? P t=some sz) (hl:vs.length=sz)
  (hc:∀ j v,vs[j]?=some v->w.cell? ⟨b,off+j,none⟩=some v) (h1:agg=false->∃ u,vs=[u]) :
  (loadVar t ⟨b,off,none⟩).run P w=.ok (if agg then .agg vs.toArray else vs.headD undef) w:=by
 unfold loadVar
 rw [Sem.run_bind,Znx ha w]
 cases agg with
 | true =>
  simp only [Result.andThen_ok,if_true]
  rw [Sem.run_bind,X9 hsz w]
  simp only [Result.andThen_ok,Sem.run_bind]
  have:=run_loadCells_list (P:=P) (w:=w) ⟨b,off,none⟩ vs (fun j v hj=>by rw [KY];exact hc j v hj)
  rw [hl] at this
  rw [this]
  simp
 | false =>
  obtain ⟨u,rfl⟩:=h1 rfl
  have:=hc 0 u (by simp)
  simp only [Nat.add_zero] at this
  simp [this]
theorem ZbQ {vs:List Value} {o m j:Nat} {v:Value} (h:((vs.drop o).take m)[j]?=some v):vs[o+j]?=some v:=by
 rw [List.getElem?_take] at h
 split at h
 ·rwa [List.getElem?_drop] at h
 ·simp at h
theorem Zqq {d sz:Nat} {agg:Bool} {y:X} {u:Operand} {t:TypeId} (ho:o.op=.load t u) (hd:o.dst=some d) (hdn:d < n) (hy:XOk n y u)
  (ha:Zba P t=some agg) (hsz:sz? P t=some sz) (hs:step (.loadT d agg sz y) s=some s') (sim:Sim x n s a w):Zo P x n o s' a w:=by
 obtain ⟨A,μ,OH,Ot,ht,h0,hr,st⟩:=sim
 have hrep:=QY hy hr
 have hexec:∀ (ad:Addr) (v:Value),a.eval u=.pointer (some ad)->(loadVar t ad).run P w=.ok v w->(execOp a.eval o).run P w=.ok (.value v) w:=by
  intro ad v hu hv
  simp [execOp,ho,Instr.loadAt,hu,Instr.sureAddr,hv]
 simp only [step] at hs
 split at hs
 ·
  rename_i ys hg
  rw [hg] at hrep
  simp only [Rep] at hrep
  obtain ⟨b,off,hu,hc⟩:=hrep
  split at hs
  ·rename_i hle
   split at hs
   ·rename_i v hv
    obtain ⟨vs,hvs,hA⟩:=hc.vals
    have hlen:=hvs.length
    obtain ⟨O1,O2,O3,hO,_,hpart,_⟩:=hvs.mid 0 sz (by omega)
    simp only [List.drop_zero] at hpart
    have hcell:∀ j v',(vs.take sz)[j]?=some v'->w.cell? ⟨b,off+j,none⟩=some v':=by
     intro j v' hj
     refine st.inv.cells _ _ _ (hA j v' ?_).1
     rw [List.getElem?_take] at hj
     split at hj
     ·exact hj
     ·simp at hj
    have hone2:∀ v'∈vs.take sz,v'.oneCell'=true:=by
     intro v' hv'
     obtain ⟨j,hj⟩:=List.getElem?_of_mem (List.mem_of_mem_take hv')
     exact (hA j v' hj).2
    obtain ⟨uv,huv,hue,hu1⟩:=V4 hv hpart hone2
    have hrun:=Zed (P:=P) (w:=w) (vs:=vs.take sz) ha hsz (by simp;omega) hcell (fun h=>⟨uv,hu1 h⟩)
    rw [<- hue] at hrun
    have hex:=hexec _ _ hu hrun
    simp only [Option.some.injEq] at hs
    subst hs
    refine QG hex ?_
    rw [hd]
    refine Wa (Ot:=Zm Ot y) (Od:=O2) ht h0 (Vf y hr) hdn huv st (fun p=>?_)
    have h7:=Zp hy p (Ot:=Ot)
    rw [hO] at h7
    simp only [List.countP_append] at h7
    omega
   ·simp at hs
  ·simp at hs
 ·simp at hs
theorem ZrP {d sz:Nat} {m:Md} {agg:Bool} {y:X} {u:Operand} {t:TypeId} (ho:o.op=.load t u) (hd:o.dst=some d) (hdn:d < n) (hy:XOk n y u)
  (ha:Zba P t=some agg) (hsz:sz? P t=some sz) (hs:step (.load d m agg sz y) s=some s') (sim:Sim x n s a w):Zo P x n o s' a w:=by
 obtain ⟨A,μ,OH,Ot,ht,h0,hr,st⟩:=sim
 have hrep:=QY hy hr
 have hexec:∀ (ad:Addr) (v:Value),a.eval u=.pointer (some ad)->(loadVar t ad).run P w=.ok v w->(execOp a.eval o).run P w=.ok (.value v) w:=by
  intro ad v hu hv
  simp [execOp,ho,Instr.loadAt,hu,Instr.sureAddr,hv]
 simp only [step] at hs
 split at hs
 ·
  rename_i l off hg
  rw [hg] at hrep
  simp only [Rep] at hrep
  obtain ⟨_,hlμ,hu⟩:=hrep
  split at hs
  ·simp at hs
  split at hs
  ·rename_i xs hl
   split at hs
   ·rename_i hle
    obtain ⟨hle,_⟩:=hle
    split at hs
    ·rename_i v hv
     obtain ⟨c,e,hc,hxs,hone⟩:=st.inv.box l xs hl
     have hlen:=hxs.length
     have hcell:∀ j v',((c.toList.drop off).take sz)[j]?=some v'->w.cell? ⟨μ.getD l 0,off+j,none⟩=some v':=by
      intro j v' hj
      rw [Xj hc,<- Array.getElem?_toList]
      exact ZbQ hj
     have hlen2:((c.toList.drop off).take sz).length=sz:=by simp at hlen ⊢;omega
     have hone2:∀ v'∈(c.toList.drop off).take sz,v'.oneCell'=true:=fun v' hv'=>hone v' (List.mem_of_mem_drop (List.mem_of_mem_take hv'))
     have hsl:=RepVals.splice (ys:=List.replicate sz .dead) (ws:=(c.toList.drop off).take sz) (Oy:=[]) hxs (by
      have:=RepVals.dead (A:=A) (μ:=μ) ((c.toList.drop off).take sz)
      rwa [hlen2] at this) off (by simp;omega)
     obtain ⟨O',hO',_,O1,O2,O3,hO,hO'',hpart⟩:=hsl
     rw [List.length_replicate] at hO' hpart
     obtain ⟨uv,huv,hue,hu1⟩:=V4 hv hpart hone2
     have hrun:=Zed (P:=P) (w:=w) (vs:=(c.toList.drop off).take sz) ha hsz hlen2 hcell (fun h=>⟨uv,hu1 h⟩)
     rw [<- hue] at hrun
     have hex:=hexec _ _ hu hrun
     split at hs
     ·simp only [Option.some.injEq] at hs
      subst hs
      refine QG hex ?_
      rw [hd]
      exact Wa ht h0 hr hdn (Rep.share _ _ _ huv) st (fun p=>by simp)
     ·simp only [Option.some.injEq] at hs
      subst hs
      refine QG hex ?_
      rw [hd]
      have hsame:c.toList.take off++(c.toList.drop off).take sz++c.toList.drop (off+sz)=c.toList:=by
       rw [List.append_assoc,<- List.drop_drop,List.take_append_drop,List.take_append_drop]
      rw [hsame] at hO'
      have st':=st.setBox hl c e (splice xs off (List.replicate sz .dead)) O' (XV n (upd Ot d O2)) hO' hone (fun p=>by
       have h1:=Xe p Ot d O2 n hdn
       rw [hO,hO'']
       simp only [List.countP_append,List.countP_nil]
       omega)
      rw [YW hc] at st'
      have:=KB (x:=x) (w':=w) (ν:=[]) (B:=A) (lv:=v) (v:=uv) (Od:=O2) ht h0 hr (fun _ _ _ h=>h) hdn (by simpa using huv) (by
       rw [List.append_nil];exact st')
      exact this
    ·simp at hs
   ·simp at hs
  ·simp at hs
 ·
  rename_i ys hg
  rw [hg] at hrep
  simp only [Rep] at hrep
  obtain ⟨b,off,hu,hc⟩:=hrep
  split at hs
  ·rename_i hle
   split at hs
   ·rename_i v hv
    obtain ⟨vs,hvs,hA⟩:=hc.vals
    have hlen:=hvs.length
    obtain ⟨O1,O2,O3,_,_,hpart,_⟩:=hvs.mid 0 sz (by omega)
    simp only [List.drop_zero] at hpart
    have hcell:∀ j v',(vs.take sz)[j]?=some v'->w.cell? ⟨b,off+j,none⟩=some v':=by
     intro j v' hj
     refine st.inv.cells _ _ _ (hA j v' ?_).1
     rw [List.getElem?_take] at hj
     split at hj
     ·exact hj
     ·simp at hj
    have hone2:∀ v'∈vs.take sz,v'.oneCell'=true:=by
     intro v' hv'
     obtain ⟨j,hj⟩:=List.getElem?_of_mem (List.mem_of_mem_take hv')
     exact (hA j v' hj).2
    obtain ⟨uv,huv,hue,hu1⟩:=V4 hv hpart hone2
    have hrun:=Zed (P:=P) (w:=w) (vs:=vs.take sz) ha hsz (by simp;omega) hcell (fun h=>⟨uv,hu1 h⟩)
    rw [<- hue] at hrun
    have hex:=hexec _ _ hu hrun
    simp only [Option.some.injEq] at hs
    subst hs
    refine QG hex ?_
    rw [hd]
    exact Wa ht h0 hr hdn (Rep.share _ _ _ huv) st (fun p=>by simp)
   ·simp at hs
  ·simp at hs
 ·simp at hs
theorem Qw.splitC {A:GM} {μ:List Nat}:∀ {Qj:List (List LV)} {i sz b off:Nat} {O:List Own},i < Qj.length->Qw A μ Qj sz b off O ->
  ∃ O1 O2,(∀ p:Own->Bool,O.countP p=O1.countP p+O2.countP p)∧Qw A μ (Qj.set i (shareAll (Qj.getD i []))) sz b off O1∧Qw A μ ((Qv Qj).set i (Qj.getD i [])) sz b off O2
 | [],i,_,_,_,_,hi,_=>by simp at hi
 | x::xs,0,sz,b,off,O,_,h=>by
  simp only [Qw] at h
  obtain ⟨Ox,Oxs,rfl,hl,h1,h2⟩:=h
  refine ⟨Oxs,Ox,fun p=>by simp [Nat.add_comm],?_,?_⟩
  ·simp only [List.set_cons_zero,List.getD_cons_zero,Qw]
   exact ⟨[],Oxs,rfl,by rw [We];exact hl,Qu.share _ _ _ _ h1,h2⟩
  ·simp only [Qv,List.set_cons_zero,List.getD_cons_zero,Qw]
   exact ⟨Ox,[],by simp,hl,h1,Qw.share _ _ _ _ _ h2⟩
 | x::xs,i+1,sz,b,off,O,hi,h=>by
  simp only [Qw] at h
  obtain ⟨Ox,Oxs,rfl,hl,h1,h2⟩:=h
  obtain ⟨O1,O2,hc,k1,k2⟩:=Qw.splitC (i:=i) (by simpa using hi) h2
  refine ⟨Ox++O1,O2,fun p=>by simp [hc];omega,?_,?_⟩
  ·simp only [List.set_cons_succ,List.getD_cons_succ,Qw]
   exact ⟨Ox,O1,rfl,hl,h1,k1⟩
  ·simp only [Qv,List.set_cons_succ,List.getD_cons_succ,Qw]
   exact ⟨[],O2,rfl,by rw [We];exact hl,Qu.share _ _ _ _ h1,k2⟩
theorem Rep.splitC {A:GM} {μ:List Nat} {u nl:Bool} {sz i:Nat} {Qj:List (List LV)} {v:Value} {O:List Own} (hi:i < Qj.length) (h:Rep A μ (.sl u nl sz Qj) v O) :
  ∃ O1 O2,(∀ p:Own->Bool,O.countP p=O1.countP p+O2.countP p)∧Rep A μ (.sl u nl sz (Qj.set i (shareAll (Qj.getD i [])))) v O1∧Rep A μ (.sl false nl sz ((Qv Qj).set i (Qj.getD i []))) v O2:=by
 simp only [Rep] at h
 rcases h with ⟨_,_,rfl,_⟩ | ⟨h1,b,off,sp,cap,O',h2,hs,h3,h4,h5⟩
 ·simp at hi
 ·obtain ⟨O1,O2,hc,k1,k2⟩:=h4.splitC hi
  have hsp:sp=none:=hs.elim id fun k=>by rw [k.1] at hi;simp at hi
  subst hsp
  rcases h5 with ⟨hu,h0,rfl⟩ | ⟨hu,rfl⟩
  ·refine ⟨(b,Qj.length * sz,cap * sz)::O1,O2,fun p=>by simp only [List.countP_cons,hc];omega,?_,?_⟩
   ·simp only [Rep]
    exact .inr ⟨h1,b,off,none,cap,O1,by simpa using h2,.inl rfl,by simpa using h3,k1,.inl ⟨hu,h0,by simp⟩⟩
   ·simp only [Rep]
    exact .inr ⟨h1,b,off,none,cap,O2,by simpa [Xc] using h2,.inl rfl,by simpa [Xc] using h3,k2,.inr ⟨.inl trivial,rfl⟩⟩
  ·refine ⟨O1,O2,hc,?_,?_⟩
   ·simp only [Rep]
    exact .inr ⟨h1,b,off,none,cap,O1,by simpa using h2,.inl rfl,by simpa using h3,k1,.inr ⟨hu,rfl⟩⟩
   ·simp only [Rep]
    exact .inr ⟨h1,b,off,none,cap,O2,by simpa [Xc] using h2,.inl rfl,by simpa [Xc] using h3,k2,.inr ⟨.inl trivial,rfl⟩⟩
theorem ZpO {d i sz:Nat} {agg:Bool} {y:X} {u:Operand} {t:TypeId} (ho:o.op=.load t u) (hd:o.dst=some d) (hdn:d < n) (hy:XOk n y u)
  (ha:Zba P t=some agg) (hsz:sz? P t=some sz) (hs:step (.loadP d i agg sz y) s=some s') (sim:Sim x n s a w):Zo P x n o s' a w:=by
 obtain ⟨A,μ,OH,Ot,ht,h0,hr,st⟩:=sim
 have hrep:=QY hy hr
 have hexec:∀ (ad:Addr) (v:Value),a.eval u=.pointer (some ad)->(loadVar t ad).run P w=.ok v w->(execOp a.eval o).run P w=.ok (.value v) w:=by
  intro ad v hu hv
  simp [execOp,ho,Instr.loadAt,hu,Instr.sureAddr,hv]
 simp only [step] at hs
 split at hs
 ·rename_i l off hg
  rw [hg] at hrep
  simp only [Rep] at hrep
  obtain ⟨_,hlμ,hu⟩:=hrep
  split at hs
  ·rename_i xs hl
   split at hs
   ·rename_i hle
    obtain ⟨rfl,rfl,hle⟩:=hle
    split at hs
    ·rename_i u' nl z Qj hx1
     split at hs
     ·rename_i hi
      simp only [Option.some.injEq] at hs
      subst hs
      obtain ⟨c,e,hc,hxs,hone⟩:=st.inv.box l xs hl
      have hlen:=hxs.length
      have hlen2:((c.toList.drop off).take 1).length=1:=by simp at hlen ⊢;omega
      have hcell:∀ j v',((c.toList.drop off).take 1)[j]?=some v'->w.cell? ⟨μ.getD l 0,off+j,none⟩=some v':=by
       intro j v' hj
       rw [Xj hc,<- Array.getElem?_toList]
       exact ZbQ hj
      obtain ⟨P1,P2,P3,hP,hp1,hpart,hp3⟩:=hxs.mid off 1 hle
      rw [hx1] at hpart
      simp only [RepVals] at hpart
      obtain ⟨uv,ws,Q1,Q2,hvs,rfl,huv,rfl,rfl⟩:=hpart
      obtain ⟨O1,O2,hcnt,k1,k2⟩:=huv.splitC hi
      have hrun:=Zed (P:=P) (w:=w) (vs:=(c.toList.drop off).take 1) ha hsz hlen2 hcell (fun _=>⟨uv,hvs⟩)
      rw [hvs] at hrun
      have hex:=hexec _ _ hu hrun
      refine QG hex ?_
      rw [hd]
      have hO':RepVals A μ (splice xs off [.sl u' nl z (Qj.set i (shareAll (Qj.getD i [])))]) c.toList (P1++O1++P3):=by
       have hsame:c.toList.take off++(c.toList.drop off).take 1++c.toList.drop (off+1)=c.toList:=by
        rw [List.append_assoc,<- List.drop_drop,List.take_append_drop,List.take_append_drop]
       rw [<- hsame,hvs]
       exact RepVals.app (RepVals.app hp1 (by simp only [RepVals];exact ⟨uv,[],O1,[],rfl,by simp,k1,rfl,rfl⟩)) hp3
      have st':=st.setBox hl c e (splice xs off [.sl u' nl z (Qj.set i (shareAll (Qj.getD i [])))]) (P1++O1++P3) (XV n (upd Ot d O2)) hO' hone (fun p=>by
       have h1:=Xe p Ot d O2 n hdn
       have h2:=hcnt p
       rw [hP]
       simp only [List.countP_append,List.append_nil]
       omega)
      rw [YW hc] at st'
      exact KB (x:=x) (w':=w) (ν:=[]) (B:=A) (v:=uv) (Od:=O2) ht h0 hr (fun _ _ _ h=>h) hdn (by simpa using k2) (by
       rw [List.append_nil];exact st')
     ·simp at hs
    ·simp at hs
   ·simp at hs
  ·simp at hs
 ·simp at hs
theorem ZpZ {sz:Nat} {y z:X} {u v:Operand} {t:TypeId} (ho:o.op=.store t u v) (hd:o.dst=none) (hy:XOk n y u) (hz:XOk n z v)
  (hsz:sz? P t=some sz) (hs:step (.store sz y z) s=some s') (sim:Sim x n s a w):Zo P x n o s' a w:=by
 obtain ⟨A,μ,OH,Ot,ht,h0,hr,st⟩:=sim
 have hrep:=QY hy hr
 have hexec:∀ (ad:Addr) (w':World),a.eval u=.pointer (some ad)->(storeVar t ad (a.eval v)).run P w=.ok () w'->(execOp a.eval o).run P w=.ok .skip w':=by
  intro ad w' hu hv
  simp [execOp,ho,Instr.storeAt,hu,Instr.sureAddr,hv]
 simp only [step] at hs
 split at hs
 ·rename_i l off hg
  rw [hg] at hrep
  simp only [Rep] at hrep
  obtain ⟨_,hlμ,hu⟩:=hrep
  split at hs
  ·rename_i xs hl
   split at hs
   ·rename_i hcond
    obtain ⟨hflat,hcl,hle⟩:=hcond
    simp only [Option.some.injEq] at hs
    subst hs
    obtain ⟨hvc,hvone⟩:=Zii hflat (QY hz hr)
    obtain ⟨c,e,hc,hxs,hone⟩:=st.inv.box l xs hl
    have hlen:=hxs.length
    have hvl:=hvc.length
    rw [hcl] at hvl
    obtain ⟨O',hO',hOle,_⟩:=RepVals.splice hxs hvc off (by omega)
    have hcs:off+(a.eval v).cells.toList.length<=c.size:=by
     rw [Array.length_toList] at hlen;omega
    have hrun:(storeVar t ⟨μ.getD l 0,off,none⟩ (a.eval v)).run P w=.ok () { w with heap:=w.heap.setIfInBounds (μ.getD l 0) (.cells (Yh c off (a.eval v).cells.toList) e (0,0)) }:=by
     unfold storeVar
     rw [Sem.run_bind,X9 hsz w]
     simp only [Result.andThen_ok]
     rw [if_neg (by rw [<- Array.length_toList];omega)]
     have:=Ky (P:=P) (b:=μ.getD l 0) (off:=off) (e:=e) (a.eval v).cells.toList 0 c w hc hvone (by omega)
     simpa using this
    refine Zs1 (hexec _ _ hu hrun) ?_
    rw [hd]
    have htl:(Yh c off (a.eval v).cells.toList).toList=c.toList.take off++(a.eval v).cells.toList++c.toList.drop (off+(get s.t z).cells.length):=by
     rw [Zb3 _ _ _ hcs,hcl,hvl]
    have st':=st.setBox hl (Yh c off (a.eval v).cells.toList) e (splice xs off (get s.t z).cells) O' (XV n (Zm Ot z)) (by
      rw [htl];exact hO') (by
      rw [htl]
      intro c' hc'
      rcases List.mem_append.1 hc' with hc' | hc'
      ·rcases List.mem_append.1 hc' with hc' | hc'
       ·exact hone _ (List.mem_of_mem_take hc')
       ·exact hvone _ hc'
      ·exact hone _ (List.mem_of_mem_drop hc')) (fun p=>by
      have h1:=Zp (Ot:=Ot) hz p
      have h2:=hOle p
      omega)
    exact ⟨A,μ,_,Zm Ot z,by simpa [Act.put] using ht,by simpa [Act.put] using h0,Vf z hr,st'⟩
   ·simp at hs
  ·simp at hs
 ·simp at hs
end
theorem ZrV {P : Program} {w : World} {t : TypeId} {X Y : Operand} {op : BinOp} {k : IntKind} {a b : Int} {r : Value} (h : KS op k a b = some r) :
    (do eqGuard op t X Y (.int k a) (.int k b); binOp op t (.int k a) (.int k b) : Sem Value).run P w = .ok r w ∧ r.oneCell' = true := by
  cases op <;> simp only [KS] at h <;>
    first
    | (simp at h; done)
    | (split at h
       · simp at h
       · simp only [Option.some.injEq] at h; subst h
         simp [eqGuard, binOp, Op.intDiv, Value.oneCell', *])
    | (simp only [Option.some.injEq] at h; subst h
       simp [eqGuard, binOp, Op.intArith, Op.intBits, Op.intCmp, Value.oneCell'])
theorem Zro {P : Program} {w : World} {t : TypeId} {X Y : Operand} {op : BinOp} {a b : ByteArray} {r : Value} (h : Zrp op a b = some r) :
    (do eqGuard op t X Y (.string a) (.string b); binOp op t (.string a) (.string b) : Sem Value).run P w = .ok r w ∧ r.oneCell' = true := by
  cases op <;> simp only [Zrp] at h <;>
    first
    | (simp at h; done)
    | (split at h
       · rename_i hle
         simp only [Option.some.injEq] at h; subst h
         simp [eqGuard, binOp, Op.stringOp, Value.oneCell', IntKind.max, IntKind.signed, IntKind.bits]
         omega
       · simp at h)
    | (simp only [Option.some.injEq] at h; subst h
       simp [eqGuard, binOp, Op.stringOp, Value.oneCell'])
theorem nilP_rep {A:GM} {μ:List Nat} {x:LV} {u:Value} {O:List Own} {b:Bool} (h:nilP x=some b) (hr:Rep A μ x u O) :
  ∃ p:Option Addr,u=.pointer p∧p.isNone=b:=by
 unfold nilP at h
 split at h
 ·simp at h;subst h;simp only [Rep] at hr;exact ⟨none,hr.1,rfl⟩
 ·simp at h;subst h;simp only [Rep] at hr;exact ⟨_,hr.2.2,rfl⟩
 ·simp at h;subst h;simp only [Rep] at hr;obtain ⟨b,off,rfl,_⟩:=hr;exact ⟨_,rfl,rfl⟩
 ·simp at h
theorem nilS_rep {A:GM} {μ:List Nat} {x:LV} {u:Value} {O:List Own} {b:Bool} (h:nilS x=some b) (hr:Rep A μ x u O) :
  ∃ (p:Option Addr) (m c:Nat),u=.slice p m c∧p.isNone=b:=by
 unfold nilS at h
 split at h
 ·simp at h;subst h;simp only [Rep] at hr
  rcases hr with ⟨rfl,rfl,_⟩ | ⟨rfl,b,off,sp,cap,O',rfl,_⟩
  ·exact ⟨none,0,0,rfl,rfl⟩
  ·exact ⟨_,_,_,rfl,rfl⟩
 ·simp at h;subst h;simp only [Rep] at hr;obtain ⟨_,_,rfl⟩:=hr;exact ⟨_,_,_,rfl,rfl⟩
 ·simp at h
theorem cmOf_ok {P:Program} {t:TypeId} {c:Cm} (h:cmOf P t=some c):match c with
  | .num=>True
  | .str=>True
  | .bool=>P.underlying t=some .bool
  | .ptr=>∃ e,P.underlying t=some (.pointer e)
  | .slc=>∃ e,P.underlying t=some (.slice e):=by
 unfold cmOf at h
 split at h<;>simp at h<;>subst h<;>simp_all
theorem Zhl {P:Program} (w:World) (d:Nat) (t e:TypeId) (a:Option Addr) (n c:Nat) (h:P.underlying t=some (.slice e)) :
  (Op.equalIn (d+1) t (.slice a n c) (.slice none 0 0)).run P w=.ok a.isNone w:=by
 cases a<;>simp [Op.equalIn,run_underlying h]
theorem Zjf {P:Program} (w:World) (t e:TypeId) (a:Option Addr) (n c:Nat) (h:P.underlying t=some (.slice e)) :
  (Op.equal t (.slice a n c) (.slice none 0 0)).run P w=.ok a.isNone w:=Zhl w 9999 t e a n c h
theorem nil_run {P:Program} {w:World} {t:TypeId} {X Y:Operand} {op:BinOp} {u:Value} {b:Bool} {r:Value} (h:neg op b=some r)
  (hu:(∃ e,P.underlying t=some (.pointer e))∧(∃ p:Option Addr,u=.pointer p∧p.isNone=b)) :
  (do eqGuard op t X Y u (.pointer none);binOp op t u (.pointer none):Sem Value).run P w=.ok r w∧r.oneCell'=true:=by
 obtain ⟨⟨e,he⟩,p,rfl,rfl⟩:=hu
 have he':P.underlying t=some (.pointer (P.pointee t)):=by simp [Program.pointee,he]
 have hg:∀ op,(eqGuard op t X Y (.pointer p) (.pointer none)).run P w=.ok () w:=by
  intro op;unfold eqGuard;cases op<;>simp
 cases op<;>simp only [neg] at h<;>(try (simp at h;done))
 all_goals
  simp only [Option.some.injEq] at h;subst h
  rw [Sem.run_bind,hg]
  simp [run_eql_pointer_nil,run_neq_pointer_nil,he',Value.oneCell']
theorem ZpY {P:Program} {w:World} {t:TypeId} {X Y:Operand} {op:BinOp} {u:Value} {b:Bool} {r:Value} (h:neg op b=some r)
  (hu:(∃ e,P.underlying t=some (.slice e))∧(∃ (p:Option Addr) (m c:Nat),u=.slice p m c∧p.isNone=b)) :
  (do eqGuard op t X Y u (.slice none 0 0);binOp op t u (.slice none 0 0):Sem Value).run P w=.ok r w∧r.oneCell'=true:=by
 obtain ⟨⟨e,he⟩,p,m,c,rfl,rfl⟩:=hu
 have hg:∀ op,(eqGuard op t X Y (.slice p m c) (.slice none 0 0)).run P w=.ok () w:=by
  intro op;unfold eqGuard;cases op<;>simp
 cases op<;>simp only [neg] at h<;>(try (simp at h;done))
 all_goals
  simp only [Option.some.injEq] at h;subst h
  rw [Sem.run_bind,hg]
  simp only [Result.andThen_ok,binOp]
  simp [Zjf w t e p m c he,Value.oneCell']
theorem bool_run {P:Program} {w:World} {t:TypeId} {X Y:Operand} {op:BinOp} {a b:Bool} {r:Value} (h:neg op (a == b)=some r) (he:P.underlying t=some .bool) :
  (do eqGuard op t X Y (.bool a) (.bool b);binOp op t (.bool a) (.bool b):Sem Value).run P w=.ok r w∧r.oneCell'=true:=by
 have hg:∀ op,(eqGuard op t X Y (.bool a) (.bool b)).run P w=.ok () w:=by
  intro op;unfold eqGuard;cases op<;>simp
 cases op<;>simp only [neg] at h<;>(try (simp at h;done))
 all_goals
  simp only [Option.some.injEq] at h;subst h
  rw [Sem.run_bind,hg]
  simp [run_eql_bool,run_neq_bool,he,Value.oneCell']
theorem ZsS {P:Program} {w:World} {A:GM} {μ:List Nat} {t:TypeId} {X Y:Operand} {c:Cm} {op:BinOp} {x y r:LV} {u v:Value} {Ox Oy:List Own}
  (hc:cmOf P t=some c) (h:XB c op x y=some r) (hx:Rep A μ x u Ox) (hy:Rep A μ y v Oy) :
  ∃ q,(do eqGuard op t X Y u v;binOp op t u v:Sem Value).run P w=.ok q w∧Rep A μ r q []:=by
 have hok:=cmOf_ok hc
 unfold XB at h
 split at h
 ·
  simp only [Rep] at hx hy
  obtain ⟨rfl,_⟩:=hx
  obtain ⟨rfl,_⟩:=hy
  split at h
  ·split at h
   ·simp at h
   ·rename_i hb
    simp only [Option.some.injEq] at h;subst h
    exact ⟨_,by simp [eqGuard,binOp,Op.shift,hb];rfl,by simp [Rep]⟩
  ·split at h
   ·simp at h
   ·rename_i hb
    simp only [Option.some.injEq] at h;subst h
    exact ⟨_,by simp [eqGuard,binOp,Op.shift,hb];rfl,by simp [Rep]⟩
  ·split at h
   ·rename_i hk
    subst hk
    simp only [Option.map_eq_some_iff] at h
    obtain ⟨q,hq,rfl⟩:=h
    exact ⟨q,(ZrV hq).1,by simp [Rep]⟩
   ·simp at h
 ·simp only [Rep] at hx hy
  obtain ⟨rfl,_⟩:=hx
  obtain ⟨rfl,_⟩:=hy
  simp only [Option.map_eq_some_iff] at h
  obtain ⟨q,hq,rfl⟩:=h
  exact ⟨q,(Zro hq).1,by simp [Rep]⟩
 ·simp only [Rep] at hx hy
  obtain ⟨rfl,_⟩:=hx
  obtain ⟨rfl,_⟩:=hy
  simp only [Option.map_eq_some_iff] at h
  obtain ⟨q,hq,rfl⟩:=h
  exact ⟨q,(bool_run hq hok).1,by simp [Rep]⟩
 ·simp only [Rep] at hy
  obtain ⟨rfl,_⟩:=hy
  split at h
  ·rename_i b hb
   simp only [Option.map_eq_some_iff] at h
   obtain ⟨q,hq,rfl⟩:=h
   exact ⟨q,(nil_run hq ⟨hok,nilP_rep hb hx⟩).1,by simp [Rep]⟩
  ·simp at h
 ·simp only [Rep] at hy
  rcases hy with ⟨_,rfl,_⟩ | ⟨h0,_⟩
  ·split at h
   ·rename_i b hb
    simp only [Option.map_eq_some_iff] at h
    obtain ⟨q,hq,rfl⟩:=h
    exact ⟨q,(ZpY hq ⟨hok,nilS_rep hb hx⟩).1,by simp [Rep]⟩
   ·simp at h
  ·simp at h0
 ·simp at h
section
variable {P:Program} {x:Cx} {n:Nat} {o:Oper} {s s':St} {a:Act} {w:World}
theorem Ztl {d:Nat} {c:Cm} {op:BinOp} {y z:X} {u v:Operand} {t t':TypeId} (ho:o.op=.binOp op t u v t') (hd:o.dst=some d) (hdn:d < n) (hy:XOk n y u) (hz:XOk n z v)
  (hc:cmOf P t=some c) (hs:step (.bin d c op y z) s=some s') (sim:Sim x n s a w):Zo P x n o s' a w:=by
 obtain ⟨A,μ,OH,Ot,ht,h0,hr,st⟩:=sim
 simp only [step,Option.map_eq_some_iff] at hs
 obtain ⟨r,hr2,rfl⟩:=hs
 obtain ⟨q,hq,hrep⟩:=ZsS (P:=P) (w:=w) (X:=u) (Y:=v) hc hr2 (QY hy hr) (QY hz hr)
 refine QG (v:=q) (w':=w) (by simp only [execOp,ho,Sem.run_bind];rw [<- Sem.run_bind,hq];rfl) ?_
 rw [hd]
 exact Wa ht h0 hr hdn hrep st (fun p=>by simp)
theorem sound_un {d:Nat} {op:UnOp} {y:X} {u:Operand} {t:TypeId} (ho:o.op=.unOp op t u) (hd:o.dst=some d) (hdn:d < n) (hy:XOk n y u)
  (hs:step (.un d op y) s=some s') (sim:Sim x n s a w):Zo P x n o s' a w:=by
 obtain ⟨A,μ,OH,Ot,ht,h0,hr,st⟩:=sim
 simp only [step,Option.map_eq_some_iff] at hs
 obtain ⟨r,hr2,rfl⟩:=hs
 have hrep:=QY hy hr
 unfold unLV at hr2
 split at hr2
 ·rename_i k m hg
  simp only [Option.some.injEq] at hr2;subst hr2
  rw [hg] at hrep
  simp only [Rep] at hrep
  refine QG (v:=.int k (k.wrap (0 - m))) (w':=w) (by simp [execOp,ho,hrep.1,Op.unary,Op.intArith]) ?_
  rw [hd]
  exact Wa ht h0 hr hdn (Od:=[]) (by simp [Rep]) st (fun p=>by simp)
 ·rename_i b hg
  simp only [Option.some.injEq] at hr2;subst hr2
  rw [hg] at hrep
  simp only [Rep] at hrep
  refine QG (v:=.bool !b) (w':=w) (by simp [execOp,ho,hrep.1,Op.unary]) ?_
  rw [hd]
  exact Wa ht h0 hr hdn (Od:=[]) (by simp [Rep]) st (fun p=>by simp)
 ·simp at hr2
theorem J9 {A:GM} {μ:List Nat} {y:LV} {u:Value} {O:List Own} {m:Int} (h:intOf y=some m) (hr:Rep A μ y u O):∃ k,u=.int k m:=by
 unfold intOf at h
 split at h
 ·simp at h;subst h;simp only [Rep] at hr;exact ⟨_,hr.1⟩
 ·simp at h
theorem Zr2 {d:Nat} {k k':IntKind} {y:X} {u:Operand} {t t':TypeId} (ho:o.op=.convert t t' u) (hd:o.dst=some d) (hdn:d < n) (hy:XOk n y u)
  (h1:P.underlying t=some (.int k')) (h2:P.underlying t'=some (.int k)) (hs:step (.conv d k y) s=some s') (sim:Sim x n s a w):Zo P x n o s' a w:=by
 obtain ⟨A,μ,OH,Ot,ht,h0,hr,st⟩:=sim
 simp only [step,Option.map_eq_some_iff] at hs
 obtain ⟨r,hr2,rfl⟩:=hs
 obtain ⟨k2,hu⟩:=J9 hr2 (QY hy hr)
 refine QG (v:=.int k (k.wrap r)) (w':=w) (by simp [execOp,ho,hu,convert,run_underlying h1,run_underlying h2,Conv.intToInt]) ?_
 rw [hd]
 exact Wa ht h0 hr hdn (Od:=[]) (by simp [Rep]) st (fun p=>by simp)
theorem Zth {A:GM} {μ:List Nat} {y:LV} {u:Value} {O:List Own} {m:Nat} (h:Zbg y=some m) (hr:Rep A μ y u O):∃ p c,u=.slice p m c:=by
 unfold Zbg at h
 split at h
 ·simp at h;subst h;simp only [Rep] at hr
  rcases hr with ⟨_,rfl,rfl,_⟩ | ⟨_,b,off,sp,cap,O',rfl,_⟩
  ·exact ⟨none,0,rfl⟩
  ·exact ⟨_,_,rfl⟩
 ·simp at h;subst h;simp only [Rep] at hr;obtain ⟨_,_,rfl⟩:=hr;exact ⟨_,_,rfl⟩
 ·simp at h
theorem Zrs {A:GM} {μ:List Nat} {y:LV} {u:Value} {O:List Own} {m:Nat} (h:Zh3 y=some m) (hr:Rep A μ y u O):∃ s:ByteArray,u=.string s∧s.size=m:=by
 unfold Zh3 at h
 split at h
 ·simp at h;subst h;simp only [Rep] at hr;exact ⟨_,hr.1,rfl⟩
 ·simp at h
theorem ZC {b:Builtin} {c:Call} (ho:o.op=.call c) (hc:c.callee=.builtin b) :
  execOp a.eval o=builtin b c.argTypes o.type (c.args.map fun | .const _=>true | _=>false) (c.args.map a.eval):=by
 simp [execOp,ho,resolve,hc,invoke]
 rfl
theorem Zs8 {d:Nat} {y:X} {u:Operand} {t e:TypeId} {c:Call} (ho:o.op=.call c) (hc:c.callee=.builtin .len) (ha:c.args.toList=[u]) (htt:c.argTypes.toList=[t])
  (he:P.underlying t=some (.slice e)) (hd:o.dst=some d) (hdn:d < n) (hy:XOk n y u)
  (hs:step (.len d y) s=some s') (sim:Sim x n s a w):Zo P x n o s' a w:=by
 obtain ⟨A,μ,OH,Ot,ht,h0,hr,st⟩:=sim
 simp only [step,Option.map_eq_some_iff] at hs
 obtain ⟨m,hm,rfl⟩:=hs
 obtain ⟨p,k,hu⟩:=Zth hm (QY hy hr)
 have ha':c.args=#[u]:=by rw [<- Array.toArray_toList (xs:=c.args),ha]
 have ht':c.argTypes=#[t]:=by rw [<- Array.toArray_toList (xs:=c.argTypes),htt]
 refine QG (v:=.int .i64 m) (w':=w) (by
  rw [ZC ho hc,ha',ht']
  simp [builtin,Builtin.len_,run_underlying he,hu,goInt]) ?_
 rw [hd]
 exact Wa ht h0 hr hdn (Od:=[]) (by simp [Rep]) st (fun p=>by simp)
theorem ZrO {d:Nat} {y:X} {u:Operand} {t:TypeId} {c:Call} (ho:o.op=.call c) (hc:c.callee=.builtin .len) (ha:c.args.toList=[u]) (htt:c.argTypes.toList=[t])
  (he:P.underlying t=some .string) (hd:o.dst=some d) (hdn:d < n) (hy:XOk n y u)
  (hs:step (.lenS d y) s=some s') (sim:Sim x n s a w):Zo P x n o s' a w:=by
 obtain ⟨A,μ,OH,Ot,ht,h0,hr,st⟩:=sim
 simp only [step,Option.map_eq_some_iff] at hs
 obtain ⟨m,hm,rfl⟩:=hs
 obtain ⟨p,hu,rfl⟩:=Zrs hm (QY hy hr)
 have ha':c.args=#[u]:=by rw [<- Array.toArray_toList (xs:=c.args),ha]
 have ht':c.argTypes=#[t]:=by rw [<- Array.toArray_toList (xs:=c.argTypes),htt]
 refine QG (v:=.int .i64 p.size) (w':=w) (by
  rw [ZC ho hc,ha',ht']
  simp [builtin,Builtin.len_,run_underlying he,hu,goInt]) ?_
 rw [hd]
 exact Wa ht h0 hr hdn (Od:=[]) (by simp [Rep]) st (fun p=>by simp)
theorem Zhe {d:Nat} {mx:Bool} {y z:X} {u v:Operand} {c:Call} (ho:o.op=.call c) (hc:c.callee=.builtin (if mx then .max else .min)) (ha:c.args.toList=[u,v])
  (hd:o.dst=some d) (hdn:d < n) (hy:XOk n y u) (hz:XOk n z v)
  (hs:step (.minmax d mx y z) s=some s') (sim:Sim x n s a w):Zo P x n o s' a w:=by
 obtain ⟨A,μ,OH,Ot,ht,h0,hr,st⟩:=sim
 have hry:=QY hy hr
 have hrz:=QY hz hr
 have ha':c.args=#[u,v]:=by rw [<- Array.toArray_toList (xs:=c.args),ha]
 simp only [step] at hs
 split at hs
 ·rename_i k p k' q hg1 hg2
  simp only [Option.some.injEq] at hs
  subst hs
  rw [hg1] at hry;rw [hg2] at hrz
  simp only [Rep] at hry hrz
  refine QG (v:=.int k (if (if mx then q > p else q < p) then q else p)) (w':=w) (by
   rw [ZC ho hc,ha']
   cases mx<;>simp [builtin,hry.1,hrz.1,run_max_int2,run_min_int2]) ?_
  rw [hd]
  exact Wa ht h0 hr hdn (Od:=[]) (by simp [Rep]) st (fun p=>by simp)
 ·simp at hs
theorem Zrm {d:Nat} {c y z:X} {u v q:Operand} (ho:o.op=.pick q u v) (hd:o.dst=some d) (hdn:d < n) (hc:XOk n c q) (hy:XOk n y u) (hz:XOk n z v)
  (hs:step (.pick d c y z) s=some s') (sim:Sim x n s a w):Zo P x n o s' a w:=by
 obtain ⟨A,μ,OH,Ot,ht,h0,hr,st⟩:=sim
 have hrc:=QY hc hr
 simp only [step] at hs
 split at hs
 ·rename_i b hg
  rw [hg] at hrc
  simp only [Rep] at hrc
  simp only [Option.some.injEq] at hs
  subst hs
  refine QG (v:=if b=true then a.eval u else a.eval v) (w':=w) (by simp [execOp,ho,hrc.1,asBool]) ?_
  rw [hd]
  cases b with
  | true=>exact Wa ht h0 hr hdn (Rep.share _ _ _ (QY hy hr)) st (fun p=>by simp)
  | false=>exact Wa ht h0 hr hdn (Rep.share _ _ _ (QY hz hr)) st (fun p=>by simp)
 ·simp at hs
theorem ZoH {d:Nat} {y z:X} {u v:Operand} {t:TypeId} (ho:o.op=.index t u v) (he:P.underlying t=some .string) (hd:o.dst=some d) (hdn:d < n) (hy:XOk n y u) (hz:XOk n z v)
  (hs:step (.indexS d y z) s=some s') (sim:Sim x n s a w):Zo P x n o s' a w:=by
 obtain ⟨A,μ,OH,Ot,ht,h0,hr,st⟩:=sim
 have hry:=QY hy hr
 have hrz:=QY hz hr
 simp only [step] at hs
 split at hs
 ·rename_i b i hg1 hg2
  split at hs
  ·rename_i hb
   simp only [Option.some.injEq] at hs
   subst hs
   rw [hg1] at hry
   simp only [Rep] at hry
   obtain ⟨k,hk⟩:=J9 hg2 hrz
   have hlt:i.toNat < b.size:=by omega
   refine QG (v:=.int .u8 ((b.data.toList.getD i.toNat 0).toNat:Int)) (w':=w) (by
    have e1:b[i.toNat]?=some b[i.toNat]:=by simp [hlt]
    have e2:b[i.toNat]=b.data.toList.getD i.toNat 0:=by
     have hlt':i.toNat < b.data.size:=hlt
     simp [List.getD_eq_getElem?_getD,ByteArray.getElem_eq_getElem_data,Array.getElem?_eq_getElem hlt']
    simp [execOp,ho,Instr.index,hk,hry.1,asIntOf,run_underlying he,hb.1,e1,e2]) ?_
   rw [hd]
   exact Wa ht h0 hr hdn (Od:=[]) (by simp [Rep]) st (fun p=>by simp)
  ·simp at hs
 ·simp at hs
end
section
variable {A:GM} {μ:List Nat}
theorem Qw.get:∀ {xs:List (List LV)} {sz b off:Nat} {O:List Own},Qw A μ xs sz b off O->∀ i,i < xs.length ->
  ∃ O',Qu A μ (xs.getD i []) b (off+i * sz) O'∧(xs.getD i []).length=sz
 | [],_,_,_,_,_,i,hi=>by simp at hi
 | x::xs,sz,b,off,O,h,i,hi=>by
  simp only [Qw] at h
  obtain ⟨O1,O2,rfl,h2,h3,h4⟩:=h
  cases i with
  | zero=>exact ⟨O1,by simpa using h3,by simpa using h2⟩
  | succ i =>
   obtain ⟨O',h5,h6⟩:=Qw.get h4 i (by simpa using hi)
   refine ⟨O',?_,by simpa using h6⟩
   rw [show off+(i+1) * sz=off+sz+i * sz by rw [Nat.add_mul];omega]
   simpa using h5
theorem Qw.take:∀ {xs:List (List LV)} {sz b off:Nat} {O:List Own},Qw A μ xs sz b off O->∀ m,∃ O',Qw A μ (xs.take m) sz b off O'
 | [],_,_,_,_,_,m=>⟨[],by simp [Qw]⟩
 | x::xs,sz,b,off,O,h,0=>⟨[],by simp [Qw]⟩
 | x::xs,sz,b,off,O,h,m+1=>by
  simp only [Qw] at h
  obtain ⟨O1,O2,rfl,h2,h3,h4⟩:=h
  obtain ⟨O',h5⟩:=Qw.take h4 m
  exact ⟨O1++O',by simp only [List.take_succ_cons,Qw];exact ⟨O1,O',rfl,h2,h3,h5⟩⟩
theorem Qw.drop:∀ {xs:List (List LV)} {sz b off:Nat} {O:List Own},Qw A μ xs sz b off O->∀ m,m<=xs.length->∃ O',Qw A μ (xs.drop m) sz b (off+m * sz) O'
 | xs,_,_,_,O,h,0,_=>⟨O,by simpa using h⟩
 | [],_,_,_,_,_,m+1,hm=>by simp at hm
 | x::xs,sz,b,off,O,h,m+1,hm=>by
  simp only [Qw] at h
  obtain ⟨O1,O2,rfl,h2,h3,h4⟩:=h
  obtain ⟨O',h5⟩:=Qw.drop h4 m (by simpa using hm)
  refine ⟨O',?_⟩
  rw [show off+(m+1) * sz=off+sz+m * sz by rw [Nat.add_mul];omega]
  simpa using h5
theorem RepVals.get:∀ {xs:List LV} {vs:List Value} {O:List Own},RepVals A μ xs vs O->∀ k x,xs[k]?=some x ->
  ∃ v O1 O2 O3,vs[k]?=some v∧O=O1++O2++O3∧Rep A μ x v O2∧RepVals A μ (xs.set k (TL.share x)) vs (O1++O3)
 | [],_,_,_,k,x,hk=>by simp at hk
 | y::xs,vs,O,h,0,x,hk=>by
  simp only [RepVals] at h
  obtain ⟨v,ws,O1,O2,rfl,rfl,h3,h4⟩:=h
  simp at hk;subst hk
  refine ⟨v,[],O1,O2,by simp,by simp,h3,?_⟩
  simp only [List.set_cons_zero,RepVals]
  exact ⟨v,ws,[],O2,rfl,rfl,Rep.share _ _ _ h3,h4⟩
 | y::xs,vs,O,h,k+1,x,hk=>by
  simp only [RepVals] at h
  obtain ⟨v,ws,O1,O2,rfl,rfl,h3,h4⟩:=h
  obtain ⟨u,P1,P2,P3,h5,rfl,h6,h7⟩:=RepVals.get h4 k x (by simpa using hk)
  refine ⟨u,O1++P1,P2,P3,by simpa using h5,by simp [List.append_assoc],h6,?_⟩
  simp only [List.set_cons_succ,RepVals]
  exact ⟨v,ws,O1,P1++P3,rfl,by simp [List.append_assoc],h3,h7⟩
theorem Qu.drop {ys:List LV} {b off:Nat} {O:List Own} (h:Qu A μ ys b off O) (m:Nat) (hm:m<=ys.length):∃ O',Qu A μ (ys.drop m) b (off+m) O':=by
 obtain ⟨vs,hv,hA⟩:=h.vals
 have hl:=hv.length
 have e:ys=ys.take m++ys.drop m:=(List.take_append_drop m ys).symm
 rw [e] at hv
 obtain ⟨v1,v2,O1,O2,rfl,rfl,h1,h2⟩:=hv.split
 have l1:=h1.length
 refine ⟨O2,Qu.of h2 fun j v hj=>?_⟩
 have:=hA (m+j) v (by
  rw [List.getElem?_append_right (by simp at l1;omega)]
  rw [show m+j - v1.length=j by simp at l1;omega];exact hj)
 rwa [<- Nat.add_assoc] at this
end
section
variable {P:Program} {x:Cx} {n:Nat} {o:Oper} {s s':St} {a:Act} {w:World}
theorem Zo4 {d f sz:Nat} {g:Field} {y:X} {u:Operand} {t:TypeId} (ho:o.op=.fieldAddr t u f) (hd:o.dst=some d) (hdn:d < n) (hy:XOk n y u)
  (hg:Ze7 P t f=some g) (hsz:sz? P g.type=some sz) (hz:sz≠0) (hs:step (.fieldA d g.offset y) s=some s') (sim:Sim x n s a w):Zo P x n o s' a w:=by
 obtain ⟨A,μ,OH,Ot,ht,h0,hr,st⟩:=sim
 have hrep:=QY hy hr
 have hexec:∀ b off,a.eval u=.pointer (some ⟨b,off,none⟩)->(execOp a.eval o).run P w=.ok (.value (.pointer (some ⟨b,off+g.offset,none⟩))) w:=by
  intro b off hu
  unfold Ze7 at hg
  split at hg
  ·rename_i fs hfs
   simp [execOp,ho,Instr.fieldAt,run_underlying hfs,hg,hu,Instr.sureAddr,fieldPlace,X9 hsz,hz,KY]
  ·simp at hg
 simp only [step] at hs
 split at hs
 ·rename_i l off hg2
  simp only [Option.some.injEq] at hs
  subst hs
  rw [hg2] at hrep
  simp only [Rep] at hrep
  refine QG (hexec _ _ hrep.2.2) ?_
  rw [hd]
  exact Wa ht h0 hr hdn (Od:=[]) (by simp only [Rep];exact ⟨trivial,hrep.2.1,trivial⟩) st (fun p=>by simp)
 ·rename_i ys hg2
  split at hs
  ·rename_i hle
   simp only [Option.some.injEq] at hs
   subst hs
   rw [hg2] at hrep
   simp only [Rep] at hrep
   obtain ⟨b,off,hu,hc⟩:=hrep
   obtain ⟨O',hc'⟩:=hc.drop g.offset hle
   refine QG (hexec _ _ hu) ?_
   rw [hd]
   exact Wa ht h0 hr hdn (Rep.share (.rp (ys.drop g.offset)) _ O' (by simp only [Rep];exact ⟨b,_,rfl,hc'⟩)) st (fun p=>by simp)
  ·simp at hs
 ·simp at hs
theorem part_run {t:TypeId} {agg:Bool} {sz off:Nat} {cs:Array Value} {vs:List Value} (ha:Zba P t=some agg) (hsz:sz? P t=some sz) (hvs:vs=(cs.toList.drop off).take sz)
  (h1:agg=false->∃ u,vs=[u]):(part t cs off).run P w=.ok (if agg then .agg vs.toArray else vs.headD undef) w:=by
 unfold part
 rw [Sem.run_bind,Znx ha w]
 cases agg with
 | true =>
  simp only [Result.andThen_ok,if_true]
  rw [Sem.run_bind,X9 hsz w]
  simp only [Result.andThen_ok]
  have:cs.extract off (off+sz)=vs.toArray:=by
   apply Array.toList_inj.1
   rw [hvs]
   simp [Array.toList_extract]
  rw [this];rfl
 | false =>
  obtain ⟨u,hu⟩:=h1 rfl
  rw [hu] at hvs
  have hc:cs[off]?=some u:=by
   have h2:((cs.toList.drop off).take sz)[0]?=some u:=by rw [<- hvs];rfl
   have:=ZbQ h2
   simpa using this
  simp [hc,hu]
theorem ZpR {d f sz:Nat} {agg:Bool} {g:Field} {y:X} {u:Operand} {t:TypeId} (ho:o.op=.field t u f) (hd:o.dst=some d) (hdn:d < n) (hy:XOk n y u)
  (hg:Ze7 P t f=some g) (ha:Zba P g.type=some agg) (hsz:sz? P g.type=some sz) (hs:step (.field d agg g.offset sz y) s=some s') (sim:Sim x n s a w):Zo P x n o s' a w:=by
 obtain ⟨A,μ,OH,Ot,ht,h0,hr,st⟩:=sim
 have hrep:=QY hy hr
 simp only [step] at hs
 split at hs
 ·rename_i xs hg2
  rw [hg2] at hrep
  simp only [Rep] at hrep
  obtain ⟨vs,hu,hone,hvs⟩:=hrep
  split at hs
  ·rename_i hle
   split at hs
   ·rename_i v hv
    simp only [Option.some.injEq] at hs
    subst hs
    obtain ⟨O1,O2,O3,_,_,hpart,_⟩:=hvs.mid g.offset sz hle
    obtain ⟨uv,huv,hue,hu1⟩:=V4 hv hpart (fun c hc=>hone c (List.mem_of_mem_drop (List.mem_of_mem_take hc)))
    have hrun:=part_run (P:=P) (w:=w) (cs:=vs.toArray) (off:=g.offset) ha hsz rfl (fun h=>⟨uv,hu1 h⟩)
    rw [<- hue] at hrun
    refine QG (v:=uv) (w':=w) (by
     unfold Ze7 at hg
     split at hg
     ·rename_i fs hfs
      simp [execOp,ho,Instr.field,run_underlying hfs,hg,hu,asAgg,hrun]
     ·simp at hg) ?_
    rw [hd]
    exact Wa ht h0 hr hdn (Rep.share _ _ _ huv) st (fun p=>by simp)
   ·simp at hs
  ·simp at hs
 ·simp at hs
theorem YI {t e:TypeId} (h:Z1 P t=some e):P.underlying t=some (.slice e):=by
 unfold Z1 at h
 split at h
 ·simp at h;subst h;assumption
 ·simp at h
theorem Qw.getC {A:GM} {μ:List Nat}:∀ {xs:List (List LV)} {sz b off:Nat} {O:List Own},Qw A μ xs sz b off O->∀ i,i < xs.length ->
  ∃ O',Qu A μ (xs.getD i []) b (off+i * sz) O'∧∀ p:Own->Bool,O'.countP p<=O.countP p
 | [],_,_,_,_,_,i,hi=>by simp at hi
 | x::xs,sz,b,off,O,h,i,hi=>by
  simp only [Qw] at h
  obtain ⟨O1,O2,rfl,h2,h3,h4⟩:=h
  cases i with
  | zero=>exact ⟨O1,by simpa using h3,fun p=>by simp⟩
  | succ i =>
   obtain ⟨O',h5,h6⟩:=Qw.getC h4 i (by simpa using hi)
   refine ⟨O',?_,fun p=>?_⟩
   ·rw [show off+(i+1) * sz=off+sz+i * sz by rw [Nat.add_mul];omega]
    simpa using h5
   ·have:=h6 p;simp only [List.countP_append];omega
theorem ZoC {d sz:Nat} {e:TypeId} {y z:X} {u v:Operand} {t:TypeId} (ho:o.op=.indexAddr t u v) (hd:o.dst=some d) (hdn:d < n) (hy:XOk n y u) (hz:XOk n z v)
  (he:Z1 P t=some e) (hsz:sz? P e=some sz) (hs:step (.indexT d sz y z) s=some s') (sim:Sim x n s a w):Zo P x n o s' a w:=by
 obtain ⟨A,μ,OH,Ot,ht,h0,hr,st⟩:=sim
 have hry:=QY hy hr
 have hrz:=QY hz hr
 have hexec:∀ b off len cap k (i:Int),a.eval u=.slice (some ⟨b,off,none⟩) len cap->a.eval v=.int k i->0<=i->i < len ->
   (execOp a.eval o).run P w=.ok (.value (.pointer (some ⟨b,off+i.toNat * sz,none⟩))) w:=by
  intro b off len cap k i hu hv h1 h2
  simp [execOp,ho,Instr.indexAt,run_underlying (YI he),hu,hv,asIntOf,h1,h2,X9 hsz,KY]
 simp only [step] at hs
 split at hs
 ·rename_i u' nil sz' xs i hg1 hg2
  split at hs
  ·rename_i hc
   obtain ⟨rfl,hi0,hi1⟩:=hc
   simp only [Option.some.injEq] at hs
   subst hs
   rw [hg1] at hry
   obtain ⟨k,hk⟩:=J9 hg2 hrz
   simp only [Rep] at hry
   rcases hry with ⟨_,_,rfl,_⟩ | ⟨_,b,off,sp,cap,O',hu,hsp,_,hrow,hown⟩
   ·simp at hi1;omega
   ·have hsp:sp=none:=hsp.resolve_right (fun h=>by rw [h.1] at hi1;simp at hi1;omega)
    subst hsp
    refine QG (hexec b off xs.length cap k i hu hk hi0 hi1) ?_
    rw [hd]
    obtain ⟨O2,h5,h6⟩:=hrow.getC i.toNat (by omega)
    refine Wa (Ot:=Zm Ot y) (Od:=O2) ht h0 (Vf y hr) hdn (by simp only [Rep];exact ⟨b,_,rfl,h5⟩) st (fun p=>?_)
    have h7:=Zp hy p (Ot:=Ot)
    have h8:=h6 p
    have h9:O'.countP p<=(Zjp Ot y).countP p:=by
     rcases hown with ⟨_,_,h⟩ | ⟨_,h⟩
     ·rw [h,List.countP_cons];omega
     ·rw [h];exact Nat.le_refl _
    omega
  ·simp at hs
 ·simp at hs
theorem Zn6 {d sz:Nat} {e:TypeId} {y z:X} {u v:Operand} {t:TypeId} (ho:o.op=.indexAddr t u v) (hd:o.dst=some d) (hdn:d < n) (hy:XOk n y u) (hz:XOk n z v)
  (he:Z1 P t=some e) (hsz:sz? P e=some sz) (hs:step (.indexA d sz y z) s=some s') (sim:Sim x n s a w):Zo P x n o s' a w:=by
 obtain ⟨A,μ,OH,Ot,ht,h0,hr,st⟩:=sim
 have hry:=QY hy hr
 have hrz:=QY hz hr
 have hexec:∀ b off len cap k (i:Int),a.eval u=.slice (some ⟨b,off,none⟩) len cap->a.eval v=.int k i->0<=i->i < len ->
   (execOp a.eval o).run P w=.ok (.value (.pointer (some ⟨b,off+i.toNat * sz,none⟩))) w:=by
  intro b off len cap k i hu hv h1 h2
  simp [execOp,ho,Instr.indexAt,run_underlying (YI he),hu,hv,asIntOf,h1,h2,X9 hsz,KY]
 simp only [step] at hs
 split at hs
 ·rename_i u' nil sz' xs i hg1 hg2
  split at hs
  ·rename_i hc
   obtain ⟨rfl,hi0,hi1⟩:=hc
   simp only [Option.some.injEq] at hs
   subst hs
   rw [hg1] at hry
   obtain ⟨k,hk⟩:=J9 hg2 hrz
   simp only [Rep] at hry
   rcases hry with ⟨_,_,rfl,_⟩ | ⟨_,b,off,sp,cap,O',hu,hsp,_,hrow,_⟩
   ·simp at hi1;omega
   ·have hsp:sp=none:=hsp.resolve_right (fun h=>by rw [h.1] at hi1;simp at hi1;omega)
    subst hsp
    refine QG (hexec b off xs.length cap k i hu hk hi0 hi1) ?_
    rw [hd]
    obtain ⟨O2,h5,h6⟩:=hrow.get i.toNat (by omega)
    exact Wa ht h0 hr hdn (Rep.share (.rp (xs.getD i.toNat [])) _ O2 (by simp only [Rep];exact ⟨b,_,rfl,h5⟩)) st (fun p=>by simp)
  ·simp at hs
 ·rename_i l sz' off m i hg1 hg2
  split at hs
  ·rename_i hc
   obtain ⟨rfl,hi0,hi1⟩:=hc
   simp only [Option.some.injEq] at hs
   subst hs
   rw [hg1] at hry
   obtain ⟨k,hk⟩:=J9 hg2 hrz
   simp only [Rep] at hry
   obtain ⟨_,hl,hu⟩:=hry
   refine QG (hexec _ _ _ m k i hu hk hi0 hi1) ?_
   rw [hd]
   refine Wa ht h0 hr hdn (Od:=[]) ?_ st (fun p=>by simp)
   simp only [Rep]
   exact ⟨trivial,hl,by rw [Nat.add_mul]⟩
  ·simp at hs
 ·simp at hs
theorem ZmP {d k:Nat} {y:X} {u:Operand} (ho:o.op=.extract u k) (hd:o.dst=some d) (hdn:d < n) (hy:XOk n y u)
  (hs:step (.extract d k y) s=some s') (sim:Sim x n s a w):Zo P x n o s' a w:=by
 obtain ⟨A,μ,OH,Ot,ht,h0,hr,st⟩:=sim
 have hrep:=QY hy hr
 simp only [step] at hs
 split at hs
 ·rename_i xs hg
  split at hs
  ·rename_i v hv
   split at hs
   ·rename_i i
    simp only [Option.some.injEq] at hs
    subst hs
    obtain ⟨rfl,hi⟩:=hy
    rw [hg] at hrep
    simp only [Rep] at hrep
    obtain ⟨vs,hu,hvs⟩:=hrep
    obtain ⟨q,O1,O2,O3,hq,hO,hqv,hset⟩:=hvs.get k v hv
    refine QG (v:=q) (w':=w) (by
     simp [execOp,ho,hu,Instr.extract,hq]) ?_
    rw [hd]
    refine Wa (t:=upd s.t i (.tup (xs.set k (share v)))) (Ot:=upd Ot i (O1++O3)) ht h0 (fun j hj=>?_) hdn hqv st (fun p=>?_)
    ·by_cases hji:j=i
     ·subst hji
      rw [QO,QO]
      simp only [Rep]
      exact ⟨vs,hu,hset⟩
     ·rw [Ws _ _ _ hji,Ws _ _ _ hji];exact hr j hj
    ·have h1:=Xe p Ot i (O1++O3) n hi
     have h2:(Ot i).countP p=O1.countP p+O2.countP p+O3.countP p:=by
      show (Zjp Ot (.t i)).countP p=_
      rw [hO];simp only [List.countP_append]
     simp only [List.countP_append] at h1
     omega
   ·simp at hs
  ·simp at hs
 ·simp at hs
theorem ZbK {A:GM} {μ:List Nat} {Ot:Nat->List Own} (hr:∀ i,i < n->Rep A μ (s.t i) (a.tmps.getD i undef) (Ot i)) :
  ∀ {ts:List TypeId} {os:List Operand} {ys:List X},cXs P n ts os=some ys->RepVals A μ (ys.map fun c=>share (get s.t c)) (os.map a.eval) []
 | ts,[],ys,h=>by simp only [cXs,Option.some.injEq] at h;subst h;simp [RepVals]
 | ts,o::os,ys,h=>by
  simp only [cXs] at h
  split at h
  ·rename_i y r hy hrr
   simp only [Option.some.injEq] at h;subst h
   simp only [List.map_cons,RepVals]
   exact ⟨_,_,[],[],rfl,rfl,Rep.share _ _ _ (QY (W8 hy) hr),ZbK hr hrr⟩
  ·simp at h
theorem Zq7 {d:Nat} {f:FuncId} {first caps:Array Operand} {ys:List X} (ho:o.op=.makeFunc (.func f) first caps) (hf:first.size=0) (hd:o.dst=some d) (hdn:d < n)
  (hy:cXs P n [] caps.toList=some ys) (hs:step (.mkfn d f false ys) s=some s') (sim:Sim x n s a w):Zo P x n o s' a w:=by
 obtain ⟨A,μ,OH,Ot,ht,h0,hr,st⟩:=sim
 simp only [step,Option.some.injEq] at hs
 subst hs
 rw [Array.size_eq_zero_iff] at hf
 refine QG (v:=.func (.func f) #[] (caps.map a.eval)) (w':=w) (by simp [execOp,ho,Instr.makeFunc,hf]) ?_
 rw [hd]
 refine Wa ht h0 hr hdn (Od:=[]) ?_ st (fun p=>by simp)
 simp only [Bool.false_eq_true,if_false,Rep]
 exact ⟨caps.toList.map a.eval,by rw [<- Array.toList_map],ZbK hr hy⟩
theorem ZpV {d:Nat} {f:FuncId} {first caps:Array Operand} {ys:List X} (ho:o.op=.makeFunc (.func f) first caps) (hf:caps.size=0) (hd:o.dst=some d) (hdn:d < n)
  (hy:cXs P n [] first.toList=some ys) (hs:step (.mkfn d f true ys) s=some s') (sim:Sim x n s a w):Zo P x n o s' a w:=by
 obtain ⟨A,μ,OH,Ot,ht,h0,hr,st⟩:=sim
 simp only [step,Option.some.injEq] at hs
 subst hs
 rw [Array.size_eq_zero_iff] at hf
 refine QG (v:=.func (.func f) (first.map a.eval) #[]) (w':=w) (by simp [execOp,ho,Instr.makeFunc,hf]) ?_
 rw [hd]
 refine Wa ht h0 hr hdn (Od:=[]) ?_ st (fun p=>by simp)
 simp only [if_true,Rep]
 exact ⟨first.toList.map a.eval,by rw [<- Array.toList_map],ZbK hr hy⟩
theorem Zo2 {d:Nat} {y:X} {u:Operand} (ho:o.op=.nilCheck u) (hd:o.dst=some d) (hdn:d < n) (hy:XOk n y u)
  (hs:step (.nilchk d y) s=some s') (sim:Sim x n s a w):Zo P x n o s' a w:=by
 obtain ⟨A,μ,OH,Ot,ht,h0,hr,st⟩:=sim
 have hrep:=QY hy hr
 simp only [step] at hs
 split at hs
 ·rename_i l off hg
  simp only [Option.some.injEq] at hs
  subst hs
  rw [hg] at hrep
  have hrep':=hrep
  simp only [Rep] at hrep
  refine QG (v:=a.eval u) (w':=w) (by rw [hrep.2.2];simp [execOp,ho,hrep.2.2]) ?_
  rw [hd]
  exact Wa ht h0 hr hdn (Rep.share _ _ _ hrep') st (fun p=>by simp)
 ·rename_i ys hg
  simp only [Option.some.injEq] at hs
  subst hs
  rw [hg] at hrep
  have hrep':=hrep
  simp only [Rep] at hrep
  obtain ⟨b,off,hu,_⟩:=hrep
  refine QG (v:=a.eval u) (w':=w) (by rw [hu];simp [execOp,ho,hu]) ?_
  rw [hd]
  exact Wa ht h0 hr hdn (Rep.share _ _ _ hrep') st (fun p=>by simp)
 ·rename_i f caps hg
  simp only [Option.some.injEq] at hs
  subst hs
  rw [hg] at hrep
  have hrep':=hrep
  simp only [Rep] at hrep
  obtain ⟨vs,hu,_⟩:=hrep
  refine QG (v:=a.eval u) (w':=w) (by rw [hu];simp [execOp,ho,hu]) ?_
  rw [hd]
  exact Wa ht h0 hr hdn (Rep.share _ _ _ hrep') st (fun p=>by simp)
 ·rename_i f caps hg
  simp only [Option.some.injEq] at hs
  subst hs
  rw [hg] at hrep
  have hrep':=hrep
  simp only [Rep] at hrep
  obtain ⟨vs,hu,_⟩:=hrep
  refine QG (v:=a.eval u) (w':=w) (by rw [hu];simp [execOp,ho,hu]) ?_
  rw [hd]
  exact Wa ht h0 hr hdn (Rep.share _ _ _ hrep') st (fun p=>by simp)
 ·simp at hs
def BOk (n:Nat):Option X->Option Operand->Prop
 | none,none=>True
 | some y,some u=>XOk n y u
 | _,_=>False
theorem ZgU {u:Option Operand} {y:Option X} (h:Zjr P n u=some y):BOk n y u:=by
 cases u with
 | none=>simp [Zjr] at h;subst h;exact trivial
 | some u =>
  simp only [Zjr,Option.map_eq_some_iff] at h
  obtain ⟨z,hz,rfl⟩:=h
  exact W8 hz
theorem ZhE {A:GM} {μ:List Nat} {Ot:Nat->List Own} (hr:∀ i,i < n->Rep A μ (s.t i) (a.tmps.getD i undef) (Ot i)) {y:Option X} {u:Option Operand} {d m:Int} (hb:BOk n y u)
  (h:bound s.t d y=some m):(u=none∧m=d)∨(∃ u' k,u=some u'∧a.eval u'=.int k m):=by
 cases y with
 | none =>
  cases u with
  | none=>simp [bound] at h;exact .inl ⟨rfl,h.symm⟩
  | some u=>exact hb.elim
 | some y =>
  cases u with
  | none=>exact hb.elim
  | some u =>
   simp only [bound] at h
   obtain ⟨k,hk⟩:=J9 h (QY hb hr)
   exact .inr ⟨u,k,rfl,hk⟩
theorem Zn4 {d:Nat} {y:X} {lo hi:Option X} {u:Operand} {lo' hi':Option Operand} {t:TypeId} (ho:o.op=.slice t u lo' hi' none) (he:P.underlying t=some .string)
  (hd:o.dst=some d) (hdn:d < n) (hy:XOk n y u) (hlo:BOk n lo lo') (hhi:BOk n hi hi')
  (hs:step (.sliceS d y lo hi) s=some s') (sim:Sim x n s a w):Zo P x n o s' a w:=by
 obtain ⟨A,μ,OH,Ot,ht,h0,hr,st⟩:=sim
 have hrep:=QY hy hr
 simp only [step] at hs
 split at hs
 ·rename_i b hg
  rw [hg] at hrep
  simp only [Rep] at hrep
  split at hs
  ·rename_i l h hl hh
   split at hs
   ·rename_i hc
    obtain ⟨h1,h2,h3⟩:=hc
    have h4:0<=h:=by omega
    have h5:l<=max h 0:=by omega
    simp only [Option.some.injEq] at hs
    subst hs
    refine QG (v:=.string (b.extract l.toNat h.toNat)) (w':=w) (by
     rcases ZhE hr hlo hl with ⟨rfl,rfl⟩ | ⟨lu,k,rfl,hlu⟩<;>rcases ZhE hr hhi hh with ⟨rfl,rfl⟩ | ⟨hu,k',rfl,hhu⟩ <;>
      simp [execOp,ho,Instr.sliceAt,Instr.slice,run_underlying he,hrep.1,Instr.sliceBounds,Instr.sliceBound,asIntOf, *]) ?_
    rw [hd]
    exact Wa ht h0 hr hdn (Od:=[]) (by simp [Rep]) st (fun p=>by simp)
   ·simp at hs
  ·simp at hs
 ·simp at hs
theorem Zj0 {len cap:Nat} {lo hi mx:Option Value} {l h m:Int} (hlo:(lo=none∧l=0)∨∃ k,lo=some (.int k l)) (hhi:(hi=none∧h=len)∨∃ k,hi=some (.int k h))
  (hmx:(mx=none∧m=len)∨∃ k,mx=some (.int k m)) (hmh:mx.isSome=true->hi.isSome=true) (h1:0<=l) (h2:l<=h) (h3:h<=m) (h4:m<=len) (h5:len<=cap) :
  (Instr.sliceBounds true len cap lo hi mx).run P w=.ok (l.toNat,h.toNat,if mx.isSome then m.toNat else cap) w:=by
 have a1:0<=h:=by omega
 have a2:0<=m:=by omega
 have a3:m<=cap:=by omega
 have a4:h<=cap:=by omega
 have a5:l<=max h 0:=by omega
 have a6:h<=max m 0:=by omega
 rcases hmx with ⟨rfl,rfl⟩ | ⟨km,rfl⟩
 ·rcases hhi with ⟨rfl,rfl⟩ | ⟨kh,rfl⟩<;>rcases hlo with ⟨rfl,rfl⟩ | ⟨kl,rfl⟩ <;>
   simp [Instr.sliceBounds,Instr.sliceBound,asIntOf, *]
 ·rcases hhi with ⟨rfl,_⟩ | ⟨kh,rfl⟩
  ·simp at hmh
  ·rcases hlo with ⟨rfl,rfl⟩ | ⟨kl,rfl⟩ <;>
    simp [Instr.sliceBounds,Instr.sliceBound,asIntOf, *]
theorem Zcg {A:GM} {μ:List Nat} {Ot:Nat->List Own} (hr:∀ i,i < n->Rep A μ (s.t i) (a.tmps.getD i undef) (Ot i)) {y:Option X} {u:Option Operand} {d m:Int} (hb:BOk n y u)
  (h:bound s.t d y=some m):(u.map a.eval=none∧m=d)∨(∃ k,u.map a.eval=some (.int k m)):=by
 rcases ZhE hr hb h with ⟨rfl,rfl⟩ | ⟨u',k,rfl,hk⟩
 ·exact .inl ⟨rfl,rfl⟩
 ·exact .inr ⟨k,by simp [hk]⟩
theorem Zqa {d sz:Nat} {e:TypeId} {y:X} {lo hi mx:Option X} {u:Operand} {lo' hi' mx':Option Operand} {t:TypeId} (ho:o.op=.slice t u lo' hi' mx') (he:P.underlying t=some (.slice e)) (hsz:sz? P e=some sz)
  (hd:o.dst=some d) (hdn:d < n) (hy:XOk n y u) (hlo:BOk n lo lo') (hhi:BOk n hi hi') (hmx:BOk n mx mx') (hmh:mx'.isSome=true->hi'.isSome=true)
  (hs:step (.slice d sz y lo hi mx) s=some s') (sim:Sim x n s a w):Zo P x n o s' a w:=by
 obtain ⟨A,μ,OH,Ot,ht,h0,hr,st⟩:=sim
 have hrep:=QY hy hr
 simp only [step] at hs
 split at hs
 ·rename_i u' nil sz' xs hg
  rw [hg] at hrep
  simp only [Rep] at hrep
  split at hs
  ·rename_i l h m hl hh hm
   split at hs
   ·rename_i hc
    obtain ⟨rfl,h1,h2,h3,h4⟩:=hc
    simp only [Option.some.injEq] at hs
    subst hs
    have hb:=fun (cap:Nat) (hcap:xs.length<=cap)=>Zj0 (P:=P) (w:=w) (len:=xs.length) (cap:=cap) (Zcg hr hlo hl) (Zcg hr hhi hh) (Zcg hr hmx hm) (by simpa using hmh) h1 h2 h3 h4 hcap
    rcases hrep with ⟨rfl,hu,rfl,_⟩ | ⟨rfl,b,off,sp,cap,O',hu,hsp,hcap,hrow,_⟩
    ·have hb0:=hb 0 (by simp)
     simp at h4
     obtain ⟨rfl,rfl,rfl⟩:l=0∧h=0∧m=0:=by omega
     refine QG (v:=.slice none 0 0) (w':=w) (by
      simp only [List.length_nil] at hb0
      simp [execOp,ho,Instr.sliceAt,Instr.slice,run_underlying he,hu,hb0,X9 hsz]) ?_
     rw [hd]
     exact Wa ht h0 hr hdn (Od:=[]) (by simp [Qv,Rep]) st (fun p=>by simp)
    ·have hb1:=hb cap hcap
     have hlen:((xs.take h.toNat).drop l.toNat).length=h.toNat - l.toNat:=by simp;omega
     obtain ⟨O1,hr1⟩:=hrow.take h.toNat
     obtain ⟨O2,hr2⟩:=hr1.drop l.toNat (by simp;omega)
     have hMle:h.toNat<=(if (mx'.map a.eval).isSome=true then m.toNat else cap):=by split<;>omega
     have hMu:(mx.isSome && decide (l=m))=true->(if (mx'.map a.eval).isSome=true then m.toNat else cap) - l.toNat=0:=by
      intro hq
      simp only [Bool.and_eq_true,decide_eq_true_eq] at hq
      have:mx'.isSome=true:=by
       cases mx' with
       | some _=>rfl
       | none=>cases mx with
        | none=>simp at hq
        | some _=>exact hmx.elim
      rw [if_pos (by simpa using this),hq.2];omega
     generalize (mx.isSome && decide (l=m))=uq at hMu ⊢
     generalize (if (mx'.map a.eval).isSome=true then m.toNat else cap)=M at hb1 hMle hMu
     refine QG (v:=.slice (some (if M=l.toNat then ⟨b,off,sp⟩ else (⟨b,off,sp⟩:Addr).add (l.toNat * sz'))) (h.toNat - l.toNat) (M - l.toNat)) (w':=w) (by
      simp [execOp,ho,Instr.sliceAt,Instr.slice,run_underlying he,hu,hb1,X9 hsz]
      split<;>rfl) ?_
     obtain ⟨sp',hadd,hsp'⟩:∃ sp',(⟨b,off,sp⟩:Addr).add (l.toNat * sz')=⟨b,off+l.toNat * sz',sp'⟩∧(sp'=none∨(xs.take h.toNat).drop l.toNat=[]):=by
      unfold Addr.add
      split
      ·rename_i h0;exact ⟨sp,by rw [h0];rfl,hsp.imp id (fun k=>by rw [k.1];simp)⟩
      ·exact ⟨none,rfl,.inl rfl⟩
     rw [hadd]
     rw [hd]
     have hU:∀ q:Bool,(q=false∨M - l.toNat=0)->Rep A μ (.sl q false sz' (Qv ((xs.take h.toNat).drop l.toNat))) (.slice (some (if M=l.toNat then ⟨b,off,sp⟩ else ⟨b,off+l.toNat * sz',sp'⟩)) (h.toNat - l.toNat) (M - l.toNat)) []:=by
      intro q hq
      have:=Rep.share (A:=A) (μ:=μ) (.sl false false sz' ((xs.take h.toNat).drop l.toNat)) (.slice (some (if M=l.toNat then ⟨b,off,sp⟩ else ⟨b,off+l.toNat * sz',sp'⟩)) (h.toNat - l.toNat) (M - l.toNat)) (if M=l.toNat then [] else O2) ?_
      ·simp only [TL.share,Rep] at this ⊢
       rcases this with h | ⟨g0,b',off',sp2,cap',O',g1,gs,g2,g3,g4⟩
       ·simp at h
       ·have hq':q=false∨cap'=0:=by
         rcases hq with h | h
         ·exact .inl h
         ·right
          simp only [Value.slice.injEq] at g1
          omega
        refine .inr ⟨trivial,b',off',sp2,cap',O',g1,gs.imp id (fun k=>⟨k.1,hq'⟩),g2,g3,.inr ⟨hq',?_⟩⟩
        ·rcases g4 with ⟨h,_⟩ | ⟨_,h⟩
         ·simp at h
         ·exact h
      simp only [Rep]
      refine .inr ⟨trivial,?_⟩
      by_cases hM:M=l.toNat
      ·have hnil:(xs.take h.toNat).drop l.toNat=[]:=by
        apply List.eq_nil_of_length_eq_zero;rw [hlen];omega
       rw [if_pos hM,if_pos hM,hnil]
       refine ⟨b,off,sp,M - l.toNat,[],by rw [show h.toNat - l.toNat=0 by omega];rfl,.inr ⟨rfl,.inl trivial⟩,by simp,by simp [Qw],.inr ⟨.inl trivial,rfl⟩⟩
      ·rw [if_neg hM,if_neg hM]
       exact ⟨b,_,sp',M - l.toNat,O2,by rw [hlen],hsp'.imp id (fun k=>⟨k,.inl trivial⟩),by omega,hr2,.inr ⟨.inl trivial,rfl⟩⟩
     refine Wa ht h0 hr hdn (hU uq ?_) st (fun p=>by simp)
     cases uq with
     | false=>exact .inl rfl
     | true=>exact .inr (hMu rfl)
   ·simp at hs
  ·simp at hs
 ·rename_i l0 sz' off n0 cap hg
  rw [hg] at hrep
  simp only [Rep] at hrep
  obtain ⟨hO,hlμ,hu⟩:=hrep
  split at hs
  ·rename_i l h m hl hh hm
   split at hs
   ·rename_i hc
    obtain ⟨rfl,rfl,h1,h2,h3,h4⟩:=hc
    simp only [Option.some.injEq] at hs
    subst hs
    have hmx0:mx=none:=by cases mx with
     | none=>rfl
     | some _=>simp at h4
    subst hmx0
    have hmx1:mx'=none:=by cases mx' with
     | none=>rfl
     | some _=>exact hmx.elim
    subst hmx1
    have hm0:m=n0:=by simp only [bound,Option.some.injEq] at hm;exact hm.symm
    subst hm0
    have hb:=Zj0 (P:=P) (w:=w) (len:=n0) (cap:=cap) (Zcg hr hlo hl) (Zcg hr hhi hh) (mx:=none) (m:=n0) (.inl ⟨rfl,rfl⟩) (by simp) (by omega) h1 h2 (Int.le_refl _) h3
    refine QG (v:=.slice (some (⟨μ.getD l0 0,off * sz',none⟩:Addr)) h.toNat cap) (w':=w) (by
     simp only [Option.isSome_none,Bool.false_eq_true,if_false,Int.toNat_zero] at hb
     simp [execOp,ho,Instr.sliceAt,Instr.slice,run_underlying he,hu,hb,X9 hsz,Addr.add]) ?_
    rw [hd]
    exact Wa ht h0 hr hdn (Od:=[]) (by simp only [Rep];exact ⟨trivial,hlμ,trivial⟩) st (fun p=>by simp)
   ·simp at hs
  ·simp at hs
 ·simp at hs
theorem Qw.of_chunks {A:GM} {μ:List Nat}:∀ (m:Nat) {sz b off:Nat} {xs:List LV} {O:List Own},xs.length=m * sz->Qu A μ xs b off O->Qw A μ (Qn sz m xs) sz b off O
 | 0,sz,b,off,xs,O,hl,h=>by
  have:xs=[]:=List.eq_nil_of_length_eq_zero (by simpa using hl)
  subst this
  simpa [Qn,Qw,Qu] using h
 | m+1,sz,b,off,xs,O,hl,h=>by
  obtain ⟨vs,hv,hA⟩:=h.vals
  have e:xs=xs.take sz++xs.drop sz:=(List.take_append_drop sz xs).symm
  rw [e] at hv
  obtain ⟨v1,v2,O1,O2,rfl,rfl,h1,h2⟩:=hv.split
  have l1:=h1.length
  have hlt:sz<=xs.length:=by rw [hl,Nat.add_mul];omega
  have l1':v1.length=sz:=by simp at l1;omega
  simp only [Qn,Qw]
  refine ⟨O1,O2,rfl,by simp;omega,Qu.of h1 fun j v hj=>?_,Qw.of_chunks m (by simp [hl,Nat.add_mul]) (Qu.of h2 fun j v hj=>?_)⟩
  ·refine hA j v ?_
   rw [List.getElem?_append_left]
   ·exact hj
   ·rcases Nat.lt_or_ge j v1.length with g | g
    ·exact g
    ·rw [List.getElem?_eq_none g] at hj;simp at hj
  ·have:=hA (sz+j) v (by rw [List.getElem?_append_right (by omega),show sz+j - v1.length=j by omega];exact hj)
   rwa [<- Nat.add_assoc] at this
theorem Zef (sz:Nat):∀ (m:Nat) (xs:List LV),Qn sz m xs=Qn sz m (xs.take (m * sz))
 | 0,_=>rfl
 | m+1,xs=>by
  simp only [Qn]
  rw [Zef sz m (xs.drop sz),Zef sz m ((xs.take ((m+1) * sz)).drop sz)]
  congr 1
  ·rw [List.take_take];congr 1;rw [Nat.add_mul];omega
  ·congr 1
   rw [List.drop_take,List.take_take];congr 1
   rw [Nat.add_mul];omega
theorem Y0 (sz:Nat):∀ (m:Nat) (xs:List LV),(Qn sz m xs).length=m
 | 0,_=>rfl
 | m+1,xs=>by simp [Qn,Y0 sz m]
theorem Zst {d:Nat} {y:X} {u:Operand} (hdn:d < n) (hy:XOk n y u)
  (hs:step (.mv d .frz y) s=some s') (sim:Sim x n s a w):Sim x n s' (a.put (some d) (a.eval u)) w:=by
 obtain ⟨A,μ,OH,Ot,ht,h0,hr,st⟩:=sim
 have hrep:=QY hy hr
 simp only [step] at hs
 have core:∀ (l:Nat) (xs:List LV) (lv:LV) (m:Nat),m<=xs.length->s.h[l]?=some (some xs) ->
   (∀ (c:Array Value) (e:TypeId) (Oc Or:List Own),w.heap[μ.getD l 0]?=some (.cells c e (0,0))->c.size=xs.length->OH.getD l []=Oc++Or ->
    Qu (A.put (μ.getD l 0) 0 m c) μ (xs.take m) (μ.getD l 0) 0 Oc->∃ Ox,Rep (A.put (μ.getD l 0) 0 m c) μ lv (a.eval u) Ox ∧
    ∀ p:Own->Bool,Ox.countP p<=(OH.getD l []).countP p+(if p (μ.getD l 0,m,c.size) then 1 else 0)) ->
   Sim x n ({ s with h:=s.h.set l none }.put d lv) (a.put (some d) (a.eval u)) w:=by
  intro l xs lv m hm hl hcore
  obtain ⟨c,e,hc,hxs,hone⟩:=st.inv.box l xs hl
  have hcl:c.size=xs.length:=by rw [<- hxs.length,Array.length_toList]
  have hlv:Kg μ s.h (μ.getD l 0):=⟨l,xs,hl,rfl⟩
  have hle:A.Le (A.put (μ.getD l 0) 0 m c):=GM.put_le (fun i _=>st.inv.loose _ hlv i)
  obtain ⟨Oc,Or,hO,hcells⟩:∃ Oc Or,OH.getD l []=Oc++Or∧Qu (A.put (μ.getD l 0) 0 m c) μ (xs.take m) (μ.getD l 0) 0 Oc:=by
   have h2:=RepVals.mono (ν:=[]) hle xs c.toList _ hxs
   rw [List.append_nil,<- List.take_append_drop m xs] at h2
   obtain ⟨v1,v2,Oc,Or,e1,e2,k1,k2⟩:=h2.split
   have l1:=k1.length
   rw [List.length_take,Nat.min_eq_left hm] at l1
   refine ⟨Oc,Or,e2,Qu.of k1 fun j v hj=>?_⟩
   have hjl:j < v1.length:=by
    rcases Nat.lt_or_ge j v1.length with g | g
    ·exact g
    ·rw [List.getElem?_eq_none (by simpa using g)] at hj;simp at hj
   have hj':c[j]?=some v:=by
    rw [<- Array.getElem?_toList,e1,List.getElem?_append_left hjl];exact hj
   refine ⟨?_,hone v (List.mem_of_getElem? (by rw [Array.getElem?_toList];exact hj'))⟩
   unfold GM.put
   rw [if_pos (by omega),Nat.zero_add]
   exact hj'
  obtain ⟨Ox,hlvr,hcnt⟩:=hcore c e Oc Or hc hcl hO hcells
  have st':=st.settle hl (XV n (upd Ot d Ox)) hc m (fun p=>by
   have h1:=Xe p Ot d Ox n hdn
   have h2:=hcnt p
   omega)
  have:=KB (x:=x) (w':=w) (ν:=[]) (B:=A.put (μ.getD l 0) 0 m c) (lv:=lv) (v:=a.eval u) (Od:=Ox) ht h0 hr hle hdn (by simpa using hlvr) (by
   rw [List.append_nil];exact st')
  exact this
 split at hs
 ·rename_i l hg
  rw [hg] at hrep
  simp only [Rep] at hrep
  split at hs
  ·rename_i xs hl
   simp only [Option.some.injEq] at hs
   subst hs
   refine core l xs (.rp xs) xs.length (Nat.le_refl _) hl fun c e Oc Or hc hcl hO hcells=>⟨Oc,?_,fun p=>by rw [hO];simp only [List.countP_append];omega⟩
   rw [List.take_of_length_le (Nat.le_refl _)] at hcells
   simp only [Rep]
   exact ⟨_,0,hrep.2.2,hcells⟩
  ·simp at hs
 ·rename_i l sz m cap hg
  rw [hg] at hrep
  simp only [Rep] at hrep
  obtain ⟨_,hlμ,hu⟩:=hrep
  split at hs
  ·rename_i xs hl
   split at hs
   ·rename_i hlen
    obtain ⟨hlen,hcap⟩:=hlen
    simp only [Option.some.injEq] at hs
    subst hs
    have hmc:m * sz<=xs.length:=by rw [hlen];exact Nat.mul_le_mul_right _ hcap
    refine core l xs (.sl true false sz (Qn sz m xs)) (m * sz) hmc hl fun c e Oc Or hc hcl hO hcells=>⟨(μ.getD l 0,m * sz,c.size)::Oc,?_,fun p=>?_⟩
    ·simp only [Rep]
     refine .inr ⟨trivial,_,0,none,cap,Oc,by rw [hu,Y0,Nat.zero_mul],.inl rfl,by rw [Y0];exact hcap,?_,.inl ⟨trivial,rfl,?_⟩⟩
     ·rw [Zef]
      exact Qw.of_chunks m (by rw [List.length_take,Nat.min_eq_left hmc]) hcells
     ·rw [Y0,hcl,hlen]
    ·rw [hO];simp only [List.countP_cons,List.countP_append];omega
   ·simp at hs
  ·simp at hs
 ·simp at hs
theorem ZnW {d:Nat} {y:X} {u:Operand} (he:execOp a.eval o=pure (.value (a.eval u))) (hd:o.dst=some d) (hdn:d < n) (hy:XOk n y u)
  (hs:step (.mv d .frz y) s=some s') (sim:Sim x n s a w):Zo P x n o s' a w :=
 QG (v:=a.eval u) (w':=w) (by rw [he];rfl) (by rw [hd];exact Zst hdn hy hs sim)
theorem Zto {k:Nat} (hk:k < n) (hs:step (.mv k .frz (.t k)) s=some s') (sim:Sim x n s a w):Sim x n s' a w:=by
 have h1:=Zst (u:=.tmp k) (a:=a) hk (by simp [XOk,hk]) hs sim
 have e:a.put (some k) (a.eval (.tmp k))=a:=by
  obtain ⟨A,μ,OH,Ot,ht,_⟩:=sim
  cases a with
  | mk tmps defers =>
   simp only [Act.put,Act.eval] at ht ⊢
   congr 1
   apply Array.ext_getElem?
   intro i
   simp only [Array.getElem?_setIfInBounds]
   split
   ·rename_i hik
    subst hik
    simp [ht,hk,Array.getD_eq_getD_getElem?]
   ·rfl
 rwa [e] at h1
end
def ZaY (Ot:Nat->List Own):List X->(Nat->List Own)
 | []=>Ot
 | x::xs=>ZaY (Zm Ot x) xs
theorem Zht (off:Nat):∀ (l:List Value) (k:Nat) (cs:Array Value),(l.zipIdx k).foldl (fun cs (c,j)=>cs.setIfInBounds (off+j) c) cs=Yh cs (off+k) l
 | [],_,_=>rfl
 | v::l,k,cs=>by
  simp only [List.zipIdx_cons,List.foldl_cons,Yh]
  exact Zht off l (k+1) _
theorem ZmO (off:Nat) (l:Array Value) (cs:Array Value):l.zipIdx.foldl (fun cs (c,j)=>cs.setIfInBounds (off+j) c) cs=Yh cs off l.toList:=by
 rw [<- Array.foldl_toList,Array.toList_zipIdx]
 exact Zht off l.toList 0 cs
section
variable {P:Program} {x:Cx} {n:Nat} {o:Oper} {s s':St} {a:Act} {w:World}
theorem Zlh {A:GM} {μ:List Nat} {place:Nat->Option (Nat×Nat)} :
  ∀ (ps:List (Nat×Operand)) (qs:List (Nat×Nat×X)) (t:Nat->LV) (Ot:Nat->List Own) (zs zs':List LV) (c:Array Value) (Oz:List Own),ZeT P n place ps=some qs ->
   (∀ i,i < n->Rep A μ (t i) (a.tmps.getD i undef) (Ot i))->RepVals A μ zs c.toList Oz->(∀ v∈c.toList,v.oneCell'=true)->Kf t zs qs=some zs' ->
   ∃ c' Oz',Instr.fill place c (ps.map fun p=>(p.1,a.eval p.2))=some c'∧RepVals A μ zs' c'.toList Oz'∧(∀ v∈c'.toList,v.oneCell'=true)∧c'.size=c.size ∧
    (∀ i,i < n->Rep A μ (ZB t (qs.map fun p=>p.2.2) i) (a.tmps.getD i undef) (ZaY Ot (qs.map fun p=>p.2.2) i)) ∧
    ∀ p:Own->Bool,Oz'.countP p+(XV n (ZaY Ot (qs.map fun p=>p.2.2))).countP p<=Oz.countP p+(XV n Ot).countP p
 | [],qs,t,Ot,zs,zs',c,Oz,hq,hr,hz,h1,hf=>by
  simp only [ZeT,Option.some.injEq] at hq
  subst hq
  simp only [Kf,Option.some.injEq] at hf
  subst hf
  exact ⟨c,Oz,rfl,hz,h1,rfl,hr,fun p=>Nat.le_refl _⟩
 | (i,u)::ps,qs,t,Ot,zs,zs',c,Oz,hq,hr,hz,h1,hf=>by
  simp only [ZeT] at hq
  split at hq
  ·rename_i off sz y r hpl hy hrr
   simp only [Option.some.injEq] at hq
   subst hq
   simp only [Kf] at hf
   split at hf
   ·rename_i hc
    obtain ⟨hflat,hcl,hle⟩:=hc
    have hyok:=W8 hy
    obtain ⟨hv,hvone⟩:=Zii hflat (QY hyok hr)
    have hvl:=hv.length
    rw [hcl] at hvl
    have hzl:=hz.length
    rw [Array.length_toList] at hzl
    obtain ⟨O',hO',hOle,_⟩:=RepVals.splice hz hv off (by omega)
    have htl:(Yh c off (a.eval u).cells.toList).toList=c.toList.take off++(a.eval u).cells.toList++c.toList.drop (off+(get t y).cells.length):=by
     rw [Zb3 _ _ _ (by omega),hcl,hvl]
    obtain ⟨c',Oz',g1,g2,g3,g4,g5,g6⟩:=Zlh ps r (give t y) (Zm Ot y) (splice zs off (get t y).cells) zs' (Yh c off (a.eval u).cells.toList) O' hrr (Vf y hr) (by rw [htl];exact hO') (by
      rw [htl]
      intro c' hc'
      rcases List.mem_append.1 hc' with hc' | hc'
      ·rcases List.mem_append.1 hc' with hc' | hc'
       ·exact h1 _ (List.mem_of_mem_take hc')
       ·exact hvone _ hc'
      ·exact h1 _ (List.mem_of_mem_drop hc')) hf
    refine ⟨c',Oz',?_,g2,g3,by rw [g4,Zee],by simpa [ZB,ZaY] using g5,fun p=>?_⟩
    ·simp only [List.map_cons,Instr.fill,hpl]
     rw [if_neg (by rw [<- Array.length_toList,hvl];simp;omega),ZmO]
     exact g1
    ·have k1:=g6 p
     have k2:=Zp (Ot:=Ot) hyok p
     have k3:=hOle p
     simp only [List.map_cons,ZaY]
     omega
   ·simp at hf
  ·simp at hq
theorem ZpQ {d:Nat} {z:List LV} {qs:List (Nat×Nat×X)} {ps:Array (Nat×Operand)} {t:TypeId} {fs:Array Field} {pl:List (Nat×Nat)} (ho:o.op=.build t ps) (hd:o.dst=some d) (hdn:d < n)
  (hu:P.underlying t=some (.struct fs)) (hz:zLV P t=some z) (hpl:(fs.toList.mapM fun f=>(P.info? f.type).map fun i=>(f.offset,i.size))=some pl)
  (hq:ZeT P n (fun i=>pl.toArray[i]?) ps.toList=some qs) (hs:step (.build d z qs) s=some s') (sim:Sim x n s a w):Zo P x n o s' a w:=by
 obtain ⟨A,μ,OH,Ot,ht,h0,hr,st⟩:=sim
 simp only [step,Option.map_eq_some_iff] at hs
 obtain ⟨zs,hf,rfl⟩:=hs
 obtain ⟨i,v,hi,hv,hrep,hone⟩:=Zgg hz
 obtain ⟨c',Oz',g1,g2,g3,g4,g5,g6⟩:=Zlh (P:=P) (n:=n) (a:=a) ps.toList qs s.t Ot z zs v.cells [] hq hr (hrep A μ) hone hf
 refine QG (v:=.agg c') (w':=w) (by
  have:P.built t (ps.map fun p=>(p.1,a.eval p.2)).toList=some c':=by
   simp only [Program.built,hi,hu,hv,hpl,Array.toList_map]
   exact g1
  simp [execOp,ho,run_build w t _ c' this]) ?_
 rw [hd]
 refine Wa ht h0 g5 hdn (Od:=Oz') ?_ st (fun p=>by have:=g6 p;simp at this;omega)
 simp only [Rep]
 exact ⟨c'.toList,by simp,g3,g2⟩
theorem RepVals.flatten_replicate {A:GM} {μ:List Nat} {z:List LV} {vs:List Value} (h:RepVals A μ z vs []):∀ m,RepVals A μ (List.replicate m z).flatten (List.replicate m vs).flatten []
 | 0=>by simp [RepVals]
 | m+1=>by
  simp only [List.replicate_succ,List.flatten_cons]
  exact RepVals.app (O1:=[]) (O2:=[]) h (RepVals.flatten_replicate h m)
theorem Vh (zs:List Value):∀ (m i:Nat),i < m * zs.length->(List.replicate m zs).flatten[i]?=zs[i % zs.length]?
 | 0,i,h=>by simp at h
 | m+1,i,h=>by
  simp only [List.replicate_succ,List.flatten_cons]
  by_cases hi:i < zs.length
  ·rw [List.getElem?_append_left hi,Nat.mod_eq_of_lt hi]
  ·rw [List.getElem?_append_right (by omega),Vh zs m _ (by rw [Nat.add_mul] at h;omega),Nat.mod_eq_sub_mod (a:=i) (b:=zs.length) (by omega)]
theorem ZqM (z:Array Value) (m:Nat) (hz:0 < z.size):((Array.range (m * z.size)).map (fun i=>z[i % z.size]!)).toList=(List.replicate m z.toList).flatten:=by
 apply List.ext_getElem?
 intro i
 by_cases hi:i < m * z.size
 ·rw [Vh _ _ _ (by simpa using hi)]
  have h2:i % z.size < z.size:=Nat.mod_lt _ hz
  simp [hi,h2]
 ·rw [List.getElem?_eq_none (by simp;omega),List.getElem?_eq_none (by simp [List.length_flatten];omega)]
theorem ZoS {d sz len:Nat} {e:TypeId} {z:List LV} {qs:List (Nat×Nat×X)} {ps:Array (Nat×Operand)} {t:TypeId} (ho:o.op=.buildSlice t len ps) (hd:o.dst=some d) (hdn:d < n)
  (he:Z1 P t=some e) (hsz:sz? P e=some sz) (hlen:len * sz<=16777216) (hpos:0 < sz) (hz:zLV P e=some z) (hzl:z.length=sz)
  (hq:ZeT P n (fun i=>some (i * sz,sz)) ps.toList=some qs) (hs:step (.bslice d sz len (List.replicate len z).flatten qs) s=some s') (sim:Sim x n s a w):Zo P x n o s' a w:=by
 obtain ⟨A,μ,OH,Ot,ht,h0,hr,st⟩:=sim
 simp only [step,Option.map_eq_some_iff] at hs
 obtain ⟨zs,hf,rfl⟩:=hs
 obtain ⟨i,v,hi,hv,hrep,hone⟩:=Zgg hz
 have hvl:v.cells.size=sz:=by rw [<- Array.length_toList,(hrep A μ).length,hzl]
 have hrep2:=RepVals.flatten_replicate (hrep A μ) len
 obtain ⟨c',Oz',g1,g2,g3,g4,g5,g6⟩:=Zlh (P:=P) (n:=n) (a:=a) ps.toList qs s.t Ot (List.replicate len z).flatten zs ((List.replicate len v.cells.toList).flatten).toArray [] hq hr (by simpa using hrep2) (by
  intro c hc
  simp only [List.mem_flatten,List.mem_replicate] at hc
  obtain ⟨l,⟨_,rfl⟩,hc⟩:=hc
  exact hone c hc) hf
 have hcs:c'.size=len * sz:=by rw [g4];simp [List.length_flatten,hvl]
 have hzsl:zs.length=len * sz:=by rw [<- g2.length,Array.length_toList,hcs]
 have hrun:(Instr.buildSlice t len (ps.map fun p=>(p.1,a.eval p.2))).run P w=.ok (.slice (some ⟨w.heap.size,0,none⟩) len len) { w with heap:=w.heap.push (.cells c' e (0,0)) }:=by
  have hz1:((Array.range (len * sz)).map (fun i=>v.cells[i % v.cells.size]!))=((List.replicate len v.cells.toList).flatten).toArray:=by
   apply Array.toList_inj.1
   have:=ZqM v.cells len (by omega)
   rw [hvl] at this
   simp only [hvl] at this ⊢
   rw [this]
  have g1':Instr.fill (fun i=>some (i * sz,sz)) ((List.replicate len v.cells.toList).flatten).toArray (ps.map fun p=>(p.1,a.eval p.2)).toList=some c':=by
   rw [Array.toList_map];exact g1
  unfold Instr.buildSlice
  by_cases hl0:len=0
  ·subst hl0
   have e0:Array.map (fun (_:Nat)=>(default:Value)) (Array.range 0)=#[]:=by simp [Array.range]
   simp at g1'
   simp [run_underlying (YI he),X9 hsz,newRow,e0,g1']
  ·have hne:¬ len * sz=0:=by
    intro h
    rcases Nat.mul_eq_zero.1 h with h | h<;>omega
   have hz2:(zeroValue e).run P w=.ok v w:=by simp [zeroValue,typeInfo,hi,hv]
   rcases Nat.lt_or_ge 16777216 (len * sz) with g | g
   ·omega
   ·have hz3:Array.map (fun x=>v.cells[x % v.cells.size]!) (Array.range (len * sz))=((List.replicate len v.cells.toList).flatten).toArray:=hz1
    simp only [Sem.run_bind,run_underlying (YI he),Result.andThen_ok,X9 hsz]
    rw [if_neg (by simpa using g)]
    simp only [Sem.run_bind,hne,if_false,hz2,Result.andThen_ok,Sem.run_pure,pure_bind,hz3,g1']
    rfl
 refine QG (v:=.slice (some ⟨w.heap.size,0,none⟩) len len) (w':={ w with heap:=w.heap.push (.cells c' e (0,0)) }) (by
  simp only [execOp,ho,Sem.run_bind]
  rw [hrun];rfl) ?_
 rw [hd]
 have st':=st.newRow c' g3 e (len * sz) (XV n (upd (ZaY Ot (qs.map fun p=>p.2.2)) d ((w.heap.size,len * sz,c'.size)::Oz'))) (fun p=>by
  have k1:=Xe p (ZaY Ot (qs.map fun p=>p.2.2)) d ((w.heap.size,len * sz,c'.size)::Oz') n hdn
  have k2:=g6 p
  simp only [List.countP_cons,List.countP_nil] at k1 k2
  omega)
 have hle:A.Le (A.put w.heap.size 0 (len * sz) c'):=GM.put_le (fun i _=>st.inv.unsettled (Nat.le_refl _) i)
 refine KB (ν:=[]) ht h0 g5 hle hdn ?_ (by rw [List.append_nil];exact st')
 rw [List.append_nil]
 simp only [Rep]
 refine .inr ⟨trivial,w.heap.size,0,none,len,Oz',by rw [Y0],.inl rfl,by rw [Y0];exact Nat.le_refl _,Qw.of_chunks len hzsl ?_,.inl ⟨trivial,rfl,by rw [Y0,hcs]⟩⟩
 have h3:=RepVals.mono (ν:=[]) hle zs c'.toList _ g2
 rw [List.append_nil] at h3
 refine Qu.of h3 fun j u hj=>?_
 have hjl:j < c'.size:=by
  rcases Nat.lt_or_ge j c'.size with g | g
  ·exact g
  ·rw [List.getElem?_eq_none (by simpa using g)] at hj;simp at hj
 refine ⟨?_,g3 u (List.mem_of_getElem? hj)⟩
 unfold GM.put
 rw [if_pos (by omega)]
 simpa using hj
theorem ZmM {d sz k:Nat} {e:TypeId} {z:List LV} {t:TypeId} (ho:o.op=.makeSlice t (.tmp k) (.tmp k)) (hd:o.dst=some d) (hdn:d < n) (hk:k < n)
  (he:Z1 P t=some e) (hsz:sz? P e=some sz) (hz:zLV P e=some z) (hzl:z.length=sz) (hpos:0 < sz) (hby:P.bytesOf e<=128)
  (hs:step (.mkslice d sz z (.t k)) s=some s') (sim:Sim x n s a w):Zo P x n o s' a w:=by
 obtain ⟨A,μ,OH,Ot,ht,h0,hr,st⟩:=sim
 simp only [step] at hs
 split at hs
 ·rename_i m hm
  split at hs
  ·rename_i hc
   obtain ⟨hm0,hm1⟩:=hc
   simp only [Option.some.injEq] at hs
   subst hs
   obtain ⟨kk,hkk⟩:=J9 hm (QY (y:=.t k) (o:=.tmp k) ⟨rfl,hk⟩ hr)
   obtain ⟨i,v,hi,hv,hrep,hone⟩:=Zgg hz
   have hvl:v.cells.size=sz:=by rw [<- Array.length_toList,(hrep A μ).length,hzl]
   have hby':i.bytes<=128:=by simpa [Program.bytesOf,hi] using hby
   obtain ⟨i2,hi2,hisz⟩:=ZqP hsz
   rw [hi] at hi2
   obtain rfl:i=i2:=by simpa using hi2
   have hlarge:(i.bytes:Int) * m<=281474976710656:=by
    have h1:(i.bytes:Int) * m<=128 * 1099511627776:=by
     refine Int.le_trans (Int.mul_le_mul_of_nonneg_right (show (i.bytes:Int)<=128 by omega) hm0) ?_
     exact Int.mul_le_mul_of_nonneg_left hm1 (by omega)
    omega
   have hcells:madeCells v.cells (m.toNat * i.size)=((List.replicate m.toNat v.cells.toList).flatten).toArray:=by
    apply Array.toList_inj.1
    have:=ZqM v.cells m.toNat (by omega)
    rw [hvl] at this
    unfold madeCells
    rw [hisz]
    simp only [hvl] at this ⊢
    exact this
   have hrun:=run_make (P:=P) w t e i v (YI he) hi hv kk kk m m hm0 (Int.le_refl _) hlarge (show m<=9223372036854775807 from by
    have:(WX:Int)=1099511627776:=rfl
    omega)
   rw [hcells] at hrun
   refine QG (v:=.slice (some ⟨w.heap.size,0,none⟩) m.toNat m.toNat) (w':={ w with heap:=w.heap.push (.cells ((List.replicate m.toNat v.cells.toList).flatten).toArray e (0,0)) }) (by
    simp only [execOp,ho,Sem.run_bind,hkk]
    rw [hrun];rfl) ?_
   rw [hd]
   have st':=st.newBox (List.replicate m.toNat v.cells.toList).flatten e (List.replicate m.toNat z).flatten [] (XV n (upd Ot d [])) (RepVals.flatten_replicate (hrep A μ) _) (by
     intro c hc
     simp only [List.mem_flatten,List.mem_replicate] at hc
     obtain ⟨l,⟨_,rfl⟩,hc⟩:=hc
     exact hone c hc) (fun p=>by
    have:=Xe p Ot d [] n hdn
    simp at this ⊢;omega)
   refine KB (ν:=[w.heap.size]) (Od:=[]) ht h0 hr (fun _ _ _ h=>h) hdn ?_ st'
   simp only [Rep]
   refine ⟨trivial,by simp [st.inv.len],?_⟩
   rw [V7 st.inv.len,Nat.zero_mul]
  ·simp at hs
 ·simp at hs
theorem Qw.app {A:GM} {μ:List Nat}:∀ {xs ys:List (List LV)} {sz b off:Nat} {O1 O2:List Own},Qw A μ xs sz b off O1->Qw A μ ys sz b (off+xs.length * sz) O2->Qw A μ (xs++ys) sz b off (O1++O2)
 | [],ys,sz,b,off,O1,O2,h,k=>by simp only [Qw] at h;subst h;simpa using k
 | x::xs,ys,sz,b,off,O1,O2,h,k=>by
  simp only [Qw] at h
  obtain ⟨P1,P2,rfl,h2,h3,h4⟩:=h
  simp only [List.cons_append,Qw]
  refine ⟨P1,P2++O2,by rw [List.append_assoc],h2,h3,Qw.app h4 ?_⟩
  rw [show off+sz+xs.length * sz=off+(x::xs).length * sz by simp [Nat.add_mul];omega]
  exact k
theorem Qw.vals {A:GM} {μ:List Nat}:∀ {xs:List (List LV)} {sz b off:Nat} {O:List Own},Qw A μ xs sz b off O ->
  ∃ vs,RepVals A μ xs.flatten vs O∧vs.length=xs.length * sz∧(∀ x∈xs,x.length=sz)∧∀ j v,vs[j]?=some v->A b (off+j)=some v∧v.oneCell'=true
 | [],sz,b,off,O,h=>⟨[],by simp only [Qw] at h;simp [RepVals,h],by simp,by simp,by simp⟩
 | x::xs,sz,b,off,O,h=>by
  simp only [Qw] at h
  obtain ⟨O1,O2,rfl,h2,h3,h4⟩:=h
  obtain ⟨vs,g1,g2,g3,g4⟩:=Qw.vals h4
  obtain ⟨us,k1,k2⟩:=h3.vals
  have kl:=k1.length
  refine ⟨us++vs,by rw [List.flatten_cons];exact RepVals.app k1 g1,by simp [kl,h2,g2,Nat.add_mul];omega,by simpa [h2] using g3,fun j v hj=>?_⟩
  by_cases hju:j < us.length
  ·rw [List.getElem?_append_left hju] at hj;exact k2 j v hj
  ·rw [List.getElem?_append_right (by omega)] at hj
   have:=g4 _ v hj
   rwa [show off+sz+(j - us.length)=off+j by omega] at this
theorem Qw.of_vals {A:GM} {μ:List Nat}:∀ {xs:List (List LV)} {sz b off:Nat} {vs:List Value} {O:List Own},(∀ x∈xs,x.length=sz)->RepVals A μ xs.flatten vs O ->
  (∀ j v,vs[j]?=some v->A b (off+j)=some v∧v.oneCell'=true)->Qw A μ xs sz b off O
 | [],sz,b,off,vs,O,_,h,_=>by simp only [List.flatten_nil,RepVals] at h;simp [Qw,h.2]
 | x::xs,sz,b,off,vs,O,hl,h,hA=>by
  rw [List.flatten_cons] at h
  obtain ⟨v1,v2,O1,O2,rfl,rfl,h1,h2⟩:=h.split
  have l1:=h1.length
  have lx:=hl x (by simp)
  simp only [Qw]
  refine ⟨O1,O2,rfl,lx,Qu.of h1 fun j v hj=>?_,Qw.of_vals (fun y hy=>hl y (by simp [hy])) h2 fun j v hj=>?_⟩
  ·refine hA j v ?_
   rw [List.getElem?_append_left]
   ·exact hj
   ·rcases Nat.lt_or_ge j v1.length with g | g
    ·exact g
    ·rw [List.getElem?_eq_none g] at hj;simp at hj
  ·have:=hA (sz+j) v (by rw [List.getElem?_append_right (by omega),show sz+j - v1.length=j by omega];exact hj)
   rwa [<- Nat.add_assoc] at this
theorem Zd9 {A:GM} {μ:List Nat} {u nil:Bool} {sz:Nat} {xs:List (List LV)} {v:Value} {O:List Own} (h:Rep A μ (.sl u nil sz xs) v O) :
  ∃ (base:Option Addr) (cap:Nat) (vs:List Value) (O':List Own),v=.slice base xs.length cap∧xs.length<=cap∧RepVals A μ xs.flatten vs O'∧vs.length=xs.length * sz∧(∀ x∈xs,x.length=sz) ∧
   (∀ p:Own->Bool,O'.countP p<=O.countP p)∧(∀ c∈vs,c.oneCell'=true)∧(nil=base.isNone)∧(nil=true->cap=0) ∧
   (∀ (w:World),(∀ b i v,A b i=some v->w.cell? ⟨b,i,none⟩=some v)->∀ ad,base=some ad->∀ j v,vs[j]?=some v->w.cell? (ad.add j)=some v) ∧
   (∀ ad,base=some ad->Qw A μ xs sz ad.block ad.off O'∧(u=true->cap=0∨(ad.off=0∧ad.spot=none∧O=(ad.block,xs.length * sz,cap * sz)::O'))):=by
 simp only [Rep] at h
 rcases h with ⟨rfl,rfl,rfl,rfl⟩ | ⟨rfl,b,off,sp,cap,O',rfl,hsp,hcap,hrow,hO⟩
 ·exact ⟨none,0,[],[],rfl,by simp,by simp [RepVals],by simp,by simp,by simp,by simp,rfl,by simp,by simp,by simp⟩
 ·obtain ⟨vs,g1,g2,g3,g4⟩:=hrow.vals
  refine ⟨some ⟨b,off,sp⟩,cap,vs,O',rfl,hcap,g1,g2,g3,?_,fun c hc=>?_,rfl,by simp,fun w hw ad had j v hj=>?_,fun ad had=>?_⟩
  ·intro p
   rcases hO with ⟨_,_,rfl⟩ | ⟨_,rfl⟩
   ·simp only [List.countP_cons];omega
   ·exact Nat.le_refl _
  ·obtain ⟨j,hj⟩:=List.getElem?_of_mem hc
   exact (g4 j c hj).2
  ·obtain rfl:ad=⟨b,off,sp⟩:=by simpa using had.symm
   have hsp:sp=none:=hsp.resolve_right (fun h=>by
    rw [h.1] at g2
    simp at g2
    rw [g2] at hj
    simp at hj)
   subst hsp
   rw [KY]
   exact hw _ _ _ (g4 j v hj).1
  ·obtain rfl:ad=⟨b,off,sp⟩:=by simpa using had.symm
   refine ⟨hrow,fun hu=>?_⟩
   rcases hO with ⟨_,h0,rfl⟩ | ⟨h1,_⟩
   ·rcases hsp with hsp | ⟨_,hsp⟩
    ·exact .inr ⟨h0,hsp,rfl⟩
    ·rcases hsp with hsp | hsp
     ·rw [hsp] at hu;simp at hu
     ·exact .inl hsp
   ·rcases h1 with h1 | h1
    ·rw [h1] at hu;simp at hu
    ·exact .inl h1
end
section
variable {P:Program} {x:Cx} {n:Nat} {o:Oper} {s s':St} {a:Act} {w:World}
theorem ZbR {z:Array Value} (h:∀ c∈z.toList,c.oneCell'=true) (n:Nat):∀ c∈(Builtin.zeroCells z n).toList,c.oneCell'=true:=by
 intro c hc
 simp only [Builtin.zeroCells,Array.toList_map,List.mem_map] at hc
 obtain ⟨i,hi,rfl⟩:=hc
 simp at hi
 have hz:0 < z.size:=by
  rcases Nat.eq_zero_or_pos z.size with h0 | h0
  ·rw [h0] at hi;simp at hi
  ·exact h0
 have h2:i % z.size < z.size:=Nat.mod_lt _ hz
 refine h _ ?_
 simp [h2]
theorem ZbZ (t u e ue ty:TypeId) (i:TypeInfo) (ht:P.underlying t=some (.slice e)) (hu:P.underlying u=some (.slice ue)) (hi:P.info? e=some i)
  (base:Option Addr) (sLen sCap:Nat) (b2:Option Addr) (m c2:Nat) (news:List Value) (hl:news.length=m * i.size)
  (hnews:∀ ad,b2=some ad->∀ j v,news[j]?=some v->w.cell? (ad.add j)=some v) (hnil:b2=none->m=0) (hle:sLen+m<=sCap) (w':World)
  (hst:∀ ad,base=some ad->(storeCells (ad.add (sLen * i.size)) news).run P w=.ok () w') (hst2:base=none->w'=w) :
  (Builtin.append_ #[t,u] ty #[.slice base sLen sCap,.slice b2 m c2]).run P w=.ok (.slice base (sLen+m) sCap) w':=by
 have hf:(Builtin.firstCells i.size m (.slice b2 m c2)).run P w=.ok news.toArray w:=by
  cases b2 with
  | none =>
   have:=hnil rfl
   subst this
   have:news=[]:=List.eq_nil_of_length_eq_zero (by simpa using hl)
   subst this
   simp [Builtin.firstCells]
  | some ad=>exact run_firstCells_some (P:=P) w i.size m ad m c2 news hl (fun j v hj=>hnews ad rfl j v hj)
 cases base with
 | none =>
  rw [hst2 rfl]
  simp [Builtin.append_,run_underlying ht,run_underlying hu,sizeOf,typeInfo,hi,Builtin.lenOf,hle,hf]
 | some ad =>
  have:=hst ad rfl
  simp [Builtin.append_,run_underlying ht,run_underlying hu,sizeOf,typeInfo,hi,Builtin.lenOf,hle,hf,this]
theorem Za5 (t u e ue ty:TypeId) (i:TypeInfo) (z:Value) (ht:P.underlying t=some (.slice e)) (hu:P.underlying u=some (.slice ue)) (hi:P.info? e=some i) (hz:i.zero=some z)
  (base:Option Addr) (sLen sCap:Nat) (b2:Option Addr) (m c2:Nat) (olds news:List Value) (hlo:olds.length=sLen * i.size) (hl:news.length=m * i.size)
  (holds:∀ ad,base=some ad->∀ j v,olds[j]?=some v->w.cell? (ad.add j)=some v) (hnil0:base=none->sLen=0)
  (hnews:∀ ad,b2=some ad->∀ j v,news[j]?=some v->w.cell? (ad.add j)=some v) (hnil:b2=none->m=0) (hle:¬ sLen+m<=sCap) (hmost:sLen+m<=WX) (hby:i.bytes<=128) (hone:∀ c∈z.cells.toList,c.oneCell'=true) :
  ∃ rest:List Value,rest.length=(grownCap w (sLen+m) sCap e - (sLen+m)) * z.cells.size∧(∀ c∈rest,c.oneCell'=true)∧sLen+m<=grownCap w (sLen+m) sCap e ∧
  (Builtin.append_ #[t,u] ty #[.slice base sLen sCap,.slice b2 m c2]).run P w=.ok (.slice (some ⟨w.heap.size,0,none⟩) (sLen+m) (grownCap w (sLen+m) sCap e))
   { w.drew with heap:=w.heap.push (.cells (olds++news++rest).toArray e (0,0)) }:=by
 have hmost':sLen+m<=1099511627776:=hmost
 have hf:(Builtin.firstCells i.size m (.slice b2 m c2)).run P w.drew=.ok news.toArray w.drew:=by
  cases b2 with
  | none =>
   have:=hnil rfl
   subst this
   have:news=[]:=List.eq_nil_of_length_eq_zero (by simpa using hl)
   subst this
   simp [Builtin.firstCells]
  | some ad=>exact run_firstCells_some (P:=P) w.drew i.size m ad m c2 news hl (fun j v hj=>by simpa using hnews ad rfl j v hj)
 have hfo:(Builtin.firstCells i.size sLen (.slice base sLen sCap)).run P w.drew=.ok olds.toArray w.drew:=by
  cases base with
  | none =>
   have:=hnil0 rfl
   subst this
   have:olds=[]:=List.eq_nil_of_length_eq_zero (by simpa using hlo)
   subst this
   simp [Builtin.firstCells]
  | some ad=>exact run_firstCells_some (P:=P) w.drew i.size sLen ad sLen sCap olds hlo (fun j v hj=>by simpa using holds ad rfl j v hj)
 have hfit:Builtin.nextslicecap (sLen+m) sCap * i.bytes<=281474976710656:=growslice_fits (by omega) (by
  have:(sLen+m) * i.bytes<=1099511627776 * 128:=Nat.mul_le_mul hmost' hby
  omega)
 have h48':¬ (281474976710656 < Builtin.nextslicecap (sLen+m) sCap * i.bytes):=by omega
 have h63':¬ (9223372036854775807 < ((sLen:Int)+(m:Int))):=by omega
 refine ⟨(Builtin.zeroCells z.cells (grownCap w (sLen+m) sCap e - (sLen+m))).toList,by simp [size_zeroCells],ZbR hone _,by simp [grownCap,Question.cut],?_⟩
 simp [Builtin.append_,run_underlying ht,run_underlying hu,sizeOf,typeInfo,zeroValue,hi,hz,Builtin.lenOf,hle,h63',h48',Question.forced,hf,hfo,newRow,grownCap]
 have harr:∀ Z:Array Value,olds.toArray++(news.toArray++Z)=(olds++(news++Z.toList)).toArray:=by
  intro Z
  apply Array.toList_inj.1
  simp
 rw [harr]
 rfl
theorem ZoV {d sz:Nat} {e ue:TypeId} {z:List LV} {y1 y2:X} {u1 u2:Operand} {t u:TypeId} {c:Call} (ho:o.op=.call c) (hc:c.callee=.builtin .append) (hargs:c.args.toList=[u1,u2]) (htt:c.argTypes.toList=[t,u])
  (hue:P.underlying u=some (.slice ue)) (hd:o.dst=some d) (hdn:d < n)
  (he:Z1 P t=some e) (hsz:sz? P e=some sz) (hz:zLV P e=some z) (hzl:z.length=sz) (hpos:0 < sz) (hby:P.bytesOf e<=128)
  (hy1:XOk n y1 u1) (hy2:XOk n y2 u2) (hs:step (.append d sz y1 y2) s=some s') (sim:Sim x n s a w):Zo P x n o s' a w:=by
 obtain ⟨A,μ,OH,Ot,ht,h0,hr,st⟩:=sim
 obtain ⟨i,v,hi,hv,hrep,hone⟩:=Zgg hz
 have hvl:v.cells.size=sz:=by rw [<- Array.length_toList,(hrep A μ).length,hzl]
 have hby':i.bytes<=128:=by simpa [Program.bytesOf,hi] using hby
 obtain ⟨i2,hi2,hisz⟩:=ZqP hsz
 rw [hi] at hi2
 obtain rfl:i=i2:=by simpa using hi2
 have hargs':c.args=#[u1,u2]:=by rw [<- Array.toArray_toList (xs:=c.args),hargs]
 have ht':c.argTypes=#[t,u]:=by rw [<- Array.toArray_toList (xs:=c.argTypes),htt]
 have hexec:∀ r w',(Builtin.append_ #[t,u] o.type #[a.eval u1,a.eval u2]).run P w=.ok r w'->(execOp a.eval o).run P w=.ok (.value r) w':=by
  intro r w' h
  rw [ZC ho hc,hargs',ht']
  simp [builtin,h]
 simp only [step] at hs
 split at hs
 ·rename_i g1 g2 uq nil sz' xs uq2 nil2 sz2 ys hg1 hg2
  split at hs
  ·rename_i hcond
   obtain ⟨hown,hsz1,hsz2,hmost⟩:=hcond
   simp only [Option.some.injEq] at hs
   subst hs
   have hr1:=QY hy1 hr
   rw [hg1] at hr1
   have hrg:=Vf (Ot:=Ot) y1 hr
   have hr2:=QY hy2 hrg
   rw [hg2] at hr2
   have hrgg:=Vf (Ot:=Zm Ot y1) y2 hrg
   have hcnt:∀ p:Own->Bool,(XV n (Zm (Zm Ot y1) y2)).countP p+(Zjp Ot y1).countP p+(Zjp (Zm Ot y1) y2).countP p=(XV n Ot).countP p:=by
    intro p
    have k1:=Zp (Ot:=Ot) hy1 p
    have k2:=Zp (Ot:=Zm Ot y1) hy2 p
    omega
   obtain ⟨b1,cap1,vs1,O1,e1,hcap1,rv1,vl1,xl1,oc1,one1,nb1,nc1,cell1,row1⟩:=Zd9 hr1
   obtain ⟨b2,cap2,vs2,O2,e2,hcap2,rv2,vl2,xl2,oc2,one2,nb2,nc2,cell2,row2⟩:=Zd9 hr2
   have hnil1:b1=none->xs=[]:=by
    intro h
    have:=nc1 (by rw [nb1,h];rfl)
    exact List.eq_nil_of_length_eq_zero (by omega)
   have hnil2:b2=none->ys=[]:=by
    intro h
    have:=nc2 (by rw [nb2,h];rfl)
    exact List.eq_nil_of_length_eq_zero (by omega)
   have vl1':vs1.length=xs.length * i.size:=by
    rw [vl1,hisz]
    rcases hsz1 with h | h
    ·rw [h]
    ·rw [hnil1 (by rw [nb1] at h;simpa using h)];simp
   have vl2':vs2.length=ys.length * i.size:=by
    rw [vl2,hisz]
    rcases hsz2 with h | h
    ·rw [h]
    ·rw [hnil2 (by rw [nb2] at h;simpa using h)];simp
   have xl1':∀ x∈xs,x.length=sz:=by
    rcases hsz1 with h | h
    ·rw [<- h];exact xl1
    ·rw [hnil1 (by rw [nb1] at h;simpa using h)];simp
   have xl2':∀ x∈ys,x.length=sz:=by
    rcases hsz2 with h | h
    ·rw [<- h];exact xl2
    ·rw [hnil2 (by rw [nb2] at h;simpa using h)];simp
   by_cases hle:xs.length+ys.length<=cap1
   ·by_cases hys:ys=[]
    ·
     subst hys
     have vs2nil:vs2=[]:=List.eq_nil_of_length_eq_zero (by simpa using vl2)
     subst vs2nil
     have hrun:=ZbZ (P:=P) (w:=w) t u e ue o.type i (YI he) hue hi b1 xs.length cap1 b2 0 cap2 [] (by simp) (by simp) (fun _=>rfl) (by omega) w (by
      intro ad _;rfl) (fun _=>rfl)
     simp only [List.length_nil] at e2
     rw [<- e2] at hrun
     simp only [Nat.add_zero] at hrun
     rw [<- e1] at hrun
     refine QG (hexec _ _ hrun) ?_
     rw [hd]
     refine Wa ht h0 hrgg hdn (Od:=Zjp Ot y1) ?_ st (fun p=>by have:=hcnt p;omega)
     simp only [List.isEmpty_nil,Bool.not_true,Bool.or_false,Bool.and_true,List.append_nil]
     rcases hsz1 with h | h
     ·rw [<- h];exact hr1
     ·subst h
      have hx:xs=[]:=hnil1 (by simpa using nb1)
      subst hx
      simp only [Rep] at hr1 ⊢
      simpa using hr1
    ·
     have hne:b1≠none:=by
      intro h
      have h1:=nc1 (by rw [nb1,h];rfl)
      have h2:=hnil1 h
      subst h2
      have:0 < ys.length:=List.length_pos_iff.2 hys
      simp at hle;omega
     obtain ⟨ad,had⟩:=Option.ne_none_iff_exists'.1 hne
     have hu:uq=true:=by
      rcases hown with h | h | h
      ·exact h
      ·rw [nb1,had] at h;simp at h
      ·exact absurd h hys
     obtain ⟨hrow1,hO1⟩:=row1 ad had
     obtain ⟨hoff,hspot,hOe⟩:=(hO1 hu).resolve_left (fun h=>by
      have:0 < ys.length:=List.length_pos_iff.2 hys
      omega)
     have hszE:sz'=sz:=by
      rcases hsz1 with h | h
      ·exact h
      ·rw [nb1,had] at h;simp at h
     subst hszE
     obtain ⟨⟨b,off,spot⟩,rfl⟩:∃ q:Addr,ad=q:=⟨_,rfl⟩
     simp only at hoff hspot hOe hrow1
     subst hoff hspot
     have hmem:(b,xs.length * sz',cap1 * sz')∈XV n Ot:=by
      have h1:=hcnt (isE (b,xs.length * sz',cap1 * sz'))
      have h2:0 < (Zjp Ot y1).countP (isE (b,xs.length * sz',cap1 * sz')):=by
       rw [hOe];exact List.countP_pos_iff.2 ⟨_,by simp,(VS _ _).2 rfl⟩
      obtain ⟨q,hq,hqe⟩:=List.countP_pos_iff.1 (show 0 < (XV n Ot).countP (isE (b,xs.length * sz',cap1 * sz')) by omega)
      rw [(VS _ _).1 hqe] at hq
      exact hq
     obtain ⟨⟨cs,ee,hb,hcs,hc1⟩,hAfree,_⟩:=st.inv.own _ _ _ (List.mem_append.2 (.inl hmem))
     have hroom:xs.length * sz'+vs2.length<=cs.size:=by
      rw [hcs,vl2',hisz,<- Nat.add_mul]
      exact Nat.mul_le_mul_right _ hle
     have hrun:=ZbZ (P:=P) (w:=w) t u e ue o.type i (YI he) hue hi b1 xs.length cap1 b2 ys.length cap2 vs2 vl2' (cell2 w st.inv.cells) (fun h=>by rw [hnil2 h];rfl) hle
      { w with heap:=w.heap.setIfInBounds b (.cells (Yh cs (xs.length * sz') vs2) ee (0,0)) } (by
       intro ad' had'
       rw [had] at had'
       obtain rfl:(⟨b,0,none⟩:Addr)=ad':=by simpa using had'
       rw [KY,hisz,Nat.zero_add]
       have:=Ky (P:=P) (b:=b) (off:=xs.length * sz') (e:=ee) vs2 0 cs w hb one2 (by omega)
       simpa using this) (fun h=>absurd h hne)
     rw [<- e1,<- e2] at hrun
     refine QG (hexec _ _ hrun) ?_
     rw [hd]
     have hle2:A.Le (A.put b (xs.length * sz') (xs.length * sz'+vs2.length) (Yh cs (xs.length * sz') vs2)):=GM.put_le hAfree
     have st':=st.grow (m:=vs2.length) hb hmem (Zee vs2 cs _) (Zk2 vs2 cs _ hc1 one2) (fun j hj=>by rw [Zdg _ _ _ _ hroom,if_neg (by omega)])
      (XV n (upd (Zm (Zm Ot y1) y2) d ((b,xs.length * sz'+vs2.length,cap1 * sz')::(O1++O2)))) (fun p=>by
       have k1:=Xe p (Zm (Zm Ot y1) y2) d ((b,xs.length * sz'+vs2.length,cap1 * sz')::(O1++O2)) n hdn
       have k2:=hcnt p
       have k3:=oc2 p
       rw [hOe] at k2
       simp only [List.countP_cons,List.countP_append] at k1 k2
       omega)
     refine KB (ν:=[]) ht h0 hrgg hle2 hdn ?_ (by rw [List.append_nil];exact st')
     rw [List.append_nil]
     have hnilF:(nil && ys.isEmpty)=false:=by rw [nb1,had];simp
     rw [hnilF,hu]
     simp only [Rep,Bool.true_or]
     refine .inr ⟨trivial,b,0,none,cap1,O1++O2,by rw [had,List.length_append],.inl rfl,by rw [List.length_append];exact hle,?_,.inl ⟨trivial,rfl,by
      rw [List.length_append,Nat.add_mul,vl2',hisz]⟩⟩
     have hm1:=Qw.mono (ν:=[]) hle2 xs _ _ _ _ hrow1
     rw [List.append_nil] at hm1
     have hm2:=RepVals.mono (ν:=[]) hle2 ys.flatten _ _ rv2
     rw [List.append_nil] at hm2
     refine Qw.app hm1 (Qw.of_vals xl2' hm2 fun j q hj=>⟨?_,one2 q (List.mem_of_getElem? hj)⟩)
     have hjl:j < vs2.length:=by
      rcases Nat.lt_or_ge j vs2.length with g | g
      ·exact g
      ·rw [List.getElem?_eq_none g] at hj;simp at hj
     unfold GM.put
     rw [Nat.zero_add,if_pos (by omega),Zdg _ _ _ _ hroom,if_pos (by omega),show xs.length * sz'+j - xs.length * sz'=j by omega]
     exact hj
   ·
    have hys:ys≠[]:=by
     intro h;subst h;simp at hle;omega
    obtain ⟨rest,hrl,hrone,hgrow,hrun⟩:=Za5 (P:=P) (w:=w) t u e ue o.type i v (YI he) hue hi hv b1 xs.length cap1 b2 ys.length cap2 vs1 vs2 vl1' vl2' (cell1 w st.inv.cells) (fun h=>by rw [hnil1 h];rfl)
     (cell2 w st.inv.cells) (fun h=>by rw [hnil2 h];rfl) hle hmost hby' hone
    rw [<- e1,<- e2] at hrun
    refine QG (hexec _ _ hrun) ?_
    rw [hd]
    generalize hG:grownCap w (xs.length+ys.length) cap1 e=G at hrun hrl hgrow ⊢
    have hsize:(vs1++vs2++rest).toArray.size=G * sz:=by
     simp only [List.size_toArray,List.length_append,vl1',vl2',hrl,hisz,hvl]
     rw [<- Nat.add_mul,<- Nat.add_mul,show xs.length+ys.length+(G - (xs.length+ys.length))=G by omega]
    have st0:St' x w.drew A μ s.h OH (XV n Ot):=st.heap rfl ⟨rfl,rfl,rfl⟩
    have hle2:A.Le (A.put w.heap.size 0 ((xs.length+ys.length) * sz) (vs1++vs2++rest).toArray):=GM.put_le (fun j _=>st.inv.unsettled (Nat.le_refl _) j)
    have hall:∀ c∈(vs1++vs2++rest),c.oneCell'=true:=fun c hc=>(List.mem_append.1 hc).elim (fun h=>(List.mem_append.1 h).elim (one1 c) (one2 c)) (hrone c)
    have st':=st0.newRow (vs1++vs2++rest).toArray hall e ((xs.length+ys.length) * sz) (XV n (upd (Zm (Zm Ot y1) y2) d ((w.heap.size,(xs.length+ys.length) * sz,(vs1++vs2++rest).toArray.size)::(O1++O2)))) (fun p=>by
     have k1:=Xe p (Zm (Zm Ot y1) y2) d ((w.heap.size,(xs.length+ys.length) * sz,(vs1++vs2++rest).toArray.size)::(O1++O2)) n hdn
     have k2:=hcnt p
     have k3:=oc1 p
     have k4:=oc2 p
     have k5:(if p (w.drew.heap.size,(xs.length+ys.length) * sz,(vs1++vs2++rest).toArray.size)=true then 1 else 0)=(if p (w.heap.size,(xs.length+ys.length) * sz,(vs1++vs2++rest).toArray.size)=true then 1 else 0):=rfl
     simp only [List.countP_cons,List.countP_append] at k1
     omega)
    refine KB (ν:=[]) ht h0 hrgg hle2 hdn ?_ (by rw [List.append_nil];exact st')
    rw [List.append_nil]
    have hnilF:(nil && ys.isEmpty)=false:=by
     cases ys with
     | nil=>exact absurd rfl hys
     | cons _ _=>simp
    have huT:(uq || !ys.isEmpty)=true:=by
     cases ys with
     | nil=>exact absurd rfl hys
     | cons _ _=>simp
    rw [hnilF,huT]
    simp only [Rep]
    refine .inr ⟨trivial,w.heap.size,0,none,G,O1++O2,by rw [List.length_append],.inl rfl,by rw [List.length_append];exact hgrow,?_,.inl ⟨trivial,rfl,by rw [List.length_append,hsize]⟩⟩
    have hm:=RepVals.mono (ν:=[]) hle2 (xs++ys).flatten (vs1++vs2) (O1++O2) (by rw [List.flatten_append];exact RepVals.app rv1 rv2)
    rw [List.append_nil] at hm
    refine Qw.of_vals (fun q hq=>(List.mem_append.1 hq).elim (xl1' q) (xl2' q)) hm fun j q hj=>?_
    have hjl:j < (vs1++vs2).length:=by
     rcases Nat.lt_or_ge j (vs1++vs2).length with g | g
     ·exact g
     ·rw [List.getElem?_eq_none g] at hj;simp at hj
    refine ⟨?_,(List.mem_append.1 (List.mem_of_getElem? hj)).elim (one1 q) (one2 q)⟩
    unfold GM.put
    rw [Nat.zero_add,if_pos ⟨rfl,Nat.zero_le _,by rw [List.length_append,vl1',vl2',hisz,<- Nat.add_mul] at hjl;exact hjl⟩]
    simp only [List.getElem?_toArray]
    rw [List.getElem?_append_left hjl]
    exact hj
  ·simp at hs
 ·simp at hs
theorem ZsK {d:Nat} {y:X} {u:Operand} {t e:TypeId} {c:Call} (ho:o.op=.call c) (hc:c.callee=.builtin .cap) (ha:c.args.toList=[u]) (htt:c.argTypes.toList=[t])
  (he:P.underlying t=some (.slice e)) (hd:o.dst=some d) (hdn:d < n) (hy:XOk n y u)
  (hs:step (.cap d y) s=some s') (sim:Sim x n s a w):Zo P x n o s' a w:=by
 obtain ⟨A,μ,OH,Ot,ht,h0,hr,st⟩:=sim
 have hry:=QY hy hr
 have ha':c.args=#[u]:=by rw [<- Array.toArray_toList (xs:=c.args),ha]
 have ht':c.argTypes=#[t]:=by rw [<- Array.toArray_toList (xs:=c.argTypes),htt]
 simp only [step] at hs
 split at hs
 ·rename_i hg
  simp only [Option.some.injEq] at hs
  subst hs
  rw [hg] at hry
  simp only [Rep] at hry
  rcases hry with ⟨_,hu,_⟩ | ⟨h,_⟩
  ·refine QG (v:=.int .i64 0) (w':=w) (by
    rw [ZC ho hc,ha',ht']
    simp [builtin,Builtin.cap_,run_underlying he,hu,goInt]) ?_
   rw [hd]
   exact Wa ht h0 hr hdn (Od:=[]) (by simp [Rep]) st (fun p=>by simp)
  ·simp at h
 ·simp at hs
theorem ZhM (t u e ty:TypeId) (k:IntKind) (i:TypeInfo) (z:Value) (ht:P.underlying t=some (.slice e)) (hu:P.underlying u=some (.int k)) (hi:P.info? e=some i) (hz:i.zero=some z)
  (hsz:z.cells.size=i.size) (hpos:0 < i.size) (m:Nat) (hm:0 < m) (hmost:m<=WX) (hby:i.bytes<=128) (kv:IntKind) (hone:∀ c∈z.cells.toList,c.oneCell'=true) :
  ∃ cells:List Value,cells.length=grownCap w m 0 e * z.cells.size∧(∀ c∈cells,c.oneCell'=true)∧m<=grownCap w m 0 e ∧
  (Builtin.append_ #[t,u] ty #[.slice none 0 0,.int kv m]).run P w=.ok (.slice (some ⟨w.heap.size,0,none⟩) m (grownCap w m 0 e)) { w.drew with heap:=w.heap.push (.cells cells.toArray e (0,0)) }:=by
 have hmost':m<=1099511627776:=hmost
 have hw:IntKind.i64.wrap (m:Int)=m:=by
  simp only [IntKind.wrap,IntKind.bits,IntKind.signed];simp;split<;>omega
 have hfit:Builtin.nextslicecap m 0 * i.bytes<=281474976710656:=growslice_fits (by omega) (by
  have:m * i.bytes<=1099511627776 * 128:=Nat.mul_le_mul hmost' hby
  omega)
 have h48':¬ (281474976710656 < Builtin.nextslicecap m 0 * i.bytes):=by omega
 have h63':¬ (9223372036854775807 < (m:Int)):=by omega
 have hmb:¬ (281474976710656 < (m:Int) * (i.bytes:Int)):=by
  have:m * i.bytes<=1099511627776 * 128:=Nat.mul_le_mul hmost' hby
  have h2:(m:Int) * (i.bytes:Int)=((m * i.bytes:Nat):Int):=by simp
  rw [h2];omega
 have hne:¬ (m=0):=by omega
 have hne2:¬ (i.size=0):=by omega
 have hneg:¬ ((m:Int) < 0):=by omega
 have hle0:¬ ((m:Int)<=0):=by omega
 have hmul:¬ (m * i.size=0):=by rw [Nat.mul_eq_zero];omega
 refine ⟨(Builtin.zeroCells z.cells m).toList++(Builtin.zeroCells z.cells (grownCap w m 0 e - m)).toList,?_,fun c hc=>(List.mem_append.1 hc).elim (ZbR hone _ c) (ZbR hone _ c),by simp [grownCap,Question.cut],?_⟩
 ·simp only [List.length_append,Array.length_toList,size_zeroCells]
  have:m<=grownCap w m 0 e:=by simp [grownCap,Question.cut]
  rw [<- Nat.add_mul];congr 1;omega
 ·simp [Builtin.append_,run_underlying ht,run_underlying hu,sizeOf,typeInfo,zeroValue,hi,hz,asInt,asIntOf,hw,hneg,hle0,hmul,hmb,hne,hne2,h63',h48',Question.forced,Builtin.firstCells,newRow,grownCap]
  have harr:∀ Y Z:Array Value,(Y++Z)=(Y.toList++Z.toList).toArray:=by
   intro Y Z
   apply Array.toList_inj.1
   simp
  rw [harr]
  rfl
theorem ZqQ {d sz:Nat} {e:TypeId} {k:IntKind} {z:List LV} {y1 y2:X} {u1 u2:Operand} {t u:TypeId} {c:Call} (ho:o.op=.call c) (hc:c.callee=.builtin .append) (hargs:c.args.toList=[u1,u2]) (htt:c.argTypes.toList=[t,u])
  (hue:P.underlying u=some (.int k)) (hd:o.dst=some d) (hdn:d < n)
  (he:Z1 P t=some e) (hsz:sz? P e=some sz) (hz:zLV P e=some z) (hzl:z.length=sz) (hpos:0 < sz) (hby:P.bytesOf e<=128)
  (hy1:XOk n y1 u1) (hy2:XOk n y2 u2) (hs:step (.growz d sz y1 y2) s=some s') (sim:Sim x n s a w):Zo P x n o s' a w:=by
 obtain ⟨A,μ,OH,Ot,ht,h0,hr,st⟩:=sim
 obtain ⟨i,v,hi,hv,hrep,hone⟩:=Zgg hz
 have hvl:v.cells.size=sz:=by rw [<- Array.length_toList,(hrep A μ).length,hzl]
 have hby':i.bytes<=128:=by simpa [Program.bytesOf,hi] using hby
 obtain ⟨i2,hi2,hisz⟩:=ZqP hsz
 rw [hi] at hi2
 obtain rfl:i=i2:=by simpa using hi2
 have hargs':c.args=#[u1,u2]:=by rw [<- Array.toArray_toList (xs:=c.args),hargs]
 have ht':c.argTypes=#[t,u]:=by rw [<- Array.toArray_toList (xs:=c.argTypes),htt]
 have hexec:∀ r w',(Builtin.append_ #[t,u] o.type #[a.eval u1,a.eval u2]).run P w=.ok r w'->(execOp a.eval o).run P w=.ok (.value r) w':=by
  intro r w' h
  rw [ZC ho hc,hargs',ht']
  simp [builtin,h]
 have hr1:=QY hy1 hr
 have hr2:=QY hy2 hr
 simp only [step] at hs
 split at hs
 ·rename_i m hg1 hg2
  split at hs
  ·rename_i hm
   simp only [Option.some.injEq] at hs
   subst hs
   rw [hg1] at hr1
   simp only [Rep] at hr1
   have e1:a.eval u1=.slice none 0 0:=by
    rcases hr1 with ⟨_,e1,_⟩ | ⟨h,_⟩
    ·exact e1
    ·simp at h
   obtain ⟨kv,e2⟩:=J9 hg2 hr2
   obtain ⟨m',rfl⟩:∃ m':Nat,m=m':=⟨m.toNat,by omega⟩
   obtain ⟨cells,hcl,hcone,_,hrun⟩:=ZhM (P:=P) (w:=w) t u e o.type k i v (YI he) hue hi hv (by rw [hvl,hisz]) (by omega) m' (by omega) (by have:=hm.2;exact_mod_cast this) hby' kv hone
   rw [<- e1,<- e2] at hrun
   refine QG (hexec _ _ hrun) ?_
   rw [hd]
   have st0:St' x w.drew A μ s.h OH (XV n Ot):=st.heap rfl ⟨rfl,rfl,rfl⟩
   have hle2:A.Le (A.put w.heap.size 0 0 cells.toArray):=GM.put_le (fun j _=>st.inv.unsettled (Nat.le_refl _) j)
   have st':=st0.newRow cells.toArray hcone e 0 (XV n (upd Ot d [(w.heap.size,0,cells.toArray.size)])) (fun p=>by
    have k1:=Xe p Ot d [(w.heap.size,0,cells.toArray.size)] n hdn
    have k5:(if p (w.drew.heap.size,0,cells.toArray.size)=true then 1 else 0)=(if p (w.heap.size,0,cells.toArray.size)=true then 1 else 0):=rfl
    simp only [List.countP_cons,List.countP_nil] at k1
    omega)
   refine KB (ν:=[]) ht h0 hr hle2 hdn ?_ (by rw [List.append_nil];exact st')
   rw [List.append_nil]
   simp only [Rep]
   exact ⟨_,_,_,rfl,by simp [hcl,hvl]⟩
  ·simp at hs
 ·simp at hs
theorem Zr0 {d sz:Nat} {e:TypeId} {y:X} {hi:X} {u hi':Operand} {t:TypeId} (ho:o.op=.slice t u none (some hi') none) (he:P.underlying t=some (.slice e)) (hsz:sz? P e=some sz)
  (hd:o.dst=some d) (hdn:d < n) (hy:XOk n y u) (hhi:XOk n hi hi')
  (hs:step (.cut0 d sz y hi) s=some s') (sim:Sim x n s a w):Zo P x n o s' a w:=by
 obtain ⟨A,μ,OH,Ot,ht,h0,hr,st⟩:=sim
 have hrep:=QY hy hr
 have hrh:=QY hhi hr
 have hrg:=Vf (Ot:=Ot) y hr
 simp only [step] at hs
 split at hs
 ·rename_i sz' m hg1 hg2
  split at hs
  ·rename_i hc
   obtain ⟨rfl,rfl⟩:=hc
   simp only [Option.some.injEq] at hs
   subst hs
   rw [hg1] at hrep
   simp only [Rep] at hrep
   obtain ⟨b,len,cap,hu,hO⟩:=hrep
   obtain ⟨kv,e2⟩:=J9 hg2 hrh
   refine QG (v:=.slice (some ⟨b,0,none⟩) 0 cap) (w':=w) (by
    simp [execOp,ho,Instr.sliceAt,Instr.slice,run_underlying he,hu,e2,X9 hsz,KY,Instr.sliceBounds,Instr.sliceBound,asIntOf]) ?_
   rw [hd]
   refine Wa ht h0 hrg hdn (Od:=Zjp Ot y) ?_ st (fun p=>Nat.le_of_eq (Zp hy p))
   simp only [Rep]
   exact .inr ⟨trivial,b,0,none,cap,[],by simp,.inl rfl,by simp,by simp [Qw],.inl ⟨trivial,rfl,by rw [hO];simp⟩⟩
  ·simp at hs
 ·simp at hs
end
structure Ef where
 us:List (Nat×LV)
 h:Option (List Box)
def updAll (t:Nat->LV):List (Nat×LV)->(Nat->LV)
 | []=>t
 | (d,v)::us=>updAll (upd t d v) us
def Ef.app (e:Ef) (s:St):St:={ t:=updAll s.t e.us,h:=e.h.getD s.h }
def YZ:X->List Nat
 | .t i=>[i]
 | .k _=>[]
def QZ (xs:List X):List Nat:=xs.flatMap YZ
def optX:Option X->List X
 | none=>[]
 | some x=>[x]
def I.ops:I->List X
 | .mv _ _ x=>[x]
 | .box _ x=>[x]
 | .alloc _ _=>[]
 | .load _ _ _ _ x=>[x]
 | .store _ x y=>[x,y]
 | .bin _ _ _ x y=>[x,y]
 | .un _ _ x=>[x]
 | .build _ _ ps=>ps.map fun p=>p.2.2
 | .bslice _ _ _ _ ps=>ps.map fun p=>p.2.2
 | .slice _ _ x lo hi mx=>x::(optX lo++optX hi++optX mx)
 | .sliceS _ x lo hi=>x::(optX lo++optX hi)
 | .fieldA _ _ x=>[x]
 | .field _ _ _ _ x=>[x]
 | .indexA _ _ x i=>[x,i]
 | .indexT _ _ x i=>[x,i]
 | .loadT _ _ _ x=>[x]
 | .loadP _ _ _ _ x=>[x]
 | .indexS _ x i=>[x,i]
 | .extract _ _ x=>[x]
 | .len _ x=>[x]
 | .lenS _ x=>[x]
 | .append _ _ x y=>[x,y]
 | .mkslice _ _ _ n=>[n]
 | .minmax _ _ x y=>[x,y]
 | .mkfn _ _ _ cs=>cs
 | .nilchk _ x=>[x]
 | .conv _ _ x=>[x]
 | .call _ _ f ys=>f::ys
 | .pick _ c x y=>[c,x,y]
 | .bad _=>[]
 | .cap _ x=>[x]
 | .growz _ _ x n=>[x,n]
 | .cut0 _ _ x hi=>[x,hi]
def I.dst:I->Option Nat
 | .mv d _ _ | .box d _ | .alloc d _ | .load d _ _ _ _ | .bin d _ _ _ _ | .un d _ _ | .build d _ _ | .bslice d _ _ _ _ | .slice d _ _ _ _ _ | .sliceS d _ _ _ | .fieldA d _ _ | .field d _ _ _ _
 | .indexT d _ _ _ | .loadT d _ _ _ | .loadP d _ _ _ _ | .indexA d _ _ _ | .indexS d _ _ | .extract d _ _ | .len d _ | .lenS d _ | .append d _ _ _ | .mkslice d _ _ _ | .minmax d _ _ _ | .mkfn d _ _ _ | .nilchk d _ | .conv d _ _=>some d
 | .store _ _ _=>none
 | .call _ d _ _=>d
 | .pick d _ _ _=>some d
 | .bad d=>d
 | .cap d _=>some d
 | .growz d _ _ _=>some d
 | .cut0 d _ _ _=>some d
def I.gives:I->List X
 | .mv _ .take x=>[x]
 | .indexT _ _ x _=>[x]
 | .loadT _ _ _ x=>[x]
 | .box _ x=>[x]
 | .store _ _ y=>[y]
 | .build _ _ ps=>ps.map fun p=>p.2.2
 | .bslice _ _ _ _ ps=>ps.map fun p=>p.2.2
 | .extract _ _ x=>[x]
 | .append _ _ x y=>[x,y]
 | .cut0 _ _ x _=>[x]
 | _=>[]
def I.hr:I->Bool
 | .mv _ .frz _ | .box _ _ | .alloc _ _ | .store _ _ _ | .mkslice _ _ _ _ | .loadP _ _ _ _ _=>true
 | .load _ m _ _ _=>!m.settled
 | .call rw _ _ _=>rw.mem
 | _=>false
def I.hw:I->Bool
 | .mv _ .frz _ | .box _ _ | .alloc _ _ | .store _ _ _ | .mkslice _ _ _ _ | .loadP _ _ _ _ _=>true
 | .load _ .frz _ _ _ | .load _ .own _ _ _ | .load _ (.part _) _ _ _=>true
 | .call rw _ _ _=>rw.mem
 | _=>false
def I.isCall:I->Bool
 | .call _ _ _ _=>true
 | _=>false
def I.isAp:I->Bool
 | .call (.ap _) _ _ _=>true
 | _=>false
def I.reads (i:I):List Nat:=QZ i.ops
def I.writes (i:I):List Nat:=i.dst.toList++QZ i.gives
theorem X4 {t t':Nat->LV} {x:X} (h:∀ k∈YZ x,t k=t' k):get t x=get t' x:=by
 cases x with
 | t i=>exact h i (by simp [YZ])
 | k v=>rfl
theorem XL {t t':Nat->LV} {x:X} {k:Nat} (h:∀ k∈YZ x,t k=t' k) (hk:t k=t' k):give t x k=give t' x k:=by
 cases x with
 | t i =>
  have hi:=h i (by simp [YZ])
  simp only [give]
  by_cases e:k=i
  ·subst e;rw [QO,QO,hi]
  ·rw [Ws _ _ _ e,Ws _ _ _ e];exact hk
 | k v=>exact hk
theorem KP {t:Nat->LV} {x:X} {k:Nat} (h:k ∉ YZ x):give t x k=t k:=by
 cases x with
 | t i=>exact Ws _ _ _ (fun e=>h (by simp [YZ,e]))
 | k v=>rfl
theorem Zb6:∀ {xs:List X} {t t':Nat->LV} {k:Nat},(∀ k∈QZ xs,t k=t' k)->t k=t' k->ZB t xs k=ZB t' xs k
 | [],t,t',k,_,hk=>hk
 | x::xs,t,t',k,h,hk=>by
  simp only [ZB]
  refine Zb6 (fun j hj=>?_) ?_
  ·exact XL (fun i hi=>h i (by simp [QZ,hi])) (h j (by simp [QZ] at hj ⊢;exact .inr hj))
  ·exact XL (fun i hi=>h i (by simp [QZ,hi])) hk
theorem ZeM:∀ {xs:List X} {t:Nat->LV} {k:Nat},k ∉ QZ xs->ZB t xs k=t k
 | [],t,k,_=>rfl
 | x::xs,t,k,h=>by
  simp only [ZB]
  rw [ZeM (fun g=>h (by simp [QZ] at g ⊢;exact .inr g)),KP (fun g=>h (by simp [QZ,g]))]
theorem Zc3:∀ {ps:List (Nat×Nat×X)} {t t':Nat->LV} {zs:List LV},(∀ k∈QZ (ps.map fun p=>p.2.2),t k=t' k)->Kf t zs ps=Kf t' zs ps
 | [],t,t',zs,_=>rfl
 | (off,sz,x)::ps,t,t',zs,h=>by
  have hx:∀ k∈YZ x,t k=t' k:=fun i hi=>h i (by simp [QZ,hi])
  simp only [Kf,X4 hx]
  split
  ·exact Zc3 fun j hj=>XL hx (h j (by simp [QZ] at hj ⊢;exact .inr hj))
  ·rfl
theorem V5 {t t':Nat->LV} {d:Int} {x:Option X} (h:∀ k∈QZ (optX x),t k=t' k):bound t d x=bound t' d x:=by
 cases x with
 | none=>rfl
 | some x=>simp only [bound];rw [X4 (fun k hk=>h k (by simp [optX,QZ,hk]))]
def XN (i:I):Option St->Option St->Prop
 | some a,some b=>(∀ k∈i.writes,a.t k=b.t k)∧(i.hw=true->a.h=b.h)
 | none,none=>True
 | _,_=>False
theorem ZN {s1 s2:St} {d k:Nat} {v:LV} (h:k≠d->s1.t k=s2.t k):(s1.put d v).t k=(s2.put d v).t k:=by
 simp only [St.put]
 by_cases e:k=d
 ·subst e;rw [QO,QO]
 ·rw [Ws _ _ _ e,Ws _ _ _ e];exact h e
theorem ZrD (i:I) (t t':Nat->LV) (h h':List Box) (ht:∀ k∈i.reads,t k=t' k) (hh:i.hr=true->h=h'):XN i (step i ⟨t,h⟩) (step i ⟨t',h'⟩):=by
 have one:∀ {x:X},x∈i.ops->∀ k∈YZ x,t k=t' k:=fun hx k hk=>ht k (by simp only [I.reads,QZ,List.mem_flatMap];exact ⟨_,hx,hk⟩)
 have gx:∀ {x:X},x∈i.ops->get t x=get t' x:=fun hx=>X4 (one hx)
 cases i with
 | mv d m x =>
  have e:=gx (x:=x) (by simp [I.ops])
  cases m with
  | copy=>simp only [step,e,XN,I.writes,I.dst,I.gives,I.hw];simp [St.put,QZ,QO]
  | take =>
   simp only [step,e,XN,I.writes,I.dst,I.gives,I.hw]
   refine ⟨fun k hk=>ZN fun hne=>?_,by simp⟩
   simp [QZ] at hk
   exact XL (one (by simp [I.ops])) (one (x:=x) (by simp [I.ops]) k (hk.resolve_left hne))
  | frz =>
   have e2:=hh rfl
   subst e2
   simp only [step,e]
   split
   ·split
    ·simp [XN,I.writes,I.dst,I.gives,QZ,St.put,QO]
    ·trivial
   ·split
    ·split
     ·simp [XN,I.writes,I.dst,I.gives,QZ,St.put,QO]
     ·trivial
    ·trivial
   ·trivial
  | own=>trivial
  | part i=>trivial
 | box d x =>
  have e:=gx (x:=x) (by simp [I.ops])
  have e2:=hh rfl
  subst e2
  simp only [step,e]
  split
  ·refine ⟨fun k hk=>ZN fun hne=>?_,fun _=>rfl⟩
   simp [I.writes,I.dst,I.gives,QZ] at hk
   exact XL (one (by simp [I.ops])) (one (x:=x) (by simp [I.ops]) k (hk.resolve_left hne))
  ·trivial
 | alloc d z =>
  have e2:=hh rfl
  subst e2
  simp [step,XN,I.writes,I.dst,I.gives,QZ,St.put,QO]
 | load d m agg sz x =>
  have e:=gx (x:=x) (by simp [I.ops])
  simp only [step,e]
  split
  ·cases hm:m.settled with
   | true=>simp [XN]
   | false =>
    have e2:=hh (by simp [I.hr,hm])
    subst e2
    simp only [Bool.false_eq_true,if_false]
    split
    ·split
     ·split
      ·cases m<;>simp [XN,I.writes,I.dst,I.gives,QZ,St.put,QO]
      ·trivial
     ·trivial
    ·trivial
  ·split
   ·split
    ·cases m<;>simp [XN,I.writes,I.dst,I.gives,QZ,St.put,QO,I.hw]<;>exact hh rfl
    ·trivial
   ·trivial
  ·trivial
 | store sz x y =>
  have e:=gx (x:=x) (by simp [I.ops])
  have e':=gx (x:=y) (by simp [I.ops])
  have e2:=hh rfl
  subst e2
  simp only [step,e,e']
  split
  ·split
   ·split
    ·refine ⟨fun k hk=>?_,fun _=>rfl⟩
     simp [I.writes,I.dst,I.gives,QZ] at hk
     exact XL (one (by simp [I.ops])) (one (x:=y) (by simp [I.ops]) k hk)
    ·trivial
   ·trivial
  ·trivial
 | bin d c op x y =>
  simp only [step,gx (x:=x) (by simp [I.ops]),gx (x:=y) (by simp [I.ops])]
  cases XB c op (get t' x) (get t' y)<;>simp [XN,I.writes,I.dst,I.gives,QZ,St.put,QO,I.hw]
 | un d op x =>
  simp only [step,gx (x:=x) (by simp [I.ops])]
  cases unLV op (get t' x)<;>simp [XN,I.writes,I.dst,I.gives,QZ,St.put,QO,I.hw]
 | build d z ps =>
  have hs:∀ k∈QZ (ps.map fun p=>p.2.2),t k=t' k:=fun k hk=>ht k hk
  simp only [step,Zc3 hs]
  cases Kf t' z ps with
  | none=>trivial
  | some zs =>
   refine ⟨fun k hk=>ZN fun hne=>?_,by simp [I.hw]⟩
   simp only [I.writes,I.dst,I.gives,Option.toList,List.singleton_append,List.mem_cons] at hk
   exact Zb6 hs (hs k (hk.resolve_left hne))
 | bslice d sz len z ps =>
  have hs:∀ k∈QZ (ps.map fun p=>p.2.2),t k=t' k:=fun k hk=>ht k hk
  simp only [step,Zc3 hs]
  cases Kf t' z ps with
  | none=>trivial
  | some zs =>
   refine ⟨fun k hk=>ZN fun hne=>?_,by simp [I.hw]⟩
   simp only [I.writes,I.dst,I.gives,Option.toList,List.singleton_append,List.mem_cons] at hk
   exact Zb6 hs (hs k (hk.resolve_left hne))
 | slice d sz x lo hi mx =>
  have b1:∀ d,bound t d lo=bound t' d lo:=fun d=>V5 fun k hk=>ht k (by simp [I.reads,I.ops,QZ] at hk ⊢;exact .inr (.inl hk))
  have b2:∀ d,bound t d hi=bound t' d hi:=fun d=>V5 fun k hk=>ht k (by simp [I.reads,I.ops,QZ] at hk ⊢;exact .inr (.inr (.inl hk)))
  have b3:∀ d,bound t d mx=bound t' d mx:=fun d=>V5 fun k hk=>ht k (by simp [I.reads,I.ops,QZ] at hk ⊢;exact .inr (.inr (.inr hk)))
  simp only [step,gx (x:=x) (by simp [I.ops]),b1,b2,b3]
  split
  ·split
   ·split
    ·simp [XN,I.writes,I.dst,I.gives,QZ,St.put,QO,I.hw]
    ·trivial
   ·trivial
  ·split
   ·split
    ·simp [XN,I.writes,I.dst,I.gives,QZ,St.put,QO,I.hw]
    ·trivial
   ·trivial
  ·trivial
 | sliceS d x lo hi =>
  have b1:∀ d,bound t d lo=bound t' d lo:=fun d=>V5 fun k hk=>ht k (by simp [I.reads,I.ops,QZ] at hk ⊢;exact .inr (.inl hk))
  have b2:∀ d,bound t d hi=bound t' d hi:=fun d=>V5 fun k hk=>ht k (by simp [I.reads,I.ops,QZ] at hk ⊢;exact .inr (.inr hk))
  simp only [step,gx (x:=x) (by simp [I.ops]),b1,b2]
  split
  ·split
   ·split
    ·simp [XN,I.writes,I.dst,I.gives,QZ,St.put,QO,I.hw]
    ·trivial
   ·trivial
  ·trivial
 | fieldA d off x =>
  simp only [step,gx (x:=x) (by simp [I.ops])]
  split
  ·simp [XN,I.writes,I.dst,I.gives,QZ,St.put,QO,I.hw]
  ·split
   ·simp [XN,I.writes,I.dst,I.gives,QZ,St.put,QO,I.hw]
   ·trivial
  ·trivial
 | field d agg off sz x =>
  simp only [step,gx (x:=x) (by simp [I.ops])]
  split
  ·split
   ·split
    ·simp [XN,I.writes,I.dst,I.gives,QZ,St.put,QO,I.hw]
    ·trivial
   ·trivial
  ·trivial
 | indexA d sz x i =>
  simp only [step,gx (x:=x) (by simp [I.ops]),gx (x:=i) (by simp [I.ops])]
  split
  ·split
   ·simp [XN,I.writes,I.dst,I.gives,QZ,St.put,QO,I.hw]
   ·trivial
  ·split
   ·simp [XN,I.writes,I.dst,I.gives,QZ,St.put,QO,I.hw]
   ·trivial
  ·trivial
 | indexT d sz x i =>
  simp only [step,gx (x:=x) (by simp [I.ops]),gx (x:=i) (by simp [I.ops])]
  split
  ·split
   ·refine ⟨fun k hk=>ZN fun hne=>?_,by simp [I.hw]⟩
    simp [I.writes,I.dst,I.gives,QZ] at hk
    exact XL (one (x:=x) (by simp [I.ops])) (one (x:=x) (by simp [I.ops]) k (hk.resolve_left hne))
   ·trivial
  ·trivial
 | loadT d agg sz x =>
  simp only [step,gx (x:=x) (by simp [I.ops])]
  split
  ·split
   ·split
    ·refine ⟨fun k hk=>ZN fun hne=>?_,by simp [I.hw]⟩
     simp [I.writes,I.dst,I.gives,QZ] at hk
     exact XL (one (x:=x) (by simp [I.ops])) (one (x:=x) (by simp [I.ops]) k (hk.resolve_left hne))
    ·trivial
   ·trivial
  ·trivial
 | loadP d i agg sz x =>
  have e:=gx (x:=x) (by simp [I.ops])
  have e2:=hh rfl
  subst e2
  simp only [step,e]
  split
  ·split
   ·split
    ·split
     ·split
      ·simp [XN,I.writes,I.dst,I.gives,QZ,St.put,QO]
      ·trivial
     ·trivial
    ·trivial
   ·trivial
  ·trivial
 | indexS d x i =>
  simp only [step,gx (x:=x) (by simp [I.ops]),gx (x:=i) (by simp [I.ops])]
  split
  ·split
   ·simp [XN,I.writes,I.dst,I.gives,QZ,St.put,QO,I.hw]
   ·trivial
  ·trivial
 | extract d k x =>
  simp only [step,gx (x:=x) (by simp [I.ops])]
  split
  ·split
   ·split
    ·rename_i j _ _ _
     refine ⟨fun k hk=>ZN fun hne=>?_,by simp [I.hw]⟩
     simp [I.writes,I.dst,I.gives,QZ,YZ,hne] at hk
     subst hk
     simp [QO]
    ·trivial
   ·trivial
  ·trivial
 | len d x =>
  simp only [step,gx (x:=x) (by simp [I.ops])]
  cases Zbg (get t' x)<;>simp [XN,I.writes,I.dst,I.gives,QZ,St.put,QO,I.hw]
 | lenS d x =>
  simp only [step,gx (x:=x) (by simp [I.ops])]
  cases Zh3 (get t' x)<;>simp [XN,I.writes,I.dst,I.gives,QZ,St.put,QO,I.hw]
 | append d sz x y =>
  have ey:get (give t x) y=get (give t' x) y:=X4 fun k hk=>XL (one (by simp [I.ops])) (one (x:=y) (by simp [I.ops]) k hk)
  simp only [step,gx (x:=x) (by simp [I.ops]),ey]
  split
  ·split
   ·refine ⟨fun k hk=>ZN fun hne=>?_,by simp [I.hw]⟩
    simp [I.writes,I.dst,I.gives,QZ] at hk
    have hk':=hk.resolve_left hne
    refine XL (fun j hj=>XL (one (by simp [I.ops])) (one (x:=y) (by simp [I.ops]) j hj)) (XL (one (by simp [I.ops])) ?_)
    rcases hk' with h1 | h1
    ·exact one (x:=x) (by simp [I.ops]) k h1
    ·exact one (x:=y) (by simp [I.ops]) k h1
   ·trivial
  ·trivial
 | mkslice d sz z n =>
  have e2:=hh rfl
  subst e2
  simp only [step,gx (x:=n) (by simp [I.ops])]
  split
  ·split
   ·simp [XN,I.writes,I.dst,I.gives,QZ,St.put,QO]
   ·trivial
  ·trivial
 | minmax d mx x y =>
  simp only [step,gx (x:=x) (by simp [I.ops]),gx (x:=y) (by simp [I.ops])]
  split
  ·simp [XN,I.writes,I.dst,I.gives,QZ,St.put,QO,I.hw]
  ·trivial
 | mkfn d f m caps =>
  have e:caps.map (fun c=>share (get t c))=caps.map (fun c=>share (get t' c)):=List.map_congr_left fun c hc=>by rw [gx (x:=c) hc]
  simp only [step,e]
  simp [XN,I.writes,I.dst,I.gives,QZ,St.put,QO,I.hw]
 | nilchk d x =>
  simp only [step,gx (x:=x) (by simp [I.ops])]
  split
  ·simp [XN,I.writes,I.dst,I.gives,QZ,St.put,QO,I.hw]
  ·simp [XN,I.writes,I.dst,I.gives,QZ,St.put,QO,I.hw]
  ·simp [XN,I.writes,I.dst,I.gives,QZ,St.put,QO,I.hw]
  ·simp [XN,I.writes,I.dst,I.gives,QZ,St.put,QO,I.hw]
  ·trivial
 | conv d k x =>
  simp only [step,gx (x:=x) (by simp [I.ops])]
  cases TL.intOf (get t' x)<;>simp [XN,I.writes,I.dst,I.gives,QZ,St.put,QO,I.hw]
 | call rw d f ys=>trivial
 | pick d c x y =>
  simp only [step,gx (x:=c) (by simp [I.ops])]
  split
  ·rename_i b _
   cases b with
   | true=>simp [gx (x:=x) (by simp [I.ops]),XN,I.writes,I.dst,I.gives,QZ,St.put,QO,I.hw]
   | false=>simp [gx (x:=y) (by simp [I.ops]),XN,I.writes,I.dst,I.gives,QZ,St.put,QO,I.hw]
  ·trivial
 | bad d=>trivial
 | cap d x =>
  simp only [step,gx (x:=x) (by simp [I.ops])]
  split
  ·simp [XN,I.writes,I.dst,I.gives,QZ,St.put,QO,I.hw]
  ·trivial
 | growz d sz x m =>
  simp only [step,gx (x:=x) (by simp [I.ops]),gx (x:=m) (by simp [I.ops])]
  split
  ·split
   ·simp [XN,I.writes,I.dst,I.gives,QZ,St.put,QO,I.hw]
   ·trivial
  ·trivial
 | cut0 d sz x m =>
  simp only [step,gx (x:=x) (by simp [I.ops]),gx (x:=m) (by simp [I.ops])]
  split
  ·split
   ·refine ⟨fun k hk=>ZN fun hne=>?_,by simp [I.hw]⟩
    simp [I.writes,I.dst,I.gives,QZ] at hk
    exact XL (one (by simp [I.ops])) (one (x:=x) (by simp [I.ops]) k (hk.resolve_left hne))
   ·trivial
  ·trivial
theorem Wh {s:St} {d k:Nat} {v:LV} (h:k≠d):(s.put d v).t k=s.t k:=by simp [St.put,Ws _ _ _ h]
theorem ZcY (i:I) (s s':St) (h:step i s=some s'):(∀ k,k ∉ i.writes->s'.t k=s.t k)∧(i.hw=false->s'.h=s.h):=by
 have nd:∀ {d k:Nat},i.dst=some d->k ∉ i.writes->k≠d:=fun hd hk e=>hk (by simp [I.writes,hd,e])
 have ng:∀ {k:Nat},k ∉ i.writes->k ∉ QZ i.gives:=fun hk e=>hk (by simp [I.writes,e])
 cases i with
 | mv d m x =>
  cases m with
  | copy=>simp only [step,Option.some.injEq] at h;subst h;exact ⟨fun k hk=>Wh (nd rfl hk),fun _=>rfl⟩
  | take =>
   simp only [step,Option.some.injEq] at h;subst h
   exact ⟨fun k hk=>by rw [Wh (nd rfl hk)];exact KP (fun e=>ng hk (by simpa [I.gives,QZ] using e)),fun _=>rfl⟩
  | frz =>
   simp only [step] at h
   split at h
   ·split at h
    ·simp only [Option.some.injEq] at h;subst h;exact ⟨fun k hk=>Wh (nd rfl hk),by simp [I.hw]⟩
    ·simp at h
   ·split at h
    ·split at h
     ·simp only [Option.some.injEq] at h;subst h;exact ⟨fun k hk=>Wh (nd rfl hk),by simp [I.hw]⟩
     ·simp at h
    ·simp at h
   ·simp at h
  | own=>simp [step] at h
  | part i=>simp [step] at h
 | box d x =>
  simp only [step] at h
  split at h
  ·simp only [Option.some.injEq] at h;subst h
   exact ⟨fun k hk=>by rw [Wh (nd rfl hk)];exact KP (fun e=>ng hk (by simpa [I.gives,QZ] using e)),by simp [I.hw]⟩
  ·simp at h
 | alloc d z=>simp only [step,Option.some.injEq] at h;subst h;exact ⟨fun k hk=>Wh (nd rfl hk),by simp [I.hw]⟩
 | load d m agg sz x =>
  simp only [step] at h
  split at h
  ·split at h
   ·simp at h
   ·rename_i hset
    split at h
    ·split at h
     ·split at h
      ·split at h
       ·simp only [Option.some.injEq] at h;subst h;exact ⟨fun k hk=>Wh (nd rfl hk),fun _=>rfl⟩
       ·rename_i hm
        simp only [Option.some.injEq] at h;subst h
        refine ⟨fun k hk=>Wh (nd rfl hk),fun hw=>?_⟩
        cases m
        ·exact absurd rfl hm
        ·simp [Md.settled] at hset
        ·simp [I.hw] at hw
        ·simp [I.hw] at hw
        ·simp [I.hw] at hw
      ·simp at h
     ·simp at h
    ·simp at h
  ·split at h
   ·split at h
    ·simp only [Option.some.injEq] at h;subst h;exact ⟨fun k hk=>Wh (nd rfl hk),fun _=>rfl⟩
    ·simp at h
   ·simp at h
  ·simp at h
 | store sz x y =>
  simp only [step] at h
  split at h
  ·split at h
   ·split at h
    ·simp only [Option.some.injEq] at h;subst h
     exact ⟨fun k hk=>KP (fun e=>ng hk (by simpa [I.gives,QZ] using e)),by simp [I.hw]⟩
    ·simp at h
   ·simp at h
  ·simp at h
 | bin d c op x y =>
  simp only [step,Option.map_eq_some_iff] at h
  obtain ⟨r,_,rfl⟩:=h
  exact ⟨fun k hk=>Wh (nd rfl hk),fun _=>rfl⟩
 | un d op x =>
  simp only [step,Option.map_eq_some_iff] at h
  obtain ⟨r,_,rfl⟩:=h
  exact ⟨fun k hk=>Wh (nd rfl hk),fun _=>rfl⟩
 | build d z ps =>
  simp only [step,Option.map_eq_some_iff] at h
  obtain ⟨r,_,rfl⟩:=h
  exact ⟨fun k hk=>by rw [Wh (nd rfl hk)];exact ZeM (ng hk),fun _=>rfl⟩
 | bslice d sz len z ps =>
  simp only [step,Option.map_eq_some_iff] at h
  obtain ⟨r,_,rfl⟩:=h
  exact ⟨fun k hk=>by rw [Wh (nd rfl hk)];exact ZeM (ng hk),fun _=>rfl⟩
 | slice d sz x lo hi mx =>
  simp only [step] at h
  split at h
  ·split at h
   ·split at h
    ·simp only [Option.some.injEq] at h;subst h;exact ⟨fun k hk=>Wh (nd rfl hk),fun _=>rfl⟩
    ·simp at h
   ·simp at h
  ·split at h
   ·split at h
    ·simp only [Option.some.injEq] at h;subst h;exact ⟨fun k hk=>Wh (nd rfl hk),fun _=>rfl⟩
    ·simp at h
   ·simp at h
  ·simp at h
 | sliceS d x lo hi =>
  simp only [step] at h
  split at h
  ·split at h
   ·split at h
    ·simp only [Option.some.injEq] at h;subst h;exact ⟨fun k hk=>Wh (nd rfl hk),fun _=>rfl⟩
    ·simp at h
   ·simp at h
  ·simp at h
 | fieldA d off x =>
  simp only [step] at h
  split at h
  ·simp only [Option.some.injEq] at h;subst h;exact ⟨fun k hk=>Wh (nd rfl hk),fun _=>rfl⟩
  ·split at h
   ·simp only [Option.some.injEq] at h;subst h;exact ⟨fun k hk=>Wh (nd rfl hk),fun _=>rfl⟩
   ·simp at h
  ·simp at h
 | field d agg off sz x =>
  simp only [step] at h
  split at h
  ·split at h
   ·split at h
    ·simp only [Option.some.injEq] at h;subst h;exact ⟨fun k hk=>Wh (nd rfl hk),fun _=>rfl⟩
    ·simp at h
   ·simp at h
  ·simp at h
 | indexA d sz x j =>
  simp only [step] at h
  split at h
  ·split at h
   ·simp only [Option.some.injEq] at h;subst h;exact ⟨fun k hk=>Wh (nd rfl hk),fun _=>rfl⟩
   ·simp at h
  ·split at h
   ·simp only [Option.some.injEq] at h;subst h;exact ⟨fun k hk=>Wh (nd rfl hk),fun _=>rfl⟩
   ·simp at h
  ·simp at h
 | indexT d sz x j =>
  simp only [step] at h
  split at h
  ·split at h
   ·simp only [Option.some.injEq] at h;subst h
    exact ⟨fun k hk=>by rw [Wh (nd rfl hk)];exact KP (fun e=>ng hk (by simpa [I.gives,QZ] using e)),fun _=>rfl⟩
   ·simp at h
  ·simp at h
 | loadT d agg sz x =>
  simp only [step] at h
  split at h
  ·split at h
   ·split at h
    ·simp only [Option.some.injEq] at h;subst h
     exact ⟨fun k hk=>by rw [Wh (nd rfl hk)];exact KP (fun e=>ng hk (by simpa [I.gives,QZ] using e)),fun _=>rfl⟩
    ·simp at h
   ·simp at h
  ·simp at h
 | loadP d j agg sz x =>
  simp only [step] at h
  split at h
  ·split at h
   ·split at h
    ·split at h
     ·split at h
      ·simp only [Option.some.injEq] at h;subst h;exact ⟨fun k hk=>Wh (nd rfl hk),by simp [I.hw]⟩
      ·simp at h
     ·simp at h
    ·simp at h
   ·simp at h
  ·simp at h
 | indexS d x j =>
  simp only [step] at h
  split at h
  ·split at h
   ·simp only [Option.some.injEq] at h;subst h;exact ⟨fun k hk=>Wh (nd rfl hk),fun _=>rfl⟩
   ·simp at h
  ·simp at h
 | extract d k x =>
  simp only [step] at h
  split at h
  ·split at h
   ·split at h
    ·simp only [Option.some.injEq] at h;subst h
     refine ⟨fun k hk=>?_,fun _=>rfl⟩
     rw [Wh (nd rfl hk)]
     exact Ws _ _ _ (fun e=>ng hk (by simp [I.gives,QZ,YZ,e]))
    ·simp at h
   ·simp at h
  ·simp at h
 | len d x =>
  simp only [step,Option.map_eq_some_iff] at h
  obtain ⟨r,_,rfl⟩:=h
  exact ⟨fun k hk=>Wh (nd rfl hk),fun _=>rfl⟩
 | lenS d x =>
  simp only [step,Option.map_eq_some_iff] at h
  obtain ⟨r,_,rfl⟩:=h
  exact ⟨fun k hk=>Wh (nd rfl hk),fun _=>rfl⟩
 | append d sz x y =>
  simp only [step] at h
  split at h
  ·split at h
   ·simp only [Option.some.injEq] at h;subst h
    refine ⟨fun k hk=>?_,fun _=>rfl⟩
    rw [Wh (nd rfl hk)]
    have h1:k ∉ YZ x:=fun e=>ng hk (by simp [I.gives,QZ,e])
    have h2:k ∉ YZ y:=fun e=>ng hk (by simp [I.gives,QZ,e])
    exact (KP h2).trans (KP h1)
   ·simp at h
  ·simp at h
 | mkslice d sz z m =>
  simp only [step] at h
  split at h
  ·split at h
   ·simp only [Option.some.injEq] at h;subst h;exact ⟨fun k hk=>Wh (nd rfl hk),by simp [I.hw]⟩
   ·simp at h
  ·simp at h
 | minmax d mx x y =>
  simp only [step] at h
  split at h
  ·simp only [Option.some.injEq] at h;subst h;exact ⟨fun k hk=>Wh (nd rfl hk),fun _=>rfl⟩
  ·simp at h
 | mkfn d f m caps=>simp only [step,Option.some.injEq] at h;subst h;exact ⟨fun k hk=>Wh (nd rfl hk),fun _=>rfl⟩
 | nilchk d x =>
  simp only [step] at h
  split at h
  ·simp only [Option.some.injEq] at h;subst h;exact ⟨fun k hk=>Wh (nd rfl hk),fun _=>rfl⟩
  ·simp only [Option.some.injEq] at h;subst h;exact ⟨fun k hk=>Wh (nd rfl hk),fun _=>rfl⟩
  ·simp only [Option.some.injEq] at h;subst h;exact ⟨fun k hk=>Wh (nd rfl hk),fun _=>rfl⟩
  ·simp only [Option.some.injEq] at h;subst h;exact ⟨fun k hk=>Wh (nd rfl hk),fun _=>rfl⟩
  ·simp at h
 | conv d k x =>
  simp only [step,Option.map_eq_some_iff] at h
  obtain ⟨r,_,rfl⟩:=h
  exact ⟨fun k hk=>Wh (nd rfl hk),fun _=>rfl⟩
 | call rw d f ys=>simp [step] at h
 | pick d c x y =>
  simp only [step] at h
  split at h
  ·simp only [Option.some.injEq] at h;subst h;exact ⟨fun k hk=>Wh (nd rfl hk),fun _=>rfl⟩
  ·simp at h
 | bad d=>simp [step] at h
 | cap d x =>
  simp only [step] at h
  split at h
  ·simp only [Option.some.injEq] at h;subst h;exact ⟨fun k hk=>Wh (nd rfl hk),fun _=>rfl⟩
  ·simp at h
 | growz d sz x m =>
  simp only [step] at h
  split at h
  ·split at h
   ·simp only [Option.some.injEq] at h;subst h;exact ⟨fun k hk=>Wh (nd rfl hk),fun _=>rfl⟩
   ·simp at h
  ·simp at h
 | cut0 d sz x m =>
  simp only [step] at h
  split at h
  ·split at h
   ·simp only [Option.some.injEq] at h;subst h
    exact ⟨fun k hk=>by rw [Wh (nd rfl hk)];exact KP (fun e=>ng hk (by simpa [I.gives,QZ] using e)),fun _=>rfl⟩
   ·simp at h
  ·simp at h
abbrev GI:=Option (Nat×Bool)×I
def skip (i:I) (s:St):St:=match i.dst with
 | some d=>s.put d (.sc undef)
 | none=>s
def Zd7 (x:LV):Option Bool:=match x with
 | .sc (.bool b)=>some b
 | _=>none
def gd (want:Bool) (x:LV):Option Bool:=match x with
 | .sc (.bool b)=>some b
 | .sc (.tuple _)=>some (!want)
 | _=>none
def Wj (g:GI) (s:St):Option St:=match g.1 with
 | none=>step g.2 s
 | some (j,want)=>match gd want (s.t j) with
  | some b=>if b=want then step g.2 s else some (skip g.2 s)
  | none=>none
def Wd (g:GI):List Nat:=(match g.1 with | some (j,_)=>[j] | none=>[])++g.2.reads
theorem KG (g:GI) (s s':St) (ht:∀ k∈Wd g,s.t k=s'.t k) (hh:g.2.hr=true->s.h=s'.h) (hw:g.2.hw=true->g.2.hr=true):XN g.2 (Wj g s) (Wj g s'):=by
 have base:=ZrD g.2 s.t s'.t s.h s'.h (fun k hk=>ht k (by simp [Wd,hk])) hh
 unfold Wj
 split
 ·exact base
 ·rename_i j want hg
  have hj:s.t j=s'.t j:=ht j (by simp [Wd,hg])
  rw [hj]
  split
  ·split
   ·exact base
   ·unfold skip
    split
    ·rename_i d hd
     refine ⟨fun k hk=>ZN fun hne=>?_,fun h=>hh (hw h)⟩
     refine ht k ?_
     simp only [I.writes,hd,Option.toList,List.singleton_append,List.mem_cons] at hk
     have hk':=hk.resolve_left hne
     simp only [Wd,List.mem_append]
     right
     simp only [QZ,List.mem_flatMap,I.reads] at hk' ⊢
     obtain ⟨x,hx,hkx⟩:=hk'
     refine ⟨x,?_,hkx⟩
     revert hx
     cases g.2<;>simp [I.gives,I.ops]
     ·rename_i m _;cases m<;>simp
     ·intro h;exact .inr h
     ·intro h;exact .inl h
     ·intro h;exact .inl h
    ·rename_i hd
     refine ⟨fun k hk=>?_,fun h=>hh (hw h)⟩
     refine ht k ?_
     simp only [I.writes,hd,Option.toList,List.nil_append] at hk
     simp only [Wd,List.mem_append]
     right
     simp only [QZ,List.mem_flatMap,I.reads] at hk ⊢
     obtain ⟨x,hx,hkx⟩:=hk
     refine ⟨x,?_,hkx⟩
     revert hx
     cases g.2<;>simp [I.gives,I.ops]
     ·rename_i m _;cases m<;>simp
     ·intro h;exact .inr h
     ·intro h;exact .inl h
     ·intro h;exact .inl h
  ·trivial
theorem Ww (g:GI) (s s':St) (h:Wj g s=some s'):(∀ k,k ∉ g.2.writes->s'.t k=s.t k)∧(g.2.hw=false->s'.h=s.h):=by
 unfold Wj at h
 split at h
 ·exact ZcY g.2 s s' h
 ·split at h
  ·split at h
   ·exact ZcY g.2 s s' h
   ·simp only [Option.some.injEq] at h
    subst h
    unfold skip
    split
    ·rename_i d hd
     exact ⟨fun k hk=>Wh (fun e=>hk (by simp [I.writes,hd,e])),fun _=>rfl⟩
    ·exact ⟨fun _ _=>rfl,fun _=>rfl⟩
  ·simp at h
theorem Zj9 (i:I) (h:i.hw=true):i.hr=true:=by
 cases i<;>(try (simp [I.hw,I.hr] at h ⊢;done))
 case mv d m x=>cases m<;>simp [I.hw,I.hr] at h ⊢
 case load d m ag sz x=>cases m<;>simp [I.hw,I.hr,Md.settled] at h ⊢
 case call rw d f args=>simpa [I.hw,I.hr] using h
def I.dl:I->Bool
 | .load _ .frz _ _ _=>true
 | _=>false
def I.cl:I->Bool
 | .load _ .copy _ _ _=>true
 | _=>false
def Zhq (a b:GI):Bool:=a.1.isNone && b.1.isNone && a.2.dl && (b.2.dl || b.2.cl)
def Zhb (a b:GI):Bool:=a.1.isNone && b.1.isNone && (a.2.dl || a.2.cl) && (match b.2 with | .alloc _ _=>true | _=>false)
def K4 (a b:GI):Bool:=a.1.isNone && b.1.isNone && (match a.2,b.2 with | .extract d k (.t i),.extract d' k' (.t i')=>i == i' && k != k' && d != d' && d != i && d' != i | .mv d .take (.t i),.mv d' .copy (.t i')=>i == i' && d != d' && d != i && d' != i | .mv d .copy (.t i),.mv d' .take (.t i')=>i == i' && d != d' && d != i && d' != i | _,_=>false)
def Ze2 (a b:GI):Bool:=Zhq a b || Zhb a b
def Vl (a b:GI):Bool :=
 K4 a b || (a.2.writes.all fun k=>!(Wd b).contains k && !b.2.writes.contains k) && (b.2.writes.all fun k=>!(Wd a).contains k) &&
 (Ze2 a b || (!(a.2.hw && b.2.hr) && !(b.2.hw && a.2.hr))) && !(a.2.isCall && b.2.isCall)
theorem ZiK {a b:GI} (h:Vl a b=true) (h3:K4 a b=false):(∀ k∈a.2.writes,k ∉ Wd b)∧(∀ k∈a.2.writes,k ∉ b.2.writes)∧(∀ k∈b.2.writes,k ∉ Wd a) ∧
  (Ze2 a b=true∨(¬ (a.2.hw=true∧b.2.hr=true)∧¬ (b.2.hw=true∧a.2.hr=true)))∧¬ (a.2.isCall=true∧b.2.isCall=true):=by
 rw [Vl,h3,Bool.false_or] at h
 simp only [Bool.and_eq_true,List.all_eq_true,Bool.not_eq_true',Bool.and_eq_false_imp,Bool.or_eq_true] at h
 obtain ⟨⟨⟨h1,h2⟩,h4⟩,h5⟩:=h
 refine ⟨fun k hk hm=>?_,fun k hk hm=>?_,fun k hk hm=>?_,?_,?_⟩
 ·have:=(h1 k hk).1;simp [hm] at this
 ·have:=(h1 k hk).2;simp [hm] at this
 ·have:=h2 k hk;simp [hm] at this
 ·rcases h4 with h4 | ⟨h3,h4⟩
  ·exact .inl h4
  ·right
   refine ⟨?_,?_⟩
   ·rintro ⟨q1,q2⟩;simp [q1,q2] at h3
   ·rintro ⟨q1,q2⟩;simp [q1,q2] at h4
 ·rintro ⟨q1,q2⟩;simp [q1,q2] at h5
theorem Zot {a b:GI} (h:Ze2 a b=true):a.2.isCall=false∧b.2.isCall=false:=by
 simp only [Ze2,Zhq,Zhb,Bool.and_eq_true,Bool.or_eq_true] at h
 rcases h with ⟨⟨_,h1⟩,h2⟩ | ⟨⟨_,h1⟩,h2⟩
 ·constructor
  ·cases ha:a.2<;>simp [ha,I.dl] at h1 ⊢<;>rfl
  ·cases hb:b.2<;>simp [hb,I.dl,I.cl] at h2 ⊢<;>rfl
 ·constructor
  ·cases ha:a.2<;>simp [ha,I.dl,I.cl] at h1 ⊢<;>rfl
  ·cases hb:b.2<;>simp [hb] at h2 ⊢<;>rfl
theorem ZlK {a b:GI} (h:K4 a b=true):a.2.isCall=false∧b.2.isCall=false:=by
 simp only [K4,Bool.and_eq_true] at h
 obtain ⟨_,h⟩:=h
 split at h
 ·rename_i h1 h2;rw [h1,h2];exact ⟨rfl,rfl⟩
 ·rename_i h1 h2;rw [h1,h2];exact ⟨rfl,rfl⟩
 ·rename_i h1 h2;rw [h1,h2];exact ⟨rfl,rfl⟩
 ·simp at h
theorem VH {a b:GI} (h:Vl a b=true) (hc:a.2.isCall=true∨b.2.isCall=true):(∀ k∈a.2.writes,k ∉ Wd b)∧(∀ k∈a.2.writes,k ∉ b.2.writes)∧(∀ k∈b.2.writes,k ∉ Wd a) ∧
  ¬ (a.2.hw=true∧b.2.hr=true)∧¬ (b.2.hw=true∧a.2.hr=true)∧¬ (a.2.isCall=true∧b.2.isCall=true):=by
 have h3':K4 a b=false:=by
  cases hh:K4 a b with
  | false=>rfl
  | true =>
   have:=ZlK hh
   rcases hc with hc | hc
   ·rw [this.1] at hc;simp at hc
   ·rw [this.2] at hc;simp at hc
 obtain ⟨h1,h2,h3,h4,h5⟩:=ZiK h h3'
 rcases h4 with h4 | h4
 ·have:=Zot h4
  rcases hc with hc | hc
  ·rw [this.1] at hc;simp at hc
  ·rw [this.2] at hc;simp at hc
 ·exact ⟨h1,h2,h3,h4.1,h4.2,h5⟩
theorem VM {xs ys:List LV} {o:Nat} (h:o+ys.length<=xs.length) (i:Nat):(splice xs o ys)[i]?=if o<=i∧i < o+ys.length then ys[i - o]? else xs[i]?:=by
 unfold splice
 by_cases h1:i < o
 ·rw [if_neg (by omega),List.append_assoc,List.getElem?_append_left (by simp;omega),List.getElem?_take,if_pos h1]
 ·rw [List.append_assoc,List.getElem?_append_right (by simp;omega)]
  have e:(xs.take o).length=o:=by simp;omega
  rw [e]
  by_cases h2:i < o+ys.length
  ·rw [if_pos (by omega),List.getElem?_append_left (by omega)]
  ·rw [if_neg (by omega),List.getElem?_append_right (by omega),List.getElem?_drop]
   congr 1;omega
theorem Zdi {xs ys:List LV} {o:Nat} (h:o+ys.length<=xs.length):(splice xs o ys).length=xs.length:=by
 unfold splice;simp;omega
theorem ZnE:∀ {xs:List LV} (i:Nat) (x:LV),WK xs=true->xs[i]?=some x->x.alive=true
 | x::xs,0,y,h,e=>by simp [WK] at h e;subst e;exact h.1
 | x::xs,i+1,y,h,e=>by simp [WK] at h;exact ZnE i y h.2 (by simpa using e)
theorem ZoD {xs:List LV} {o sz i:Nat} (h:i < sz):((xs.drop o).take sz)[i]?=xs[o+i]?:=by
 rw [List.getElem?_take,if_pos h,List.getElem?_drop]
theorem ZqA {xs:List LV} {oa sa ob sb:Nat} (ha:oa+sa<=xs.length) (hb:ob+sb<=xs.length) (h:WK (((splice xs oa (List.replicate sa .dead)).drop ob).take sb)=true) :
  ∀ i,oa<=i->i < oa+sa->ob<=i->i < ob+sb->False:=by
 intro i h1 h2 h3 h4
 have e:=ZoD (xs:=splice xs oa (List.replicate sa .dead)) (o:=ob) (sz:=sb) (i:=i - ob) (by omega)
 rw [show ob+(i - ob)=i by omega,VM (by simpa using ha),if_pos ⟨h1,by simpa using h2⟩,List.getElem?_replicate,if_pos (by omega)] at e
 have:=ZnE _ _ h e
 simp [LV.alive] at this
theorem Zlx {xs:List LV} {oa sa ob sb:Nat} (ha:oa+sa<=xs.length) (hd:∀ i,oa<=i->i < oa+sa->ob<=i->i < ob+sb->False) :
  ((splice xs oa (List.replicate sa .dead)).drop ob).take sb=(xs.drop ob).take sb:=by
 apply List.ext_getElem?
 intro i
 by_cases hi:i < sb
 ·rw [ZoD hi,ZoD hi,VM (by simpa using ha)]
  rw [if_neg]
  rintro ⟨h1,h2⟩
  exact hd (ob+i) h1 (by simpa using h2) (by omega) (by omega)
 ·rw [List.getElem?_take,List.getElem?_take,if_neg hi,if_neg hi]
theorem Zn1 {xs:List LV} {oa sa ob sb:Nat} (ha:oa+sa<=xs.length) (hb:ob+sb<=xs.length) :
  splice (splice xs oa (List.replicate sa .dead)) ob (List.replicate sb .dead)=splice (splice xs ob (List.replicate sb .dead)) oa (List.replicate sa .dead):=by
 apply List.ext_getElem?
 intro i
 rw [VM (by rw [Zdi (by simpa using ha)];simpa using hb),VM (by simpa using ha),VM (by rw [Zdi (by simpa using hb)];simpa using ha),VM (by simpa using hb)]
 simp only [List.length_replicate,List.getElem?_replicate]
 by_cases h1:oa<=i∧i < oa+sa<;>by_cases h2:ob<=i∧i < ob+sb<;>simp only [h1,h2,if_true,if_false,and_self]
 ·rw [if_pos (by omega),if_pos (by omega)]
def ldv (agg:Bool) (sz:Nat) (h:List Box) (v:LV):Option LV :=
 match v with
 | .ptr l o=>match h[l]? with
  | some (some xs)=>if o+sz<=xs.length∧WK ((xs.drop o).take sz)=true then Wp agg ((xs.drop o).take sz) else none
  | _=>none
 | .rp ys=>if sz<=ys.length then (Wp agg (ys.take sz)).map share else none
 | _=>none
def ldh (sz:Nat) (h:List Box) (v:LV):List Box :=
 match v with
 | .ptr l o=>match h[l]? with
  | some (some xs)=>h.set l (some (splice xs o (List.replicate sz .dead)))
  | _=>h
 | _=>h
theorem ZgH {d sz:Nat} {agg:Bool} {x:X} {s:St}:step (.load d .frz agg sz x) s=(ldv agg sz s.h (get s.t x)).map fun v=>St.put { s with h:=ldh sz s.h (get s.t x) } d v:=by
 simp only [step,ldv,ldh,Md.settled]
 generalize get s.t x=v
 cases v<;>try rfl
 ·rename_i l o
  simp only [Bool.false_eq_true,if_false]
  cases s.h[l]? with
  | none=>rfl
  | some b=>cases b with
   | none=>rfl
   | some xs =>
    simp only
    split
    ·cases Wp agg ((xs.drop o).take sz)<;>rfl
    ·rfl
 ·rename_i ys
  simp only
  split
  ·cases Wp agg (ys.take sz)<;>rfl
  ·rfl
theorem ZsC {d sz:Nat} {agg:Bool} {x:X} {s:St}:step (.load d .copy agg sz x) s=(ldv agg sz s.h (get s.t x)).map fun v=>s.put d (share v):=by
 simp only [step,ldv,Md.settled]
 generalize get s.t x=v
 cases v<;>try rfl
 ·rename_i l o
  simp only [Bool.false_eq_true,if_false]
  cases s.h[l]? with
  | none=>rfl
  | some b=>cases b with
   | none=>rfl
   | some xs =>
    simp only
    split
    ·cases Wp agg ((xs.drop o).take sz)<;>rfl
    ·rfl
 ·rename_i ys
  simp only
  split
  ·cases Wp agg (ys.take sz)<;>simp [share_share']
  ·rfl
where
 share_share':∀ (x:LV),share (share x)=share x:=Zbf
theorem Zss {aa ab:Bool} {sa sb:Nat} {h:List Box} {pa pb va vb:LV} (h1:ldv aa sa h pa=some va) (h2:ldv ab sb (ldh sa h pa) pb=some vb) :
  ldv ab sb h pb=some vb∧ldv aa sa (ldh sb h pb) pa=some va∧ldh sb (ldh sa h pa) pb=ldh sa (ldh sb h pb) pa:=by
 cases pa with
 | ptr la oa =>
  simp only [ldv] at h1
  cases hla:h[la]? with
  | none=>simp [hla] at h1
  | some ba=>cases ba with
   | none=>simp [hla] at h1
   | some xa =>
    simp only [hla] at h1
    split at h1
    ·rename_i hca
     have hlt:la < h.length:=by
      rcases Nat.lt_or_ge la h.length with g | g
      ·exact g
      ·rw [List.getElem?_eq_none g] at hla;simp at hla
     have ea:ldh sa h (.ptr la oa)=h.set la (some (splice xa oa (List.replicate sa .dead))):=by simp only [ldh,hla]
     rw [ea] at h2 ⊢
     cases pb with
     | ptr lb ob =>
      by_cases hl:la=lb
      ·subst hl
       simp only [ldv,List.getElem?_set_self hlt] at h2
       split at h2
       ·rename_i hcb
        rw [Zdi (by simpa using hca.1)] at hcb
        have hd:=ZqA hca.1 hcb.1 hcb.2
        have es:=Zlx (sb:=sb) (ob:=ob) hca.1 hd
        rw [es] at hcb h2
        have es2:=Zlx (oa:=ob) (sa:=sb) (ob:=oa) (sb:=sa) (xs:=xa) hcb.1 (fun i p1 p2 p3 p4=>hd i p3 p4 p1 p2)
        refine ⟨?_,?_,?_⟩
        ·simp only [ldv,hla];rw [if_pos hcb];exact h2
        ·simp only [ldh,hla,ldv,List.getElem?_set_self hlt]
         rw [Zdi (by simpa using hcb.1),es2,if_pos hca];exact h1
        ·simp only [ldh,hla,List.getElem?_set_self hlt,List.set_set]
         rw [Zn1 hca.1 hcb.1]
       ·simp at h2
      ·simp only [ldv,List.getElem?_set_ne hl] at h2
       refine ⟨by simp only [ldv];exact h2,?_,?_⟩
       ·cases hlb:h[lb]? with
        | none=>simp [hlb] at h2
        | some bb=>cases bb with
         | none=>simp [hlb] at h2
         | some xb =>
          simp only [ldh,hlb,ldv,List.getElem?_set_ne (fun e=>hl e.symm),hla]
          rw [if_pos hca];exact h1
       ·cases hlb:h[lb]? with
        | none=>simp [hlb] at h2
        | some bb=>cases bb with
         | none=>simp [hlb] at h2
         | some xb =>
          simp only [ldh,hlb,List.getElem?_set_ne hl,List.getElem?_set_ne (fun e=>hl e.symm),hla]
          rw [List.set_comm _ _ hl]
     | rp ys=>exact ⟨h2,by simp only [ldv,hla,ldh];rw [if_pos hca];exact h1,by simp [ldh,hla]⟩
     | _=>simp [ldv] at h2
    ·simp at h1
 | rp ys =>
  refine ⟨h2,?_,rfl⟩
  simpa only [ldv] using h1
 | _=>simp [ldv] at h1
theorem ZmB {a b:GI} (hs:Zhq a b=true) (i1:∀ k∈a.2.writes,k ∉ Wd b) (i2:∀ k∈a.2.writes,k ∉ b.2.writes) (i3:∀ k∈b.2.writes,k ∉ Wd a) {s s1 s2:St} (h1:Wj a s=some s1) (h2:Wj b s1=some s2) :
  ∃ s1',Wj b s=some s1'∧Wj a s1'=some s2:=by
 obtain ⟨ga,ia⟩:=a
 obtain ⟨gb,ib⟩:=b
 simp only [Zhq,Bool.and_eq_true,Bool.or_eq_true,Option.isNone_iff_eq_none] at hs
 obtain ⟨⟨⟨rfl,rfl⟩,hda⟩,hdb⟩:=hs
 simp only [Wj] at h1 h2 ⊢
 cases ia<;>simp [I.dl] at hda
 rename_i da ma aa sa xa
 cases ma<;>simp at hda
 cases ib<;>simp [I.dl,I.cl] at hdb
 rename_i db mb ab sb xb
 have hdd:da≠db:=fun e=>i2 da (by simp [I.writes,I.dst]) (by simp [I.writes,I.dst,e])
 have hxb:∀ v,get (upd s.t da v) xb=get s.t xb:=fun v=>X4 fun k hk=>by
  refine Ws _ _ _ fun e=>?_
  subst e
  exact i1 k (by simp [I.writes,I.dst]) (by simp [Wd,I.reads,I.ops,QZ,hk])
 have hxa:∀ v,get (upd s.t db v) xa=get s.t xa:=fun v=>X4 fun k hk=>by
  refine Ws _ _ _ fun e=>?_
  subst e
  exact i3 k (by simp [I.writes,I.dst]) (by simp [Wd,I.reads,I.ops,QZ,hk])
 have hcomm:∀ u v,upd (upd s.t da u) db v=upd (upd s.t db v) da u:=by
  intro u v;funext k;simp only [upd]
  by_cases e1:k=db
  ·subst e1
   rw [if_pos rfl,if_neg (fun e=>hdd e.symm),if_pos rfl]
  ·rw [if_neg e1,if_neg e1]
 rw [ZgH] at h1
 simp only [Option.map_eq_some_iff] at h1
 obtain ⟨va,k1,rfl⟩:=h1
 cases mb<;>simp at hdb
 ·rw [ZsC] at h2 ⊢
  simp only [Option.map_eq_some_iff,St.put] at h2
  obtain ⟨vb,k2,rfl⟩:=h2
  rw [hxb] at k2
  obtain ⟨q1,_,_⟩:=Zss k1 k2
  rw [q1]
  refine ⟨_,rfl,?_⟩
  rw [ZgH]
  simp only [St.put,hxa,k1,Option.map_some,hcomm]
 ·rw [ZgH] at h2 ⊢
  simp only [Option.map_eq_some_iff,St.put] at h2
  obtain ⟨vb,k2,rfl⟩:=h2
  rw [hxb] at k2
  obtain ⟨q1,q2,q3⟩:=Zss k1 k2
  rw [q1]
  refine ⟨_,rfl,?_⟩
  rw [ZgH]
  simp only [St.put,hxa,q2,Option.map_some,hcomm,hxb,q3]
theorem ldv_lt {agg:Bool} {sz l o:Nat} {h:List Box} {v:LV} (e:ldv agg sz h (.ptr l o)=some v):l < h.length:=by
 simp only [ldv] at e
 rcases Nat.lt_or_ge l h.length with g | g
 ·exact g
 ·rw [List.getElem?_eq_none g] at e;simp at e
theorem Zsr {agg:Bool} {sz:Nat} {h:List Box} {p v:LV} (z:Box) (e:ldv agg sz h p=some v):ldv agg sz (h++[z]) p=some v∧ldh sz (h++[z]) p=ldh sz h p++[z]∧(ldh sz h p).length=h.length:=by
 cases p with
 | ptr l o =>
  have hl:=ldv_lt e
  simp only [ldv,ldh,List.getElem?_append_left hl] at e ⊢
  refine ⟨e,?_,?_⟩
  ·cases hb:h[l]? with
   | none=>rfl
   | some b=>cases b with
    | none=>rfl
    | some xs=>simp only;rw [List.set_append_left _ _ hl]
  ·cases hb:h[l]? with
   | none=>rfl
   | some b=>cases b<;>simp
 | rp ys=>exact ⟨by simpa only [ldv] using e,by simp only [ldh],by simp only [ldh]⟩
 | _=>simp [ldv] at e
theorem ZlM {a b:GI} (hs:Zhb a b=true) (i1:∀ k∈a.2.writes,k ∉ Wd b) (i2:∀ k∈a.2.writes,k ∉ b.2.writes) (i3:∀ k∈b.2.writes,k ∉ Wd a) {s s1 s2:St} (h1:Wj a s=some s1) (h2:Wj b s1=some s2) :
  ∃ s1',Wj b s=some s1'∧Wj a s1'=some s2:=by
 obtain ⟨ga,ia⟩:=a
 obtain ⟨gb,ib⟩:=b
 simp only [Zhb,Bool.and_eq_true,Bool.or_eq_true,Option.isNone_iff_eq_none] at hs
 obtain ⟨⟨⟨rfl,rfl⟩,hda⟩,hdb⟩:=hs
 simp only [Wj] at h1 h2 ⊢
 cases ib<;>simp at hdb
 rename_i db z
 cases ia<;>simp [I.dl,I.cl] at hda
 rename_i da ma aa sa xa
 have hdd:da≠db:=fun e=>i2 da (by simp [I.writes,I.dst]) (by simp [I.writes,I.dst,e])
 have hxa:∀ v,get (upd s.t db v) xa=get s.t xa:=fun v=>X4 fun k hk=>by
  refine Ws _ _ _ fun e=>?_
  subst e
  exact i3 k (by simp [I.writes,I.dst]) (by simp [Wd,I.reads,I.ops,QZ,hk])
 have hcomm:∀ u v,upd (upd s.t da u) db v=upd (upd s.t db v) da u:=by
  intro u v;funext k;simp only [upd]
  by_cases e1:k=db
  ·subst e1
   rw [if_pos rfl,if_neg (fun e=>hdd e.symm),if_pos rfl]
  ·rw [if_neg e1,if_neg e1]
 simp only [step,Option.some.injEq] at h2
 refine ⟨_,(rfl:step (.alloc db z) s=some _),?_⟩
 cases ma<;>simp at hda
 ·rw [ZsC] at h1 ⊢
  simp only [Option.map_eq_some_iff] at h1
  obtain ⟨va,k1,rfl⟩:=h1
  subst h2
  simp only [St.put,hxa]
  rw [(Zsr (some z) k1).1]
  simp only [Option.map_some,hcomm]
 ·rw [ZgH] at h1 ⊢
  simp only [Option.map_eq_some_iff] at h1
  obtain ⟨va,k1,rfl⟩:=h1
  subst h2
  obtain ⟨q1,q2,q3⟩:=Zsr (some z) k1
  simp only [St.put,hxa,q1,q2,q3,Option.map_some,hcomm]
theorem ZlT {a b:GI} (hs:K4 a b=true) {s s1 s2:St} (h1:Wj a s=some s1) (h2:Wj b s1=some s2) :
  ∃ s1',Wj b s=some s1'∧Wj a s1'=some s2:=by
 obtain ⟨ga,ia⟩:=a
 obtain ⟨gb,ib⟩:=b
 simp only [K4,Bool.and_eq_true,Option.isNone_iff_eq_none] at hs
 obtain ⟨⟨rfl,rfl⟩,hs⟩:=hs
 simp only [Wj] at h1 h2 ⊢
 split at hs
 ·rename_i d k i d' k' i'
  simp only [Bool.and_eq_true,beq_iff_eq,bne_iff_ne,ne_eq] at hs
  obtain ⟨⟨⟨⟨rfl,hk⟩,hdd⟩,hdi⟩,hdi'⟩:=hs
  simp only [step,get] at h1 h2 ⊢
  split at h1
  ·rename_i xs hx
   split at h1
   ·rename_i v hv
    simp only [Option.some.injEq] at h1
    subst h1
    have e1:(St.put { s with t:=upd s.t i (.tup (xs.set k (share v))) } d v).t i=.tup (xs.set k (share v)):=by
     simp only [St.put]
     rw [Ws _ _ _ (fun e=>hdi e.symm),QO]
    rw [e1] at h2
    simp only [List.getElem?_set_ne hk] at h2
    split at h2
    ·rename_i v' hv'
     simp only [Option.some.injEq] at h2
     subst h2
     try simp only [hx]
     try simp only [hv']
     refine ⟨_,rfl,?_⟩
     have e2:(St.put { s with t:=upd s.t i (.tup (xs.set k' (share v'))) } d' v').t i=.tup (xs.set k' (share v')):=by
      simp only [St.put]
      rw [Ws _ _ _ (fun e=>hdi' e.symm),QO]
     rw [e2]
     simp only [List.getElem?_set_ne (fun e=>hk e.symm),hv,Option.some.injEq,St.put,St.mk.injEq,and_true]
     funext j
     simp only [upd]
     rw [List.set_comm _ _ hk]
     by_cases j1:j=d<;>by_cases j2:j=d'<;>by_cases j3:j=i<;>simp_all
    ·simp at h2
   ·simp at h1
  ·simp at h1
 ·rename_i d i d' i'
  simp only [Bool.and_eq_true,beq_iff_eq,bne_iff_ne,ne_eq] at hs
  obtain ⟨⟨⟨rfl,hdd⟩,hdi⟩,hdi'⟩:=hs
  simp only [step,St.put,St.give,TL.give,get,Option.some.injEq] at h1 h2 ⊢
  subst h1
  subst h2
  refine ⟨_,rfl,?_⟩
  congr 1
  funext k
  simp only [upd]
  have:=Zbf (s.t i)
  have q1:=Ne.symm hdd
  have q2:=Ne.symm hdi
  have q3:=Ne.symm hdi'
  by_cases e1:k=d<;>by_cases e2:k=d'<;>by_cases e3:k=i<;>simp_all
 ·rename_i d i d' i'
  simp only [Bool.and_eq_true,beq_iff_eq,bne_iff_ne,ne_eq] at hs
  obtain ⟨⟨⟨rfl,hdd⟩,hdi⟩,hdi'⟩:=hs
  simp only [step,St.put,St.give,TL.give,get,Option.some.injEq] at h1 h2 ⊢
  subst h1
  subst h2
  refine ⟨_,rfl,?_⟩
  congr 1
  funext k
  simp only [upd]
  have:=Zbf (s.t i)
  have q1:=Ne.symm hdd
  have q2:=Ne.symm hdi
  have q3:=Ne.symm hdi'
  by_cases e1:k=d<;>by_cases e2:k=d'<;>by_cases e3:k=i<;>simp_all
 ·simp at hs
theorem Zo8 {a b:GI} (hs:Ze2 a b=true) (i1:∀ k∈a.2.writes,k ∉ Wd b) (i2:∀ k∈a.2.writes,k ∉ b.2.writes) (i3:∀ k∈b.2.writes,k ∉ Wd a) {s s1 s2:St} (h1:Wj a s=some s1) (h2:Wj b s1=some s2) :
  ∃ s1',Wj b s=some s1'∧Wj a s1'=some s2:=by
 simp only [Ze2,Bool.or_eq_true] at hs
 rcases hs with hs | hs
 ·exact ZmB hs i1 i2 i3 h1 h2
 ·exact ZlM hs i1 i2 i3 h1 h2
theorem Zsa {a b:GI} (hi:Vl a b=true) {s s1 s2:St} (h1:Wj a s=some s1) (h2:Wj b s1=some s2):∃ s1',Wj b s=some s1'∧Wj a s1'=some s2:=by
 cases hs3:K4 a b with
 | true=>exact ZlT hs3 h1 h2
 | false =>
 obtain ⟨i1,i2,i3,i45,_⟩:=ZiK hi hs3
 rcases i45 with i4 | ⟨i4,i5⟩
 ·exact Zo8 i4 i1 i2 i3 h1 h2
 have fa:=Ww a s s1 h1
 have fb:=Ww b s1 s2 h2
 have ahw:∀ {c:Bool},a.2.hw=c->c=true∨a.2.hw=false:=fun h=>by cases h':a.2.hw<;>simp_all
 have e1:b.2.hr=true->s.h=s1.h:=fun h=>by
  refine (fa.2 ?_).symm
  cases h':a.2.hw
  ·rfl
  ·exact absurd ⟨h',h⟩ i4
 have lb:=KG b s s1 (fun k hk=>(fa.1 k (fun hk'=>i1 k hk' hk)).symm) e1 (Zj9 _)
 rw [h2] at lb
 cases h3:Wj b s with
 | none=>rw [h3] at lb;exact lb.elim
 | some s1' =>
  rw [h3] at lb
  have fb':=Ww b s s1' h3
  have e2:a.2.hr=true->s.h=s1'.h:=fun h=>by
   refine (fb'.2 ?_).symm
   cases h':b.2.hw
   ·rfl
   ·exact absurd ⟨h',h⟩ i5
  have la:=KG a s s1' (fun k hk=>(fb'.1 k (fun hk'=>i3 k hk' hk)).symm) e2 (Zj9 _)
  rw [h1] at la
  cases h4:Wj a s1' with
  | none=>rw [h4] at la;exact la.elim
  | some s2' =>
   rw [h4] at la
   have fa':=Ww a s1' s2' h4
   refine ⟨s1',rfl,?_⟩
   rw [h4]
   congr 1
   have et:s2'.t=s2.t:=by
    funext k
    by_cases ka:k∈a.2.writes
    ·rw [<- la.1 k ka,fb.1 k (i2 k ka)]
    ·by_cases kb:k∈b.2.writes
     ·rw [fa'.1 k ka,lb.1 k kb]
     ·rw [fa'.1 k ka,fb'.1 k kb,fb.1 k kb,fa.1 k ka]
   have eh:s2'.h=s2.h:=by
    cases ha:a.2.hw with
    | true =>
     have hbw:b.2.hw=false:=by
      cases hb:b.2.hw with
      | true=>exact absurd ⟨ha,Zj9 _ hb⟩ i4
      | false=>rfl
     rw [<- la.2 ha,fb.2 hbw]
    | false =>
     cases hb:b.2.hw with
     | true=>rw [fa'.2 ha,lb.2 hb]
     | false=>rw [fa'.2 ha,fb'.2 hb,fb.2 hb,fa.2 ha]
   cases s2';cases s2
   simp only at et eh
   rw [et,eh]
end Go.TL