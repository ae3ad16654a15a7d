/- Part 7 of the proof of the row of the text YtbmepminmpjlcaaGreatZRowRunProgram: texts joined. No conditions. -/
import Derived.Test.YtbmepminmpjlcaaGreatZfRowRunProgram
set_option linter.unusedSimpArgs false
set_option linter.unusedVariables false
set_option linter.unusedSectionVars false
namespace Go.Proofs.YtbmepminmpjlcaaGreat
open Go Go.TL
set_option linter.unusedSimpArgs false
set_option linter.unusedVariables false
set_option linter.unusedSectionVars false
set_option maxRecDepth 20000
set_option maxHeartbeats 4000000
def Wu {α:Type} (f:Int→α) (k:Int):Nat→List α
 | 0=>[]
 | n+1=>f k::Wu f (k+1) n
@[simp] theorem Jk {α:Type} (f:Int→α) (k:Int) (n:Nat):(Wu f k n).length=n:=by
 induction n generalizing k with
 | zero=>rfl
 | succ n ih=>simp [Wu,ih]
theorem Zob {α:Type} (f:Int→α) (k:Int) (n:Nat):Wu f k (n+1)=Wu f k n++[f (k+n)]:=by
 induction n generalizing k with
 | zero=>simp [Wu]
 | succ n ih =>
  rw [Wu,ih]
  simp only [Wu,List.cons_append,Int.natCast_add,Int.natCast_one]
  rw [show k+1+(n:Int)=k+(n+1) by omega]
theorem Zp0 {α:Type} (f:Int→α) (k:Int) (n i:Nat) (h:i < n):(Wu f k n)[i]'(by simpa using h)=f (k+i):=by
 induction n generalizing k i with
 | zero=>omega
 | succ n ih =>
  cases i with
  | zero=>simp [Wu]
  | succ i =>
   simp only [Wu,List.getElem_cons_succ]
   rw [ih (k+1) i (by omega)]
   congr 1
   simp only [Int.natCast_add,Int.natCast_one]
   omega
def mI (k:Int):Int:=k
def mB (k:Int):Bool:=eqB (k.tmod 3) 0
abbrev ZoT {α:Type} (e:α→LV) (l:List α):List (List LV):=l.map fun x=>[e x]
theorem Zja {α:Type} (v:α→Value):∀ (l:List α) (n:Nat) (cells:List LV) (bs:List Box),Xi (ZoT (fun x=>.sc (v x)) l) 1 n cells bs ↔ cells=l.map (fun x=>.sc (v x))∧bs=[]
 | [],n,cells,bs=>by simp [Xi]
 | x::l,n,cells,bs=>by
  simp only [ZoT,List.map_cons,Xi,WI,Th]
  constructor
  ·rintro ⟨c1,b1,c2,b2,_,⟨y,b3,ys',b4,⟨rfl,rfl⟩,⟨rfl,rfl⟩,rfl,rfl⟩,h2,rfl,rfl⟩
   obtain ⟨rfl,rfl⟩:=(Zja v l _ _ _).1 h2
   simp
  ·rintro ⟨rfl,rfl⟩
   exact ⟨[.sc (v x)],[],l.map (fun x=>.sc (v x)),[],rfl,⟨.sc (v x),[],[],[],⟨rfl,rfl⟩,⟨rfl,rfl⟩,rfl,rfl⟩,(Zja v l _ _ _).2 ⟨rfl,rfl⟩,rfl,rfl⟩
theorem Zbw {α:Type} (v:α→Value) {u nl:Bool} {l:List α} {n:Nat} {y:LV} {bs:List Box}:Th (.sl u nl 1 (ZoT (fun x=>.sc (v x)) l)) n y bs ↔ (l=[]∧y=.sl false nl 1 []∧bs=[]) ∨
  (nl=false∧l≠[]∧∃ slack cap,(l.length≤cap∧l.length * 1+slack=cap * 1)∧y=.ha n 1 0 l.length cap∧bs=[some (l.map (fun x=>.sc (v x))++List.replicate slack .dead)]):=by
 simp only [Th,Zja,List.length_map,List.map_eq_nil_iff]
 constructor
 ·rintro (⟨h1,h2,h3⟩ | ⟨h1,h2,cells,bs',slack,cap,⟨rfl,rfl⟩,h3,h4,h5⟩)
  ·exact .inl ⟨h1,h2,h3⟩
  ·exact .inr ⟨h1,by simpa using h2,slack,cap,h3,by simpa using h4,by simpa using h5⟩
 ·rintro (⟨h1,h2,h3⟩ | ⟨h1,h2,slack,cap,h3,h4,h5⟩)
  ·exact .inl ⟨h1,h2,h3⟩
  ·exact .inr ⟨h1,by simpa using h2,_,[],slack,cap,⟨rfl,rfl⟩,h3,by simpa using h4,by simpa using h5⟩
theorem Kd {α:Type} (v:α→Value) (u nl:Bool) (l:List α) (h:l=[]∨(u=true∧nl=false)):QB (.sl u nl 1 (ZoT (fun x=>.sc (v x)) l)):=by
 simp only [QB]
 refine ⟨?_,?_⟩
 ·rcases h with rfl | ⟨rfl,rfl⟩
  ·left;rfl
  ·right;simp
 ·clear h
  induction l with
  | nil=>simp [QL]
  | cons x l ih=>simp only [ZoT,List.map_cons,QL,QP,QB];exact ⟨⟨trivial,trivial⟩,ih⟩
theorem Zhn {α:Type} (v:α→Value) (f:Int→α) (k:Int) (l:List α) (rest:List LV) (i:Nat) (h:i < l.length) :
  splice ((Wu f k i++l.drop i).map (fun x=>LV.sc (v x))++rest) i [.sc (v (f (k+i)))]=(Wu f k (i+1)++l.drop (i+1)).map (fun x=>LV.sc (v x))++rest:=by
 unfold splice
 rw [List.drop_eq_getElem_cons h,Zob]
 simp only [List.map_append,List.map_cons,List.append_assoc,List.cons_append]
 rw [Zrp _ _ _ (by simp),Zrt _ _ _ _ (by simp)]
 simp
@[simp] theorem bin_rem3 {a:Int}:Xw .num .rem (.sc (.int .i64 a)) (.sc (.int .i64 3))=some (.sc (.int .i64 (a.tmod 3))):=by simp [Xw,Kg]
theorem KZ (u nl:Bool) (l:List Int) (k:Int) (hk:0≤k∧k+l.length≤4611686018427387904) (h1 h2:List Box) (y:LV) (bs:List Box) (ht:Th (OU u nl l) h1.length y bs) :
  QD Tryz.prog Yp [y,N k] (h1++bs++h2) (fun r h'=>r=N (k+l.length)∧∃ bs',bs'.length=bs.length∧Th (OU u nl (Wu mI k l.length)) h1.length y bs'∧h'=h1++bs'++h2):=by
 rcases (Zbw (fun n:Int=>Value.int .i64 n)).1 ht with ⟨rfl,rfl,rfl⟩ | ⟨rfl,hne,slack,cap,hcap,rfl,rfl⟩
 ·refine QD.of_codeOf Zcu Qz (by simp) ⟨_,_,rfl,[],rfl,(Zbw (fun n:Int=>Value.int .i64 n)).2 (.inl ⟨rfl,rfl,rfl⟩),rfl⟩ ?_
  simp (disch:=omega) [Vi]
  refine Wc 0 0 (fun i t h=>t 5=N 0∧t 1=N k∧h=h1++h2) (by simp) (by omega) ?_
  rintro i t1 hh hf hi ⟨e5,e1,rfl⟩
  (have e0:=hf 0 (by kernel_rfl);clear hf;simp [] at e0)
  simp (disch:=omega) [e0,e1,e5]
  refine QK (.inr rfl) (by simp) ?_
  simp [Th,Wu]
 ·have hm:(Wu mI k l.length).length=l.length:=Jk _ k l.length
  have hne2:Wu mI k l.length≠[]:=by
   intro h;rw [h] at hm;exact hne (List.eq_nil_of_length_eq_zero (by simpa using hm.symm))
  refine QD.of_codeOf Zcu Qz (by simp) ⟨_,_,rfl,[some ((Wu mI k l.length).map (fun x=>.sc ((fun n:Int=>Value.int .i64 n) x))++List.replicate slack .dead)],rfl,(Zbw (fun n:Int=>Value.int .i64 n)).2 (.inr ⟨rfl,hne2,slack,cap,by rw [hm];exact hcap,by rw [hm],rfl⟩),rfl⟩ ?_
  simp (disch:=omega) [Vi]
  refine Wc l.length 0 (fun i t h=>t 5=N i∧t 1=N (k+i)∧h=h1++some ((Wu mI k i++l.drop i).map (fun x=>.sc ((fun n:Int=>Value.int .i64 n) x))++List.replicate slack .dead)::h2) (by simp [Wu]) (by omega) ?_
  rintro i t1 hh hf hi ⟨e5,e1,rfl⟩
  (have e0:=hf 0 (by kernel_rfl);clear hf;simp [] at e0)
  simp (disch:=omega) [e0,e1,e5]
  (with_reducible first | refine Qm (fun h5=>?_) (fun h5=>?_) | refine Qn (fun h5=>?_) (fun h5=>?_))
  ·simp only [Qf,Qd,Qi,Qh,Qc,Qb,Bool.not_true,Bool.not_false] at h5
   have hsp:=Zhn (fun n:Int=>Value.int .i64 n) mI k l (List.replicate slack .dead) i (by omega)
   simp (disch:=omega) [e0,e1,e5,Jb,Qg]
   exact ⟨by omega,by omega,by omega,by simpa [splice,mI,mB] using hsp⟩
  ·simp only [Qf,Qd,Qi,Qh,Qc,Qb,Bool.not_true,Bool.not_false] at h5
   simp (disch:=omega) [e1]
   refine QK (.inr rfl) (by simp) ⟨by simp;omega,[some ((Wu mI k l.length).map (fun x=>.sc ((fun n:Int=>Value.int .i64 n) x))++List.replicate slack .dead)],rfl,(Zbw (fun n:Int=>Value.int .i64 n)).2 (.inr ⟨rfl,hne2,slack,cap,by rw [hm];exact hcap,by rw [hm],rfl⟩),?_⟩
   rw [show i=l.length by omega];simp
theorem Zf1 (u nl:Bool) (l:List Bool) (k:Int) (hk:0≤k∧k+l.length≤4611686018427387904) (h1 h2:List Box) (y:LV) (bs:List Box) (ht:Th (OB u nl l) h1.length y bs) :
  QD Tryz.prog Kq [y,N k] (h1++bs++h2) (fun r h'=>r=N (k+l.length)∧∃ bs',bs'.length=bs.length∧Th (OB u nl (Wu mB k l.length)) h1.length y bs'∧h'=h1++bs'++h2):=by
 rcases (Zbw (fun b:Bool=>Value.bool b)).1 ht with ⟨rfl,rfl,rfl⟩ | ⟨rfl,hne,slack,cap,hcap,rfl,rfl⟩
 ·refine QD.of_codeOf Zbl Qz (by simp) ⟨_,_,rfl,[],rfl,(Zbw (fun b:Bool=>Value.bool b)).2 (.inl ⟨rfl,rfl,rfl⟩),rfl⟩ ?_
  simp (disch:=omega) [KH]
  refine Wc 0 0 (fun i t h=>t 5=N 0∧t 1=N k∧h=h1++h2) (by simp) (by omega) ?_
  rintro i t1 hh hf hi ⟨e5,e1,rfl⟩
  (have e0:=hf 0 (by kernel_rfl);clear hf;simp [] at e0)
  simp (disch:=omega) [e0,e1,e5]
  refine QK (.inr rfl) (by simp) ?_
  simp [Th,Wu]
 ·have hm:(Wu mB k l.length).length=l.length:=Jk _ k l.length
  have hne2:Wu mB k l.length≠[]:=by
   intro h;rw [h] at hm;exact hne (List.eq_nil_of_length_eq_zero (by simpa using hm.symm))
  refine QD.of_codeOf Zbl Qz (by simp) ⟨_,_,rfl,[some ((Wu mB k l.length).map (fun x=>.sc ((fun b:Bool=>Value.bool b) x))++List.replicate slack .dead)],rfl,(Zbw (fun b:Bool=>Value.bool b)).2 (.inr ⟨rfl,hne2,slack,cap,by rw [hm];exact hcap,by rw [hm],rfl⟩),rfl⟩ ?_
  simp (disch:=omega) [KH]
  refine Wc l.length 0 (fun i t h=>t 5=N i∧t 1=N (k+i)∧h=h1++some ((Wu mB k i++l.drop i).map (fun x=>.sc ((fun b:Bool=>Value.bool b) x))++List.replicate slack .dead)::h2) (by simp [Wu]) (by omega) ?_
  rintro i t1 hh hf hi ⟨e5,e1,rfl⟩
  (have e0:=hf 0 (by kernel_rfl);clear hf;simp [] at e0)
  simp (disch:=omega) [e0,e1,e5]
  (with_reducible first | refine Qm (fun h5=>?_) (fun h5=>?_) | refine Qn (fun h5=>?_) (fun h5=>?_))
  ·simp only [Qf,Qd,Qi,Qh,Qc,Qb,Bool.not_true,Bool.not_false] at h5
   have hsp:=Zhn (fun b:Bool=>Value.bool b) mB k l (List.replicate slack .dead) i (by omega)
   simp (disch:=omega) [e0,e1,e5,Jb,Qg]
   exact ⟨by omega,by omega,by omega,by simpa [splice,mI,mB] using hsp⟩
  ·simp only [Qf,Qd,Qi,Qh,Qc,Qb,Bool.not_true,Bool.not_false] at h5
   simp (disch:=omega) [e1]
   refine QK (.inr rfl) (by simp) ⟨by simp;omega,[some ((Wu mB k l.length).map (fun x=>.sc ((fun b:Bool=>Value.bool b) x))++List.replicate slack .dead)],rfl,(Zbw (fun b:Bool=>Value.bool b)).2 (.inr ⟨rfl,hne2,slack,cap,by rw [hm];exact hcap,by rw [hm],rfl⟩),?_⟩
   rw [show i=l.length by omega];simp
theorem Zg4 (nl:Bool) (k:Int) (n:Nat) (hk:0≤k∧k+n≤4611686018427387904):Qe Tryz.prog Jz [L nl (Wu mI k n),N k] (·=N (k+n)):=by
 refine Qe.of_codeOf ZhI Qz (by simp) ⟨_,rfl,by simp⟩ ?_
 have hlen:(Wu mI k n).length=n:=Jk _ k n
 simp (disch:=omega) [Zcg]
 refine Wc n 0 (fun i t _=>t 5=N i∧t 1=N (k+i)) (by simp) (by omega) ?_
 rintro i t1 hh hf hi ⟨e5,e1⟩
 (have e0:=hf 0 (by kernel_rfl);clear hf;simp [] at e0)
 simp (disch:=omega) [e0,e1,e5,hlen]
 (with_reducible first | refine Qm (fun h5=>?_) (fun h5=>?_) | refine Qn (fun h5=>?_) (fun h5=>?_))
 ·simp only [Qf,Qd,Qi,Qh,Qc,Qb,Bool.not_true,Bool.not_false] at h5
  have hg:(Wu mI k n)[i]'(by omega)=mI (k+i):=Zp0 mI k n i (by omega)
  simp (disch:=omega) [e0,e1,e5,Xq,hlen,hg]
  repeat' (first
  | (with_reducible (first | refine Qm (fun hb_=>?_) (fun hb_=>?_) | refine Qn (fun hb_=>?_) (fun hb_=>?_))<;>simp (disch:=omega) [hb_,e0,e1,e5,Xq,hlen,hg,mI,mB,Qg])
  | simp (disch:=omega) [e0,e1,e5,Xq,hlen,hg,mI,mB,Qg])
  all_goals first | omega | (simp [mI,mB] at hb_)
 ·simp only [Qf,Qd,Qi,Qh,Qc,Qb,Bool.not_true,Bool.not_false] at h5
  simp (disch:=omega) [e1]
  rw [show i=n by omega]
theorem Zj7 (u1 n1 u2 n2 u3 n3:Bool) (size:Int) (p t:List Int) (b:List Bool) (k:Int) (hk:0≤k∧k+(p.length+t.length+b.length)≤4611686018427387904) (h1 h2:List Box) (y1 y2 y3:LV) (b1 b2 b3:List Box)
  (t1:Th (OU u1 n1 p) h1.length y1 b1) (t2:Th (OU u2 n2 t) (h1++b1).length y2 b2) (t3:Th (OB u3 n3 b) (h1++b1++b2).length y3 b3) :
  QD Tryz.prog ZB [.agg [N size,y1,y2,y3],N k] (h1++b1++b2++b3++h2) (fun r h'=>r=N (k+p.length+t.length+b.length)∧∃ c1 c2 c3,c1.length=b1.length∧c2.length=b2.length∧c3.length=b3.length ∧
   Th (OU u1 n1 (Wu mI k p.length)) h1.length y1 c1∧Th (OU u2 n2 (Wu mI (k+p.length) t.length)) (h1++c1).length y2 c2∧Th (OB u3 n3 (Wu mB (k+p.length+t.length) b.length)) (h1++c1++c2).length y3 c3∧∃ ex,h'=h1++c1++c2++c3++h2++ex):=by
 have s1:=Th.share _ _ _ _ t1
 have s2:=Th.share _ _ _ _ t2
 have s3:=Th.share _ _ _ _ t3
 have big:∀ (l:List Int),(Wu mI k l.length).length=l.length:=fun l=>Jk _ _ _
 obtain ⟨H,hH⟩:∃ H,h1++b1++b2++b3++h2=H:=⟨_,rfl⟩
 rw [hH]
 have m1:=KZ u1 n1 p k (by omega) h1 (b2++b3++h2++[none]) y1 b1 t1
 rw [show h1++b1++(b2++b3++h2++[none])=H++[none] by rw [← hH];simp] at m1
 refine QD.of_codeOf Zfg Qz (by simp) ?_ ?_
 ·obtain ⟨r1,_,rfl,c1,l1,g1,rfl⟩:=m1.2.1
  obtain ⟨r2,_,rfl,c2,l2,g2,rfl⟩:=(KZ u2 n2 t (k+p.length) (by omega) (h1++c1) (b3++h2++[none]) y2 b2 (by rw [List.length_append,l1,← List.length_append];exact t2)).2.1
  obtain ⟨r3,_,rfl,c3,l3,g3,rfl⟩:=(Zf1 u3 n3 b (k+p.length+t.length) (by omega) (h1++c1++c2) (h2++[none]) y3 b3 (by simp only [List.length_append,l1,l2] at t3 ⊢;exact t3)).2.1
  exact ⟨_,_,rfl,c1,c2,c3,l1,l2,l3,g1,g2,g3,[],rfl⟩
 ·simp (disch:=omega) [Zau,Qu,Qo,s1,s2,s3]
  refine Qk m1 ?_
  rintro r h' ⟨rfl,c1,l1,g1,rfl⟩
  have m2:=KZ u2 n2 t (k+p.length) (by omega) (h1++c1) (b3++h2++[none]) y2 b2 (by rw [List.length_append,l1,← List.length_append];exact t2)
  rw [show h1++c1++b2++(b3++h2++[none])=h1++c1++(b2++b3++h2++[none]) by simp] at m2
  generalize hH2:h1++c1++(b2++b3++h2++[none])=H2 at *
  simp (disch:=omega) [s1,s2,s3]
  refine Qk m2 ?_
  rintro r h' ⟨rfl,c2,l2,g2,rfl⟩
  have m3:=Zf1 u3 n3 b (k+p.length+t.length) (by omega) (h1++c1++c2) (h2++[none]) y3 b3 (by simp only [List.length_append,l1,l2] at t3 ⊢;exact t3)
  rw [show h1++c1++c2++b3++(h2++[none])=h1++c1++c2++(b3++h2++[none]) by simp] at m3
  generalize hH3:h1++c1++c2++(b3++h2++[none])=H3 at *
  simp (disch:=omega) [s1,s2,s3]
  refine Qk m3 ?_
  rintro r h' ⟨rfl,c3,l3,g3,rfl⟩
  simp (disch:=omega) [s1,s2,s3]
  have hl:=congrArg List.length hH
  simp only [List.length_append] at hl
  refine QK (.inr rfl) (by simp;omega) ⟨by simp,c1,l1,c2,l2,c3,l3,g1,by simpa using g2,by simpa using g3,[none],by simp⟩
open Go.Proofs.YtbmepminmpjlcaaGreat.Ty
theorem frz_at {H:List Box} {p sz n cap:Nat} {xs:List LV} (hl:H[p]?=some (some xs)) (hx:xs.length=cap * sz) (hn:n≤cap):Qo H (.ha p sz 0 n cap)=some (.sl true false sz (Ql sz n xs),H.set p none):=by
 simp only [Qo,hl]
 rw [if_pos ⟨hx,hn⟩]
theorem ZoW (l : List Int) (ex : List LV) : ∀ n, n ≤ l.length → Ql 1 n (l.map N ++ ex) = (l.take n).map fun x => [N x] := by
  induction l with
  | nil => intro n hn; have : n = 0 := by simpa using hn
           subst this; rfl
  | cons a l ih =>
    intro n hn
    cases n with
    | zero => rfl
    | succ n =>
      have := ih n (by simpa using hn)
      simp only [Ql, List.map_cons, List.cons_append, List.take_succ_cons, List.take_zero, List.drop_succ_cons, List.drop_zero, this]
theorem Zhe (l:List Int) (ex:List LV) (i:Nat) (v:Int) (h:i < l.length):splice (l.map N++ex) i [N v]=(l.set i v).map N++ex:=by
 unfold splice
 rw [List.take_append_of_le_length (by simp;omega),List.drop_append_of_le_length (by simp;omega),List.set_eq_take_append_cons_drop,if_pos h]
 simp
theorem Zmb (l:List Int) (ex:List LV) (i:Nat) (v:Int) (h:i < l.length):Ql 1 l.length (List.take i (l.map N++ex)++N v::List.drop (i+1) (l.map N++ex))=(l.set i v).map fun x=>[N x]:=by
 have h1:=Zhe l ex i v h
 have e:List.take i (l.map N++ex)++N v::List.drop (i+1) (l.map N++ex)=splice (l.map N++ex) i [N v]:=by unfold splice;simp
 rw [e,h1]
 have h2:=ZoW (l.set i v) ex l.length (by simp)
 rw [h2,List.take_of_length_le (by simp)]
theorem RT.codes:∀ (t:RT),t.ok→∀ n∈t.flat,0≤n∧n≤36
 | .nd c ks,h,n,hn=>by
  simp only [RT.ok] at h
  simp only [RT.flat,List.mem_cons] at hn
  rcases hn with rfl | hn
  ·exact Zdo h.1
  ·exact codesAll ks h.2 n hn
where
 codesAll:∀ (ts:List RT),oks ts→∀ n∈WN ts,0≤n∧n≤36
  | [],_,n,hn=>by simp [WN] at hn
  | t::ts,h,n,hn=>by
   simp only [oks] at h
   simp only [WN,List.mem_append] at hn
   rcases hn with hn | hn
   ·exact RT.codes t h.1 n hn
   ·exact codesAll ts h.2 n hn
theorem kids0 {ks:List GTerm} (h:(ks.length:Int)=0):ks=[]:=by cases ks with
 | nil=>rfl
 | cons a l=>simp at h;omega
theorem kids1 {ks:List GTerm} (h:(ks.length:Int)=1):∃ a,ks=[a]:=by
 match ks,h with
 | [a],_=>exact ⟨a,rfl⟩
 | [],h=>simp at h
 | _::_::_,h=>simp at h;omega
theorem Zoe {ks:List GTerm} (h:(ks.length:Int)=2):∃ a b,ks=[a,b]:=by
 match ks,h with
 | [a,b],_=>exact ⟨a,b,rfl⟩
 | [],h=>simp at h
 | [_],h=>simp at h
 | _::_::_::_,h=>simp at h;omega
theorem kids3 {ks:List GTerm} (h:(ks.length:Int)=3):∃ a b c,ks=[a,b,c]:=by
 match ks,h with
 | [a,b,c],_=>exact ⟨a,b,c,rfl⟩
 | [],h=>simp at h
 | [_],h=>simp at h
 | [_,_],h=>simp at h
 | _::_::_::_::_,h=>simp at h;omega
theorem Zn6 {s:GSys} {cx:List (List Int)} {op n:Int} {nl1 nl2:Bool} {gty:List Int} {a:GTerm} {ks:List GTerm} {x:TT} (h:Qr s (Qx op gty 0 []++cx) a=.ok x) (h2:QT s op n 0 (hd x.ty)≠0) :
  Qr s cx (.mk op n nl1 gty nl2 (a::ks))=.bad (QT s op n 0 (hd x.ty)) []:=by
 have h':Qr s (Qx op gty 0 (first [])++cx) a=.ok x:=h
 simp [Qr,Wf,h',h2]
theorem Zbx {ty nd:List Int} {ks:List TT} {r:LV} (h:(ZiM ty nd).told r):(Z8 ty nd ks).told r:=by
 unfold ZiM at h
 unfold Z8
 split at h
 ·rename_i q;rw [if_pos q];exact h
 ·rename_i q;rw [if_neg q];exact h
theorem Zif {s:GSys} (g:Int):∀ (a b:List Int),ZeG s a g b=YL s a (Wa s g b)
 | [],b=>by simp [ZeG,YL]
 | x::a,[]=>by simp [ZeG,YL,Wa]
 | x::a,y::b=>by
  have:=Zif (s:=s) g a b
  simp only [ZeG,YL,Wa,List.zipWith_cons_cons,List.map_cons] at this ⊢
  rw [this]
structure KidT (s:GSys) (cx:WZ) (k:GTerm):Prop where
 tell:∀ nl,Qe Tryz.prog WL [s.lv,LC nl cx,k.lv] (Qr s (cx.map Prod.snd) k).told
 good:∀ y,Qr s (cx.map Prod.snd) k=.ok y→y.good s cx.length
 small:k.size≤1000000
theorem Zrl {s:GSys} (hsy:s.sys=true) (d:Nat):∀ (g:GTerm) (nlc:Bool) (ctx:WZ),g.size≤d→g.wf→g.fl→(∀ c∈ctx,okL s.size c.2=true)→(∀ c∈ctx,c.1=false)→ctx.length+2 * g.size≤100000→Zk ctx.length s.size true g=true →
  Qe Tryz.prog WL [s.lv,LC nlc ctx,g.lv] (Qr s (ctx.map Prod.snd) g).told:=by
 induction d with
 | zero=>intro g _ _ h;have:=g.size_pos;omega
 | succ d ih =>
  rintro ⟨op,n,nl1,gty,nl2,ks⟩ nlc ctx hsz hw hfl hc hcf hlen hform
  have t:=GSys.sys_of hsy
  have h16:=t.hi
  simp only [Zk,Bool.and_eq_true] at hform
  obtain ⟨hnode,hforms⟩:=hform
  have no:=ZdO hnode
  simp only [GTerm.wf] at hw
  obtain ⟨wop,wn,wty,wk,wks⟩:=hw
  simp only [GTerm.fl] at hfl
  obtain ⟨fl1,flk⟩:=hfl
  simp only [GTerm.size] at hsz hlen
  obtain ⟨many,hvar,hgr,hty,o1,o2⟩:=no
  have kid:∀ (i:Nat) (hi:i < ks.length) (more:WZ),more.length=(Qy op i).toNat→(∀ c∈more,okL s.size c.2=true)→(∀ c∈more,c.1=false)→KidT s (more++ctx) ks[i]:=by
   intro i hi more hml hmo hmf
   have ha:=K3 op i
   have hf:=ZfU hforms i hi
   simp only [Nat.zero_add] at hf
   have hks:=Yx hi
   have e:(((more++ctx).length:Nat):Int)=ctx.length+Qy op i:=by rw [List.length_append];omega
   have hok:∀ c∈more++ctx,okL s.size c.2=true:=fun c h=>(List.mem_append.1 h).elim (hmo c) (hc c)
   have hfl':∀ c∈more++ctx,c.1=false:=fun c h=>(List.mem_append.1 h).elim (hmf c) (hcf c)
   refine ⟨fun nl=>ih ks[i] nl (more++ctx) (by omega) ((ZaC.1 wks) _ (List.getElem_mem hi)) ((Zas.1 flk) _ (List.getElem_mem hi)) hok hfl' (by rw [List.length_append];omega) (by rw [e];exact hf),fun y hy=>?_,by omega⟩
   have:=V6 t ks[i] ((more++ctx).map Prod.snd) y (fun l hl=>by
    obtain ⟨c,h1,rfl⟩:=List.mem_map.1 hl
    exact hok c h1) (by rw [List.length_map,e];exact hf) hy
   rw [List.length_map] at this
   exact this
  have hops:op=0∨op=1∨op=2∨op=3∨op=4∨op=5∨op=6∨op=7∨op=8∨op=9∨op=10∨op=11∨op=12:=by omega
  have hz:eqB 0 0=true:=by rw [Qc]
  have hm:ctx.length≤100000:=by omega
  refine Qe.of_codeOf ZkF Qz (by simp) (ZaB _ fun f p h=>Zp _ _ f p h) ?_
  rcases hops with e | e | e | e | e | e | e | e | e | e | e | e | e
  all_goals subst e
  all_goals simp [Xp] at many
  ·
   obtain rfl:ks=[]:=by first | exact many | exact kids0 (by omega)
   obtain ⟨v0,v1⟩:=hvar rfl
   obtain ⟨v,rfl⟩:∃ v:Nat,n=v:=⟨n.toNat,by omega⟩
   have hv:v < ctx.length:=by omega
   have hx:=Zdf ctx nlc v hv
   have hxo:=hc _ (List.getElem_mem hv)
   have hxf:=hcf _ (List.getElem_mem hv)
   have hget:(ctx.map Prod.snd).getD v []=ctx[v].2:=by simp [List.getD_eq_getElem?_getD,hv]
   generalize ctx[v]=c at hx hxo hxf hget
   obtain ⟨cf,cl⟩:=c
   simp only at hxo hxf hget
   subst hxf
   have hlen2:=QV hxo
   rw [tell_var,show ((v:Int)).toNat=v by omega,hget,List.length_map]
   simp (disch:=omega) [WB,Qu,Qo,GTerm.cells,hz]
   refine Zay (VL ctx.length (by omega)) (by simp only [WK,Zw];exact ⟨_,[],rfl,rfl,rfl⟩) (by rintro r rfl;exact Kd (fun n:Int=>Value.int .i64 n) true false _ (.inr ⟨rfl,rfl⟩)) ?_
   rintro tz y bs rfl hth
   rcases (Zbw (fun n:Int=>Value.int .i64 n)).1 hth with ⟨h0,_,_⟩ | ⟨_,hne,slack,cap,⟨hcap,hsl⟩,rfl,rfl⟩
   ·exfalso
    have h9:=congrArg List.length h0
    rw [show (zeros ctx.length).length=ctx.length by simp [zeros]] at h9
    have h9:ctx.length=0:=h9
    omega
   have hzl:(zeros ctx.length).length=ctx.length:=by simp [zeros]
   clear hth
   have hst:=Zmb (zeros ctx.length) (List.replicate slack .dead) v 1 (by omega)
   have hsp:=Zhe (zeros ctx.length) (List.replicate slack .dead) v 1 (by omega)
   simp (disch:=omega) [hx,Jb (show v < (zeros ctx.length).length by omega)]
   refine ⟨by omega,?_⟩
   rw [frz_at (xs:=List.take v ((zeros ctx.length).map N++List.replicate slack .dead)++N 1::List.drop (v+1) ((zeros ctx.length).map N++List.replicate slack .dead)) (by simp) (by simp;omega) hcap,hst]
   generalize (zeros ctx.length).set v 1=zz
   simp (disch:=omega) [hx]
   refine Qa (JN false cl (by omega)) (by simp) ?_
   simp (disch:=omega)
   exact ⟨true,true,true,true,by simp⟩
  ·
   obtain rfl:ks=[]:=by first | exact many | exact kids0 (by omega)
   have e10:eqB 1 0=false:=by rw [Qb];omega
   have e11:eqB 1 1=true:=by rw [Qc]
   rw [Zou]
   simp (disch:=omega) [WB,Qu,Qo,GTerm.cells,e10,e11,Ql]
   refine Qa (VL ctx.length (by omega)) (by simp) ?_
   simp (disch:=omega)
   exact ⟨true,true,true,true,by simp⟩
  ·obtain ⟨a,b,rfl⟩:=Zoe (by omega)
   have ka:=kid 0 (by simp) [] (by simp [Qy]) (by simp) (by simp)
   simp only [List.nil_append,List.getElem_cons_zero] at ka
   have kb:=kid 1 (by simp) [] (by simp [Qy]) (by simp) (by simp)
   simp only [List.nil_append,List.getElem_cons_succ,List.getElem_cons_zero] at kb
   have E:∀ k:Int,k≠2→eqB 2 k=false:=fun k h=>by rw [Qb];omega
   have E2:eqB 2 2=true:=by rw [Qc]
   have a0:Qx 2 gty 0 []++ctx.map Prod.snd=ctx.map Prod.snd:=by simp [Qx,Qy]
   have of:=XT s 2 n nl1 gty nl2 [a,b] 0 (by simp) nlc ctx _ (Wy ka.small) (ka.tell nlc)
   simp only [GTerm.lv,GTerm.cells] at of
   simp (disch:=omega) [WB,Qu,Qo,GTerm.cells,E,E2]
   refine Qp (Qe.low of) (by simp) ?_
   rintro r ⟨hr,lo⟩
   cases hA:Qr s (ctx.map Prod.snd) a with
   | bad f p =>
    rw [hA] at hr
    simp only [ofR] at hr
    obtain ⟨hf,u1,u2,u4,n4',rfl⟩:=hr
    have hf0:eqB f 0=false:=by rw [Qb];exact hf
    rw [YQ (by rw [a0];exact hA)]
    simp (disch:=omega) [Qu,Qo,hf0]
    exact ⟨hf,false,false,false,n4',by simp⟩
   | ok x =>
    have hxg:=ka.good x hA
    rw [hA] at hr
    simp only [ofR] at hr
    obtain ⟨u1,u2,u4,n4',rfl⟩:=hr
    have hx:=Yn hxg.1
    have lx:=QV hxg.1
    have hxi:QS 1 (L false x.ty) 0=some (.rp [N (hd x.ty)]):=Je hx.2.2.2.1
    by_cases q:hd x.ty=0
    ·have hq:eqB (hd x.ty) 0=true:=by rw [Qc];exact q
     simp (disch:=omega) [Qu,Qo,hz,hxi,hq,E,E2]
     have tk:=ZjX hsy nlc ctx hm n nl1 gty nl2 a b x n4' hxg hA q kb.small (kb.tell nlc) kb.good
     simp only [GTerm.lv,GTerm.cells] at tk
     refine Qp (Qe.low tk) (by simp) ?_
     rintro r ⟨hr,lo⟩
     cases hT:Qr s (ctx.map Prod.snd) (GTerm.mk 2 n nl1 gty nl2 [a,b]) with
     | ok z =>
      rw [hT] at hr
      obtain ⟨v1,v2,v4,m4,rfl⟩:=hr
      simp (disch:=omega)
      exact ⟨v1,v2,v4,m4,by simp⟩
     | bad f p =>
      rw [hT] at hr
      obtain ⟨hf,v1,v2,v4,m4,rfl⟩:=hr
      simp (disch:=omega)
      exact ⟨hf,v1,v2,v4,m4,by simp⟩
    ·have hq:eqB (hd x.ty) 0=false:=by rw [Qb];exact q
     have fo:=fo_add (n:=n) (i:=0) hxg.1
     rw [if_neg q] at fo
     rw [Zn6 (by rw [a0];exact hA) (by rw [fo];omega),fo]
     simp (disch:=omega) [Qu,Qo,hz,hxi,hq,E,E2]
     refine Qp (Qe.low (Xn 2 (by omega))) (by simp) ?_
     rintro r ⟨⟨h3,w1,w2,w4,k4,rfl⟩,lo⟩
     simp (disch:=omega)
     exact ⟨by omega,w1,w2,w4,k4,by simp⟩
  ·obtain ⟨a,b,c,rfl⟩:=kids3 (by omega)
   have ka:=kid 0 (by simp) [] (by simp [Qy]) (by simp) (by simp)
   simp only [List.nil_append,List.getElem_cons_zero] at ka
   have kb:=kid 1 (by simp) [] (by simp [Qy]) (by simp) (by simp)
   simp only [List.nil_append,List.getElem_cons_succ,List.getElem_cons_zero] at kb
   have kc:=kid 2 (by simp) [] (by simp [Qy]) (by simp) (by simp)
   simp only [List.nil_append,List.getElem_cons_succ,List.getElem_cons_zero] at kc
   have E:∀ k:Int,k≠3→eqB 3 k=false:=fun k h=>by rw [Qb];omega
   have E2:eqB 3 3=true:=by rw [Qc]
   have a0:Qx 3 gty 0 []++ctx.map Prod.snd=ctx.map Prod.snd:=by simp [Qx,Qy]
   have of:=XT s 3 n nl1 gty nl2 [a,b,c] 0 (by simp) nlc ctx _ (Wy ka.small) (ka.tell nlc)
   simp only [GTerm.lv,GTerm.cells] at of
   simp (disch:=omega) [WB,Qu,Qo,GTerm.cells,E,E2]
   refine Qp (Qe.low of) (by simp) ?_
   rintro r ⟨hr,lo⟩
   cases hA:Qr s (ctx.map Prod.snd) a with
   | bad f p =>
    rw [hA] at hr
    simp only [ofR] at hr
    obtain ⟨hf,u1,u2,u4,n4',rfl⟩:=hr
    have hf0:eqB f 0=false:=by rw [Qb];exact hf
    rw [YQ (by rw [a0];exact hA)]
    simp (disch:=omega) [Qu,Qo,hf0]
    exact ⟨hf,false,false,false,n4',by simp⟩
   | ok x =>
    have hxg:=ka.good x hA
    rw [hA] at hr
    simp only [ofR] at hr
    obtain ⟨u1,u2,u4,n4',rfl⟩:=hr
    have hx:=Yn hxg.1
    have lx:=QV hxg.1
    have hxi:QS 1 (L false x.ty) 0=some (.rp [N (hd x.ty)]):=Je hx.2.2.2.1
    by_cases q:hd x.ty=0
    ·have hq:eqB (hd x.ty) 0=true:=by rw [Qc];exact q
     simp (disch:=omega) [Qu,Qo,hz,hxi,hq,E,E2]
     have tk:=ZmJ hsy nlc ctx hm n nl1 gty nl2 a b c x n4' hxg hA q kb.small kc.small (kb.tell nlc) kb.good (kc.tell nlc) kc.good
     simp only [GTerm.lv,GTerm.cells] at tk
     refine Qp (Qe.low tk) (by simp) ?_
     rintro r ⟨hr,lo⟩
     cases hT:Qr s (ctx.map Prod.snd) (GTerm.mk 3 n nl1 gty nl2 [a,b,c]) with
     | ok z =>
      rw [hT] at hr
      obtain ⟨v1,v2,v4,m4,rfl⟩:=hr
      simp (disch:=omega)
      exact ⟨v1,v2,v4,m4,by simp⟩
     | bad f p =>
      rw [hT] at hr
      obtain ⟨hf,v1,v2,v4,m4,rfl⟩:=hr
      simp (disch:=omega)
      exact ⟨hf,v1,v2,v4,m4,by simp⟩
    ·have hq:eqB (hd x.ty) 0=false:=by rw [Qb];exact q
     have fo:=fo_if0 (n:=n) hxg.1
     rw [if_neg q] at fo
     rw [Zn6 (by rw [a0];exact hA) (by rw [fo];omega),fo]
     simp (disch:=omega) [Qu,Qo,hz,hxi,hq,E,E2]
     refine Qp (Qe.low (Xn 2 (by omega))) (by simp) ?_
     rintro r ⟨⟨h3,w1,w2,w4,k4,rfl⟩,lo⟩
     simp (disch:=omega)
     exact ⟨by omega,w1,w2,w4,k4,by simp⟩
  ·obtain ⟨a,b,rfl⟩:=Zoe (by omega)
   have ka:=kid 0 (by simp) [] (by simp [Qy]) (by simp) (by simp)
   simp only [List.nil_append,List.getElem_cons_zero] at ka
   have kb:=kid 1 (by simp) [] (by simp [Qy]) (by simp) (by simp)
   simp only [List.nil_append,List.getElem_cons_succ,List.getElem_cons_zero] at kb
   have E:∀ k:Int,k≠4→eqB 4 k=false:=fun k h=>by rw [Qb];omega
   have E2:eqB 4 4=true:=by rw [Qc]
   have a0:Qx 4 gty 0 []++ctx.map Prod.snd=ctx.map Prod.snd:=by simp [Qx,Qy]
   have of:=XT s 4 n nl1 gty nl2 [a,b] 0 (by simp) nlc ctx _ (Wy ka.small) (ka.tell nlc)
   simp only [GTerm.lv,GTerm.cells] at of
   simp (disch:=omega) [WB,Qu,Qo,GTerm.cells,E,E2]
   refine Qp (Qe.low of) (by simp) ?_
   rintro r ⟨hr,lo⟩
   cases hA:Qr s (ctx.map Prod.snd) a with
   | bad f p =>
    rw [hA] at hr
    simp only [ofR] at hr
    obtain ⟨hf,u1,u2,u4,n4',rfl⟩:=hr
    have hf0:eqB f 0=false:=by rw [Qb];exact hf
    rw [YQ (by rw [a0];exact hA)]
    simp (disch:=omega) [Qu,Qo,hf0]
    exact ⟨hf,false,false,false,n4',by simp⟩
   | ok x =>
    have hxg:=ka.good x hA
    rw [hA] at hr
    simp only [ofR] at hr
    obtain ⟨u1,u2,u4,n4',rfl⟩:=hr
    have hx:=Yn hxg.1
    have lx:=QV hxg.1
    have hxi:QS 1 (L false x.ty) 0=some (.rp [N (hd x.ty)]):=Je hx.2.2.2.1
    simp (disch:=omega) [Qu,Qo,hz,hxi,E,E2]
    rw [Zrh hA]
    have of2:=XT s 4 n nl1 gty nl2 [a,b] 1 (by simp) nlc ctx _ (Wy kb.small) (kb.tell nlc)
    simp only [GTerm.lv,GTerm.cells] at of2
    refine Qp (Qe.low of2) (by simp) ?_
    rintro r ⟨hr,lo⟩
    cases hB:Qr s (ctx.map Prod.snd) b with
    | bad f p =>
     rw [hB] at hr
     simp only [ofR] at hr
     obtain ⟨hf,v1,v2,v4,m4',rfl⟩:=hr
     have hf0:eqB f 0=false:=by rw [Qb];exact hf
     simp (disch:=omega) [Qu,Qo,hf0]
     exact ⟨hf,false,false,false,m4',by simp⟩
    | ok y =>
     have hyg:=kb.good y hB
     rw [hB] at hr
     simp only [ofR] at hr
     obtain ⟨v1,v2,v4,m4',rfl⟩:=hr
     have ly:=QV hyg.1
     have s1:=Zg t false false x.needs 1 (GSys.G1 t) y.needs (by rw [hxg.2.1];omega) (by rw [hxg.2.1,hyg.2.1]) hxg.2.2 hyg.2.2
     rw [ZaE hsy _ _ hyg.2.2] at s1
     obtain ⟨z,hzz⟩:∃ z,z=1::(x.ty++y.ty):=⟨_,rfl⟩
     have gl:=ZbM 1 false false false x.ty y.ty (by omega) (by omega)
     dsimp only
     rw [← hzz] at gl ⊢
     simp (disch:=omega) [Qu,Qo,hz,Ql]
     refine Qa gl (by simp) ?_
     simp (disch:=omega)
     refine Qa s1 (by simp) ?_
     simp (disch:=omega)
     have dn:=Zbv z (YL s x.needs y.needs)
     refine Qp (Qe.low dn) (by simp) ?_
     rintro r ⟨hr,lo⟩
     have hl:=Zbx (ks:=[x,y]) hr
     unfold Z8 at hl ⊢
     by_cases q9:z.length≤40
     ·rw [if_pos q9] at hl ⊢
      obtain ⟨v1,v2,v4,m4,rfl⟩:=hl
      simp (disch:=omega)
      exact ⟨v1,v2,v4,m4,by simp⟩
     ·rw [if_neg q9] at hl ⊢
      obtain ⟨hf,v1,v2,v4,m4,rfl⟩:=hl
      simp (disch:=omega)
      exact ⟨hf,v1,v2,v4,m4,by simp⟩
  ·obtain ⟨a,b,rfl⟩:=Zoe (by omega)
   have ka:=kid 0 (by simp) [] (by simp [Qy]) (by simp) (by simp)
   simp only [List.nil_append,List.getElem_cons_zero] at ka
   have E:∀ k:Int,k≠5→eqB 5 k=false:=fun k h=>by rw [Qb];omega
   have E2:eqB 5 5=true:=by rw [Qc]
   have a0:Qx 5 gty 0 []++ctx.map Prod.snd=ctx.map Prod.snd:=by simp [Qx,Qy]
   have of:=XT s 5 n nl1 gty nl2 [a,b] 0 (by simp) nlc ctx _ (Wy ka.small) (ka.tell nlc)
   simp only [GTerm.lv,GTerm.cells] at of
   simp (disch:=omega) [WB,Qu,Qo,GTerm.cells,E,E2]
   refine Qp (Qe.low of) (by simp) ?_
   rintro r ⟨hr,lo⟩
   cases hA:Qr s (ctx.map Prod.snd) a with
   | bad f p =>
    rw [hA] at hr
    simp only [ofR] at hr
    obtain ⟨hf,u1,u2,u4,n4',rfl⟩:=hr
    have hf0:eqB f 0=false:=by rw [Qb];exact hf
    rw [YQ (by rw [a0];exact hA)]
    simp (disch:=omega) [Qu,Qo,hf0]
    exact ⟨hf,false,false,false,n4',by simp⟩
   | ok x =>
    have hxg:=ka.good x hA
    rw [hA] at hr
    simp only [ofR] at hr
    obtain ⟨u1,u2,u4,n4',rfl⟩:=hr
    have hx:=Yn hxg.1
    have lx:=QV hxg.1
    have hxi:QS 1 (L false x.ty) 0=some (.rp [N (hd x.ty)]):=Je hx.2.2.2.1
    have kb:hd x.ty=1→KidT s ([(false,Wj x.ty),(false,QJ x.ty)]++ctx) b:=fun q=>by
     have two:=ZZ hxg.1 (by rw [q];exact Yr.1)
     have:=kid 1 (by simp) [(false,Wj x.ty),(false,QJ x.ty)] (by simp [Qy]) (by simp [two.2.1,two.2.2]) (by simp)
     simpa using this
    have hgn:=hgr (by simp [Yd,Qc])
    simp (disch:=omega) [Qu,Qo,hz,hxi,E,E2]
    have tk:=Zkt hsy nlc ctx hm n nl1 gty nl2 a b x n4' hgn hxg hA (by have:=Yx (ks:=[a,b]) (i:=1) (by simp);simp at this;omega) (fun q=>(kb q).tell false) (fun q y hy=>(kb q).good y hy)
    simp only [GTerm.lv,GTerm.cells] at tk
    refine Qp (Qe.low tk) (by simp) ?_
    rintro r ⟨hr,lo⟩
    cases hT:Qr s (ctx.map Prod.snd) (GTerm.mk 5 n nl1 gty nl2 [a,b]) with
    | ok z =>
     rw [hT] at hr
     obtain ⟨v1,v2,v4,m4,rfl⟩:=hr
     simp (disch:=omega)
     exact ⟨v1,v2,v4,m4,by simp⟩
    | bad f p =>
     rw [hT] at hr
     obtain ⟨hf,v1,v2,v4,m4,rfl⟩:=hr
     simp (disch:=omega)
     exact ⟨hf,v1,v2,v4,m4,by simp⟩
  ·obtain ⟨a,rfl⟩:=kids1 (by omega)
   have ka:=kid 0 (by simp) [] (by simp [Qy]) (by simp) (by simp)
   simp only [List.nil_append,List.getElem_cons_zero] at ka
   have E:∀ k:Int,k≠6→eqB 6 k=false:=fun k h=>by rw [Qb];omega
   have E2:eqB 6 6=true:=by rw [Qc]
   have a0:Qx 6 gty 0 []++ctx.map Prod.snd=ctx.map Prod.snd:=by simp [Qx,Qy]
   have of:=XT s 6 n nl1 gty nl2 [a] 0 (by simp) nlc ctx _ (Wy ka.small) (ka.tell nlc)
   simp only [GTerm.lv,GTerm.cells] at of
   simp (disch:=omega) [WB,Qu,Qo,GTerm.cells,E,E2]
   refine Qp (Qe.low of) (by simp) ?_
   rintro r ⟨hr,lo⟩
   cases hA:Qr s (ctx.map Prod.snd) a with
   | bad f p =>
    rw [hA] at hr
    simp only [ofR] at hr
    obtain ⟨hf,u1,u2,u4,n4',rfl⟩:=hr
    have hf0:eqB f 0=false:=by rw [Qb];exact hf
    rw [YQ (by rw [a0];exact hA)]
    simp (disch:=omega) [Qu,Qo,hf0]
    exact ⟨hf,false,false,false,n4',by simp⟩
   | ok x =>
    have hxg:=ka.good x hA
    rw [hA] at hr
    simp only [ofR] at hr
    obtain ⟨u1,u2,u4,n4',rfl⟩:=hr
    have hx:=Yn hxg.1
    have lx:=QV hxg.1
    have hxi:QS 1 (L false x.ty) 0=some (.rp [N (hd x.ty)]):=Je hx.2.2.2.1
    have hgt:=hty (by simp [XC,Qc])
    have lg:=QV hgt
    rw [ZqT hA]
    obtain ⟨z,hzz⟩:∃ z,z=2::(x.ty++gty):=⟨_,rfl⟩
    have gl:=ZbM 2 false false nl1 x.ty gty (by omega) (by omega)
    rw [← hzz] at gl ⊢
    simp (disch:=omega) [Qu,Qo,hz,hxi,E,E2,Ql]
    refine Qa gl (by simp) ?_
    simp (disch:=omega)
    have dn:=Zbv z x.needs
    refine Qp (Qe.low dn) (by simp) ?_
    rintro r ⟨hr,lo⟩
    have hl:=Zbx (ks:=[x]) hr
    unfold Z8 at hl ⊢
    by_cases q9:z.length≤40
    ·rw [if_pos q9] at hl ⊢
     obtain ⟨v1,v2,v4,m4,rfl⟩:=hl
     simp (disch:=omega)
     exact ⟨v1,v2,v4,m4,by simp⟩
    ·rw [if_neg q9] at hl ⊢
     obtain ⟨hf,v1,v2,v4,m4,rfl⟩:=hl
     simp (disch:=omega)
     exact ⟨hf,v1,v2,v4,m4,by simp⟩
  ·obtain ⟨a,rfl⟩:=kids1 (by omega)
   have ka:=kid 0 (by simp) [] (by simp [Qy]) (by simp) (by simp)
   simp only [List.nil_append,List.getElem_cons_zero] at ka
   have E:∀ k:Int,k≠7→eqB 7 k=false:=fun k h=>by rw [Qb];omega
   have E2:eqB 7 7=true:=by rw [Qc]
   have a0:Qx 7 gty 0 []++ctx.map Prod.snd=ctx.map Prod.snd:=by simp [Qx,Qy]
   have of:=XT s 7 n nl1 gty nl2 [a] 0 (by simp) nlc ctx _ (Wy ka.small) (ka.tell nlc)
   simp only [GTerm.lv,GTerm.cells] at of
   simp (disch:=omega) [WB,Qu,Qo,GTerm.cells,E,E2]
   refine Qp (Qe.low of) (by simp) ?_
   rintro r ⟨hr,lo⟩
   cases hA:Qr s (ctx.map Prod.snd) a with
   | bad f p =>
    rw [hA] at hr
    simp only [ofR] at hr
    obtain ⟨hf,u1,u2,u4,n4',rfl⟩:=hr
    have hf0:eqB f 0=false:=by rw [Qb];exact hf
    rw [YQ (by rw [a0];exact hA)]
    simp (disch:=omega) [Qu,Qo,hf0]
    exact ⟨hf,false,false,false,n4',by simp⟩
   | ok x =>
    have hxg:=ka.good x hA
    rw [hA] at hr
    simp only [ofR] at hr
    obtain ⟨u1,u2,u4,n4',rfl⟩:=hr
    have hx:=Yn hxg.1
    have lx:=QV hxg.1
    have hxi:QS 1 (L false x.ty) 0=some (.rp [N (hd x.ty)]):=Je hx.2.2.2.1
    have hgt:=hty (by simp [XC,Qc])
    have lg:=QV hgt
    rw [Zpa hA]
    obtain ⟨z,hzz⟩:∃ z,z=2::(gty++x.ty):=⟨_,rfl⟩
    have gl:=ZbM 2 false nl1 false gty x.ty (by omega) (by omega)
    rw [← hzz] at gl ⊢
    simp (disch:=omega) [Qu,Qo,hz,hxi,E,E2,Ql]
    refine Qa gl (by simp) ?_
    simp (disch:=omega)
    have dn:=Zbv z x.needs
    refine Qp (Qe.low dn) (by simp) ?_
    rintro r ⟨hr,lo⟩
    have hl:=Zbx (ks:=[x]) hr
    unfold Z8 at hl ⊢
    by_cases q9:z.length≤40
    ·rw [if_pos q9] at hl ⊢
     obtain ⟨v1,v2,v4,m4,rfl⟩:=hl
     simp (disch:=omega)
     exact ⟨v1,v2,v4,m4,by simp⟩
    ·rw [if_neg q9] at hl ⊢
     obtain ⟨hf,v1,v2,v4,m4,rfl⟩:=hl
     simp (disch:=omega)
     exact ⟨hf,v1,v2,v4,m4,by simp⟩
  ·obtain ⟨a,b,c,rfl⟩:=kids3 (by omega)
   have ka:=kid 0 (by simp) [] (by simp [Qy]) (by simp) (by simp)
   simp only [List.nil_append,List.getElem_cons_zero] at ka
   have E:∀ k:Int,k≠8→eqB 8 k=false:=fun k h=>by rw [Qb];omega
   have E2:eqB 8 8=true:=by rw [Qc]
   have a0:Qx 8 gty 0 []++ctx.map Prod.snd=ctx.map Prod.snd:=by simp [Qx,Qy]
   have of:=XT s 8 n nl1 gty nl2 [a,b,c] 0 (by simp) nlc ctx _ (Wy ka.small) (ka.tell nlc)
   simp only [GTerm.lv,GTerm.cells] at of
   simp (disch:=omega) [WB,Qu,Qo,GTerm.cells,E,E2]
   refine Qp (Qe.low of) (by simp) ?_
   rintro r ⟨hr,lo⟩
   cases hA:Qr s (ctx.map Prod.snd) a with
   | bad f p =>
    rw [hA] at hr
    simp only [ofR] at hr
    obtain ⟨hf,u1,u2,u4,n4',rfl⟩:=hr
    have hf0:eqB f 0=false:=by rw [Qb];exact hf
    rw [YQ (by rw [a0];exact hA)]
    simp (disch:=omega) [Qu,Qo,hf0]
    exact ⟨hf,false,false,false,n4',by simp⟩
   | ok x =>
    have hxg:=ka.good x hA
    rw [hA] at hr
    simp only [ofR] at hr
    obtain ⟨u1,u2,u4,n4',rfl⟩:=hr
    have hx:=Yn hxg.1
    have lx:=QV hxg.1
    have hxi:QS 1 (L false x.ty) 0=some (.rp [N (hd x.ty)]):=Je hx.2.2.2.1
    have kb:hd x.ty=2→KidT s ([(false,QJ x.ty)]++ctx) b:=fun q=>by
     have two:=ZZ hxg.1 (by rw [q];exact Yr.2)
     have:=kid 1 (by simp) [(false,QJ x.ty)] (by simp [Qy]) (by simp [two.2.1,two.2.2]) (by simp)
     simpa using this
    have kc:hd x.ty=2→KidT s ([(false,Wj x.ty)]++ctx) c:=fun q=>by
     have two:=ZZ hxg.1 (by rw [q];exact Yr.2)
     have:=kid 2 (by simp) [(false,Wj x.ty)] (by simp [Qy]) (by simp [two.2.1,two.2.2]) (by simp)
     simpa using this
    have hgn:=hgr (by simp [Yd,Qc])
    simp (disch:=omega) [Qu,Qo,hz,hxi,E,E2]
    have tk:=Znq hsy nlc ctx hm n nl1 gty nl2 a b c x n4' hgn hxg hA (by have:=Yx (ks:=[a,b,c]) (i:=1) (by simp);simp at this;omega) (by have:=Yx (ks:=[a,b,c]) (i:=2) (by simp);simp at this;omega) (fun q=>(kb q).tell false) (fun q y hy=>(kb q).good y hy) (fun q=>(kc q).tell false) (fun q y hy=>(kc q).good y hy)
    simp only [GTerm.lv,GTerm.cells] at tk
    refine Qp (Qe.low tk) (by simp) ?_
    rintro r ⟨hr,lo⟩
    cases hT:Qr s (ctx.map Prod.snd) (GTerm.mk 8 n nl1 gty nl2 [a,b,c]) with
    | ok z =>
     rw [hT] at hr
     obtain ⟨v1,v2,v4,m4,rfl⟩:=hr
     simp (disch:=omega)
     exact ⟨v1,v2,v4,m4,by simp⟩
    | bad f p =>
     rw [hT] at hr
     obtain ⟨hf,v1,v2,v4,m4,rfl⟩:=hr
     simp (disch:=omega)
     exact ⟨hf,v1,v2,v4,m4,by simp⟩
  ·obtain ⟨a,rfl⟩:=kids1 (by omega)
   have hgt:=hty (by simp [XC,Qc])
   have lg:=QV hgt
   have hn1:nl1=false:=by
    cases hn:nl1 with
    | false=>rfl
    | true=>have:=fl1 hn;subst this;simp at lg
   subst hn1
   have hgn:=hgr (by simp [Yd,Qc])
   have ka:KidT s ([(false,gty)]++ctx) a:=by
    have:=kid 0 (by simp) [(false,gty)] (by simp [Qy]) (by simp [hgt]) (by simp)
    simpa using this
   have E:∀ k:Int,k≠9→eqB 9 k=false:=fun k h=>by rw [Qb];omega
   have E2:eqB 9 9=true:=by rw [Qc]
   have a0:Qx 9 gty 0 []++ctx.map Prod.snd=gty::ctx.map Prod.snd:=by simp [Qx]
   have of:=XT s 9 n false gty nl2 [a] 0 (by simp) false ((false,gty)::ctx) _ (Wy ka.small) (ka.tell false)
   have w:=Zbn nlc false ctx [(false,gty)] (by omega) (by simp)
   simp only [GTerm.lv,GTerm.cells,List.map_cons,List.map_nil,List.cons_append,List.nil_append] at of w
   simp (disch:=omega) [WB,Qu,Qo,GTerm.cells,E,E2,Ql]
   refine Qa w (by simp) ?_
   simp (disch:=omega) [E,E2]
   refine Qp (Qe.low of) (by simp) ?_
   rintro r ⟨hr,lo⟩
   cases hA:Qr s (gty::ctx.map Prod.snd) a with
   | bad f p =>
    rw [hA] at hr
    simp only [ofR] at hr
    obtain ⟨hf,u1,u2,u4,n4',rfl⟩:=hr
    have hf0:eqB f 0=false:=by rw [Qb];exact hf
    rw [YQ (by rw [a0];exact hA)]
    simp (disch:=omega) [Qu,Qo,hf0]
    exact ⟨hf,false,false,false,n4',by simp⟩
   | ok x =>
    have hxg:=ka.good x hA
    rw [hA] at hr
    simp only [ofR] at hr
    obtain ⟨u1,u2,u4,n4',rfl⟩:=hr
    have lx:=QV hxg.1
    have hxl:x.needs.length=ctx.length+1:=by have:=hxg.2.1;simpa using this
    have c2:ZA 1 (L false x.needs) (some 1) none none=some (L false (x.needs.drop 1)):=Zj (k:=1) (by omega)
    have i0:QS 1 (L false x.needs) 0=some (.rp [N (x.needs.getD 0 0)]):=ZlJ (i:=0) (by omega)
    have g0:=Zgi hxg.2.2 (show 0 < x.needs.length by omega)
    have cp:=JN false (x.needs.drop 1) (by simp;omega)
    have us:=used1 (s:=s) (l:=x.needs) (g:=n) (by omega)
    rw [tell_fun hA,us]
    generalize x.needs.getD 0 0=y0 at *
    obtain ⟨yr,hyr⟩:∃ yr,yr=x.needs.drop 1:=⟨_,rfl⟩
    rw [← hyr] at c2 cp ⊢
    obtain ⟨z,hzz⟩:∃ z,z=(3+n)::(gty++x.ty):=⟨_,rfl⟩
    have gl:=ZbM (3+n) false false false gty x.ty (by omega) (by omega)
    rw [← hzz] at gl ⊢
    have wr:IntKind.i64.wrap (3+n)=3+n:=Qg (by have:=hgn.1;have:=hgn.2;omega)
    simp (disch:=omega) [Qu,Qo,hz,E,E2,i0]
    refine Qa (Zb t g0 hgn) (by simp) ?_
    cases hu:s.le y0 n
    ·simp (disch:=omega)
     refine Qp (Qe.low (Xn 9 (by omega))) (by simp) ?_
     rintro r ⟨⟨h3,w1,w2,w4,k4,rfl⟩,lo⟩
     simp (disch:=omega)
     exact ⟨by omega,w1,w2,w4,k4,by simp⟩
    ·simp (disch:=omega) [Ql,wr,c2]
     refine Qa gl (by simp) ?_
     simp (disch:=omega) [c2]
     refine Qa cp (by simp) ?_
     simp (disch:=omega)
     have dn:=Zbv z yr
     refine Qp (Qe.low dn) (by simp) ?_
     rintro r ⟨hr,lo⟩
     have hl:=Zbx (ks:=[x]) hr
     unfold Z8 at hl ⊢
     by_cases q9:z.length≤40
     ·rw [if_pos q9] at hl ⊢
      obtain ⟨v1,v2,v4,m4,rfl⟩:=hl
      simp (disch:=omega)
      exact ⟨v1,v2,v4,m4,by simp⟩
     ·rw [if_neg q9] at hl ⊢
      obtain ⟨hf,v1,v2,v4,m4,rfl⟩:=hl
      simp (disch:=omega)
      exact ⟨hf,v1,v2,v4,m4,by simp⟩
  ·obtain ⟨a,b,rfl⟩:=Zoe (by omega)
   have ka:=kid 0 (by simp) [] (by simp [Qy]) (by simp) (by simp)
   simp only [List.nil_append,List.getElem_cons_zero] at ka
   have kb:=kid 1 (by simp) [] (by simp [Qy]) (by simp) (by simp)
   simp only [List.nil_append,List.getElem_cons_succ,List.getElem_cons_zero] at kb
   have E:∀ k:Int,k≠10→eqB 10 k=false:=fun k h=>by rw [Qb];omega
   have E2:eqB 10 10=true:=by rw [Qc]
   have a0:Qx 10 gty 0 []++ctx.map Prod.snd=ctx.map Prod.snd:=by simp [Qx,Qy]
   have of:=XT s 10 n nl1 gty nl2 [a,b] 0 (by simp) nlc ctx _ (Wy ka.small) (ka.tell nlc)
   simp only [GTerm.lv,GTerm.cells] at of
   simp (disch:=omega) [WB,Qu,Qo,GTerm.cells,E,E2]
   refine Qp (Qe.low of) (by simp) ?_
   rintro r ⟨hr,lo⟩
   cases hA:Qr s (ctx.map Prod.snd) a with
   | bad f p =>
    rw [hA] at hr
    simp only [ofR] at hr
    obtain ⟨hf,u1,u2,u4,n4',rfl⟩:=hr
    have hf0:eqB f 0=false:=by rw [Qb];exact hf
    rw [YQ (by rw [a0];exact hA)]
    simp (disch:=omega) [Qu,Qo,hf0]
    exact ⟨hf,false,false,false,n4',by simp⟩
   | ok x =>
    have hxg:=ka.good x hA
    rw [hA] at hr
    simp only [ofR] at hr
    obtain ⟨u1,u2,u4,n4',rfl⟩:=hr
    have hx:=Yn hxg.1
    have lx:=QV hxg.1
    have hxi:QS 1 (L false x.ty) 0=some (.rp [N (hd x.ty)]):=Je hx.2.2.2.1
    rw [tell_app hA hxg.1]
    simp (disch:=omega) [Qu,Qo,hz,hxi,E,E2]
    refine Qa (Zi9 (hd x.ty)) (by simp) ?_
    cases q:QW (hd x.ty)
    ·simp (disch:=omega)
     refine Qp (Qe.low (Xn 6 (by omega))) (by simp) ?_
     rintro r ⟨⟨h3,w1,w2,w4,k4,rfl⟩,lo⟩
     simp (disch:=omega)
     exact ⟨by omega,w1,w2,w4,k4,by simp⟩
    ·simp (disch:=omega)
     have of2:=XT s 10 n nl1 gty nl2 [a,b] 1 (by simp) nlc ctx _ (Wy kb.small) (kb.tell nlc)
     simp only [GTerm.lv,GTerm.cells] at of2
     refine Qp (Qe.low of2) (by simp) ?_
     rintro r ⟨hr,lo⟩
     cases hB:Qr s (ctx.map Prod.snd) b with
     | bad f p =>
      rw [hB] at hr
      simp only [ofR] at hr
      obtain ⟨hf,v1,v2,v4,m4',rfl⟩:=hr
      have hf0:eqB f 0=false:=by rw [Qb];exact hf
      simp (disch:=omega) [Qu,Qo,hf0]
      exact ⟨hf,false,false,false,m4',by simp⟩
     | ok y =>
      have hyg:=kb.good y hB
      rw [hB] at hr
      simp only [ofR] at hr
      obtain ⟨v1,v2,v4,m4',rfl⟩:=hr
      have ly:=QV hyg.1
      have s1:=Zg t false false x.needs 1 (GSys.G1 t) y.needs (by rw [hxg.2.1];omega) (by rw [hxg.2.1,hyg.2.1]) hxg.2.2 hyg.2.2
      rw [ZaE hsy _ _ hyg.2.2] at s1
      have hk:=Zbt q
      have p0:=KI hxg.1 0 (.inr hk)
      have p1:=KI hxg.1 1 (.inr hk)
      have hsg:(QH (hd x.ty)).2=XO (hd x.ty):=(JQ hx.2.1 hx.2.2.1).2.2.2.2.2 (.inl q)
      have hgG:s.G (XO (hd x.ty)):=ZdP hx.1 (.inl q)
      simp (disch:=omega) [Qu,Qo,hz,Ql]
      refine Qa p0 (by simp) ?_
      simp (disch:=omega)
      refine Qa (Zgy false false y.ty (QJ x.ty) (by omega)) (by simp) ?_
      cases he:(y.ty == QJ x.ty)
      ·have he':y.ty≠QJ x.ty:=by simpa using he
       simp (disch:=omega)
       refine Qp (Qe.low (Xn 3 (by omega))) (by simp) ?_
       rintro r ⟨⟨h3,w1,w2,w4,k4,rfl⟩,lo⟩
       simp (disch:=omega) [he']
       exact ⟨by omega,w1,w2,w4,k4,by simp⟩
      ·have he':y.ty=QJ x.ty:=by simpa using he
       simp (disch:=omega)
       refine Qa p1 (by simp) ?_
       simp (disch:=omega) [hxi]
       refine Qa (ZiP (hd x.ty) (by unfold I64;omega) hx.2.1) (by simp) ?_
       simp (disch:=omega)
       have s3:=Zg t false false x.needs (XO (hd x.ty)) hgG y.needs (by rw [hxg.2.1];omega) (by rw [hxg.2.1,hyg.2.1]) hxg.2.2 hyg.2.2
       rw [Zif] at s3
       refine Qa s3 (by simp) ?_
       simp (disch:=omega) [he',hsg]
       exact ⟨true,true,true,true,by simp⟩
  ·obtain ⟨a,rfl⟩:=kids1 (by omega)
   have ka:=kid 0 (by simp) [] (by simp [Qy]) (by simp) (by simp)
   simp only [List.nil_append,List.getElem_cons_zero] at ka
   have E:∀ k:Int,k≠11→eqB 11 k=false:=fun k h=>by rw [Qb];omega
   have E2:eqB 11 11=true:=by rw [Qc]
   have a0:Qx 11 gty 0 []++ctx.map Prod.snd=ctx.map Prod.snd:=by simp [Qx,Qy]
   have of:=XT s 11 n nl1 gty nl2 [a] 0 (by simp) nlc ctx _ (Wy ka.small) (ka.tell nlc)
   simp only [GTerm.lv,GTerm.cells] at of
   simp (disch:=omega) [WB,Qu,Qo,GTerm.cells,E,E2]
   refine Qp (Qe.low of) (by simp) ?_
   rintro r ⟨hr,lo⟩
   cases hA:Qr s (ctx.map Prod.snd) a with
   | bad f p =>
    rw [hA] at hr
    simp only [ofR] at hr
    obtain ⟨hf,u1,u2,u4,n4',rfl⟩:=hr
    have hf0:eqB f 0=false:=by rw [Qb];exact hf
    rw [YQ (by rw [a0];exact hA)]
    simp (disch:=omega) [Qu,Qo,hf0]
    exact ⟨hf,false,false,false,n4',by simp⟩
   | ok x =>
    have hxg:=ka.good x hA
    rw [hA] at hr
    simp only [ofR] at hr
    obtain ⟨u1,u2,u4,n4',rfl⟩:=hr
    have hx:=Yn hxg.1
    have lx:=QV hxg.1
    have hxi:QS 1 (L false x.ty) 0=some (.rp [N (hd x.ty)]):=Je hx.2.2.2.1
    have hgn:=hgr (by simp [Yd,Qc])
    rw [tell_box hA]
    obtain ⟨z,hzz⟩:∃ z,z=(19+n)::x.ty:=⟨_,rfl⟩
    have gl:=Zpp (19+n) false false x.ty (by omega)
    rw [← hzz] at gl ⊢
    have zr:=VL ctx.length (by omega)
    have sc:=Zg t false false (zeros ctx.length) n hgn x.needs (by simp [zeros];omega) (by rw [hxg.2.1];simp [zeros]) (V1 t _).2 hxg.2.2
    have e1:=Zdt hsy n x.needs
    rw [hxg.2.1] at e1
    rw [e1] at sc
    have wr:IntKind.i64.wrap (19+n)=19+n:=Qg (by have:=hgn.1;have:=hgn.2;omega)
    simp (disch:=omega) [Qu,Qo,hz,hxi,E,E2,Ql,wr]
    refine Qa gl (by simp) ?_
    simp (disch:=omega)
    refine Qa zr (by simp) ?_
    simp (disch:=omega)
    refine Qa sc (by simp) ?_
    simp (disch:=omega)
    have dn:=Zbv z (Wa s n x.needs)
    refine Qp (Qe.low dn) (by simp) ?_
    rintro r ⟨hr,lo⟩
    have hl:=Zbx (ks:=[x]) hr
    unfold Z8 at hl ⊢
    by_cases q9:z.length≤40
    ·rw [if_pos q9] at hl ⊢
     obtain ⟨v1,v2,v4,m4,rfl⟩:=hl
     simp (disch:=omega)
     exact ⟨v1,v2,v4,m4,by simp⟩
    ·rw [if_neg q9] at hl ⊢
     obtain ⟨hf,v1,v2,v4,m4,rfl⟩:=hl
     simp (disch:=omega)
     exact ⟨hf,v1,v2,v4,m4,by simp⟩
  ·obtain ⟨a,b,rfl⟩:=Zoe (by omega)
   have ka:=kid 0 (by simp) [] (by simp [Qy]) (by simp) (by simp)
   simp only [List.nil_append,List.getElem_cons_zero] at ka
   have E:∀ k:Int,k≠12→eqB 12 k=false:=fun k h=>by rw [Qb];omega
   have E2:eqB 12 12=true:=by rw [Qc]
   have a0:Qx 12 gty 0 []++ctx.map Prod.snd=ctx.map Prod.snd:=by simp [Qx,Qy]
   have of:=XT s 12 n nl1 gty nl2 [a,b] 0 (by simp) nlc ctx _ (Wy ka.small) (ka.tell nlc)
   simp only [GTerm.lv,GTerm.cells] at of
   simp (disch:=omega) [WB,Qu,Qo,GTerm.cells,E,E2]
   refine Qp (Qe.low of) (by simp) ?_
   rintro r ⟨hr,lo⟩
   cases hA:Qr s (ctx.map Prod.snd) a with
   | bad f p =>
    rw [hA] at hr
    simp only [ofR] at hr
    obtain ⟨hf,u1,u2,u4,n4',rfl⟩:=hr
    have hf0:eqB f 0=false:=by rw [Qb];exact hf
    rw [YQ (by rw [a0];exact hA)]
    simp (disch:=omega) [Qu,Qo,hf0]
    exact ⟨hf,false,false,false,n4',by simp⟩
   | ok x =>
    have hxg:=ka.good x hA
    rw [hA] at hr
    simp only [ofR] at hr
    obtain ⟨u1,u2,u4,n4',rfl⟩:=hr
    have hx:=Yn hxg.1
    have lx:=QV hxg.1
    have hxi:QS 1 (L false x.ty) 0=some (.rp [N (hd x.ty)]):=Je hx.2.2.2.1
    have kb:WW (hd x.ty)=true→KidT s ([(false,QJ x.ty)]++ctx) b:=fun q=>by
     have two:=Zh5 hxg.1 (ZfK q)
     have:=kid 1 (by simp) [(false,QJ x.ty)] (by simp [Qy]) (by simp [two.2.2]) (by simp)
     simpa using this
    have hgn:=hgr (by simp [Yd,Qc])
    simp (disch:=omega) [Qu,Qo,hz,hxi,E,E2]
    have tk:=Zma hsy nlc ctx hm n nl1 gty nl2 a b x n4' hgn hxg hA (by have:=Yx (ks:=[a,b]) (i:=1) (by simp);simp at this;omega) (fun q=>(kb q).tell false) (fun q y hy=>(kb q).good y hy)
    simp only [GTerm.lv,GTerm.cells] at tk
    refine Qp (Qe.low tk) (by simp) ?_
    rintro r ⟨hr,lo⟩
    cases hT:Qr s (ctx.map Prod.snd) (GTerm.mk 12 n nl1 gty nl2 [a,b]) with
    | ok z =>
     rw [hT] at hr
     obtain ⟨v1,v2,v4,m4,rfl⟩:=hr
     simp (disch:=omega)
     exact ⟨v1,v2,v4,m4,by simp⟩
    | bad f p =>
     rw [hT] at hr
     obtain ⟨hf,v1,v2,v4,m4,rfl⟩:=hr
     simp (disch:=omega)
     exact ⟨hf,v1,v2,v4,m4,by simp⟩
theorem ZjS {s:GSys} (hsw:s.wf) (g:GTerm) (hw:g.wf) (n:Int) (hn:I64 n):Qe Tryz.prog ZaF [s.lv,g.lv,N n] (·=B (s.sys && g.termB s.size n)):=by
 refine Qe.of_codeOf ZkZ Qz (by simp) ⟨_,rfl,by simp⟩ ?_
 simp (disch:=omega) [Zd4,Qu,Qo]
 refine Qa (Zcn s hsw) (by simp) ?_
 cases hs:s.sys
 ·simp (disch:=omega)
 ·have t:=GSys.sys_of hs
  have h2:=t.lo;have h16:=t.hi
  simp (disch:=omega)
  refine Qa (ZiU n 0 8) (by simp) ?_
  cases hr:Wh n 0 8
  ·simp (disch:=omega) [GTerm.termB,hr]
  ·rw [Wv] at hr
   have hr':Wh n 0 8=true:=by rw [Wv];exact hr
   have hl:=Zrm g.size g (by omega) hw 400 (by omega) (by omega)
   have h2':leB 0 (XG g.size 400)=decide (g.size≤400):=by
    rw [Bool.eq_iff_iff]
    simp only [Qf,Qd,Qi,Qh,Qc,Qb,Bool.not_true,Bool.not_false,XG,decide_eq_true_eq]
    split<;>omega
   simp (disch:=omega)
   refine Qa hl (by simp) ?_
   by_cases hsz:g.size≤400
   ·have hI:I64 s.size:=⟨by omega,by omega⟩
    have hf:=Zq9 s.size true hI g.size g (by omega) hw n (by omega) (by omega)
    simp (disch:=omega) [h2',hsz]
    refine Qa hf (by simp) ?_
    simp (disch:=omega) [GTerm.termB,hr',hsz]
   ·simp (disch:=omega) [h2',hsz,GTerm.termB]
theorem ZpR {s:GSys} {ctx:WZ} {g:GTerm} (a:Arg s ctx g) (nlc:Bool):Qe Tryz.prog VN [s.lv,LC nlc ctx,g.lv] (·=B (inB s ctx g)):=by
 refine Qe.of_codeOf Zik Qz (by simp) ⟨_,rfl,by simp⟩ ?_
 simp (disch:=omega) [Zc4,Qu,Qo]
 refine Qa (Zcn s a.sw) (by simp) ?_
 cases hs:s.sys
 ·simp (disch:=omega) [inB,hs]
 ·have t:=GSys.sys_of hs
  simp (disch:=omega)
  refine Qa (ZmC s t nlc ctx a.cw) (by simp) ?_
  cases hc:ZgJ s.size ctx
  ·simp (disch:=omega) [inB,hs,hc]
  ·simp (disch:=omega)
   have it:=ZjS a.sw g a.gw ctx.length (ZlE a.cw)
   rw [hs] at it
   refine Qa it (by simp) ?_
   simp (disch:=omega) [inB,hs,hc]
def ZmP (x:Option TT) (r:LV):Prop:=match x with
 | some x=>∃ u1 u2,r=.tup [OU u1 false x.ty,OU u2 false x.needs,B true]
 | none=>∃ u1 u2,r=.tup [.sl u1 true 1 [],.sl u2 true 1 [],B false]
theorem ZkY {s:GSys} {ctx:WZ} {g:GTerm} (a:Arg s ctx g) (nlc:Bool):Qe Tryz.prog ZaI [s.lv,LC nlc ctx,g.lv] (ZmP (ZQ s ctx g)):=by
 refine Qe.of_codeOf Zj2 Qz (by simp) ?_ ?_
 ·cases h:ZQ s ctx g with
  | some x=>exact ⟨.tup [OU true false x.ty,OU true false x.needs,B true],⟨true,true,rfl⟩,by simp⟩
  | none=>exact ⟨.tup [.sl false true 1 [],.sl false true 1 [],B false],⟨false,false,rfl⟩,by simp⟩
 simp (disch:=omega) [Zef,Qu,Qo]
 refine Qa (ZpR a nlc) (by simp) ?_
 cases hin:inB s ctx g
 ·have hx:ZQ s ctx g=none:=by simp [ZQ,hin]
  rw [hx]
  simp (disch:=omega) [ZmP]
 ·have hin':=hin
  unfold inB at hin'
  simp only [Bool.and_eq_true] at hin'
  obtain ⟨hs,hc,ht⟩:=hin'
  obtain ⟨f1,f2,f3⟩:=a.flags hc
  unfold GTerm.termB at ht
  simp only [Bool.and_eq_true,decide_eq_true_eq] at ht
  have tl:=Zrl hs g.size g nlc ctx (Nat.le_refl _) a.gw a.gf f1 f2 (by omega) ht.2.2
  simp (disch:=omega)
  refine Qp (Qe.low tl) (by simp) ?_
  rintro r ⟨hr,lo⟩
  cases hT:Qr s (ctx.map Prod.snd) g with
  | ok x =>
   have hx:ZQ s ctx g=some x:=by simp [ZQ,hin,hT]
   rw [hT] at hr
   obtain ⟨u1,u2,u4,n4,rfl⟩:=hr
   have hz:eqB 0 0=true:=by rw [Qc]
   rw [hx]
   simp (disch:=omega) [Qu,Qo,hz,ZmP]
  | bad f p =>
   have hx:ZQ s ctx g=none:=by simp [ZQ,hin,hT]
   rw [hT] at hr
   obtain ⟨hf,u1,u2,u4,n4,rfl⟩:=hr
   have hf0:eqB f 0=false:=by rw [Qb];exact hf
   rw [hx]
   simp (disch:=omega) [Qu,Qo,hf0,ZmP]
attribute [local simp low] Xm
attribute [local simp] ZeN ZeS ZeQ ZeK ZeE ZeU
end Go.Proofs.YtbmepminmpjlcaaGreat
namespace Go.Proofs.YtbmepminmpjlcaaGreat
open Go Go.TL
open Go.Proofs.YtbmepminmpjlcaaGreat.Ty
set_option linter.unusedSimpArgs false
set_option linter.unusedVariables false
set_option linter.unusedSectionVars false
set_option maxRecDepth 20000
set_option maxHeartbeats 4000000
abbrev OF (l:List Int):LV:=.sl (!l.isEmpty) l.isEmpty 1 (l.map fun n=>[N n])
theorem b4:WW 4=false∧QW 4=true:=by decide
mutual
def GTerm.ownC:GTerm→List LV
 | .mk op n _ ty _ ks=>[N op,N n,OF ty,.sl (!ks.isEmpty) ks.isEmpty 4 (KW ks)]
def KW:List GTerm→List (List LV)
 | []=>[]
 | k::ks=>k.ownC::KW ks
end
mutual
def GTerm.nm:GTerm→GTerm
 | .mk op n _ ty _ ks=>.mk op n ty.isEmpty ty ks.isEmpty (nms ks)
def nms:List GTerm→List GTerm
 | []=>[]
 | k::ks=>k.nm::nms ks
end
theorem ZiL:∀ ks:List GTerm,KW ks=ks.map GTerm.ownC
 | []=>by simp [KW]
 | k::ks=>by simp [KW,ZiL ks]
theorem Znf:∀ ks:List GTerm,nms ks=ks.map GTerm.nm
 | []=>by simp [nms]
 | k::ks=>by simp [nms,Znf ks]
@[simp] theorem ownCs_length (ks:List GTerm):(KW ks).length=ks.length:=by simp [ZiL]
@[simp] theorem Zih (ks:List GTerm):(nms ks).length=ks.length:=by simp [Znf]
theorem ZdN (ks:List GTerm):(nms ks).isEmpty=ks.isEmpty:=by cases ks<;>simp [nms]
@[simp] theorem ownC_length (t:GTerm):t.ownC.length=4:=by cases t;simp [GTerm.ownC]
@[simp] theorem take_ownC (t:GTerm):t.ownC.take 4=t.ownC:=List.take_of_length_le (by simp)
@[simp] theorem alive_ownC (t:GTerm):WD t.ownC=true:=by cases t;simp [GTerm.ownC]
mutual
theorem VV:∀ t:GTerm,shareAll t.ownC=t.nm.cells
 | .mk op n nl1 ty nl2 ks=>by
  simp only [GTerm.ownC,GTerm.nm,GTerm.cells,shareAll,share,Zdx ks]
  congr 3
  simp
theorem Zdx:∀ ks:List GTerm,Qv (KW ks)=Wp (nms ks)
 | []=>by simp [KW,nms,Wp,Qv]
 | k::ks=>by simp only [KW,nms,Wp,Qv,VV k,Zdx ks]
end
attribute [simp] VV Zdx
mutual
theorem Zop (k:Nat):∀ t:GTerm,QG k t.ownC
 | .mk op n nl1 ty nl2 ks=>by
  have:=ZgM k ks
  simp [GTerm.ownC,this]
theorem ZgM (k:Nat):∀ ks:List GTerm,WF k (KW ks)
 | []=>by simp [KW]
 | t::ks=>by simp [KW,Zop k t,ZgM k ks]
end
attribute [simp] Zop ZgM
mutual
theorem Zb8:∀ t:GTerm,QP t.ownC
 | .mk op n nl1 ty nl2 ks=>by
  have h:=ZgW ks
  have w:=Kd (fun n:Int=>Value.int .i64 n) (!ty.isEmpty) ty.isEmpty ty (by cases ty<;>simp)
  simp only [GTerm.ownC,QP,QB] at w ⊢
  refine ⟨trivial,trivial,w,⟨?_,h⟩,trivial⟩
  cases ks with
  | nil=>simp [KW]
  | cons k ks=>exact .inr ⟨by simp,by simp,fun r hr=>by rw [ZiL] at hr;obtain ⟨g,_,rfl⟩:=List.mem_map.1 hr;simp⟩
theorem ZgW:∀ ks:List GTerm,QL (KW ks)
 | []=>by simp [KW,QL]
 | t::ks=>by simp only [KW,QL];exact ⟨Zb8 t,ZgW ks⟩
end
mutual
theorem Zmc:∀ a:GTerm,a.nm.size=a.size
 | .mk op n nl1 ty nl2 ks=>by simp [GTerm.nm,GTerm.size,Zl0 ks]
theorem Zl0:∀ a:List GTerm,Xb (nms a)=Xb a
 | []=>by simp [nms,Xb]
 | a::a'=>by simp [nms,Xb,Zmc a,Zl0 a']
end
mutual
theorem wf_nm:∀ a:GTerm,a.wf→a.nm.wf
 | .mk op n nl1 ty nl2 ks,h=>by
  simp only [GTerm.wf,GTerm.nm] at *
  exact ⟨h.1,h.2.1,h.2.2.1,by rw [Zih];exact h.2.2.2.1,ZqF ks h.2.2.2.2⟩
theorem ZqF:∀ a:List GTerm,wfs a→wfs (nms a)
 | [],_=>by simp [nms,wfs]
 | a::a',h=>by
  simp only [wfs,nms] at *
  exact ⟨wf_nm a h.1,ZqF a' h.2⟩
end
theorem Qe.nzR {P:Program} {f:FuncId} {args:List LV} {R R':LV→Prop} (c:Qe P f args R) (hr:∀ r,R r→∃ r',Go.TL.nz r'=Go.TL.nz r∧R' r'∧Low 0 r'):Qe P f args R' :=
 QD.nzR c fun r h' h=>by obtain ⟨r',h1,h2,h3⟩:=hr r h.1;exact ⟨r',h1,h2,h3⟩
theorem Xv {P:Program} {a b c:C} {Q:Exit→St→Prop} {s:St}:wpC P (.seq a (.seq b c)) Q s ↔ wpC P (.seq (.seq a b) c) Q s:=by
 have e:YT (wpC P b (YT (wpC P c Q) Q)) Q=YT (wpC P b (YT (wpC P c Q) Q)) (YT (wpC P c Q) Q):=by
  funext e s;cases e<;>rfl
 show wpC P a (YT (wpC P b (YT (wpC P c Q) Q)) Q) s ↔ wpC P a (YT (wpC P b (YT (wpC P c Q) Q)) (YT (wpC P c Q) Q)) s
 rw [e]
def csn:C→C
 | .seq _ b=>b
 | c=>c
def LkIH (s:GSys) (d:Nat):Prop:=∀ (l:Nat) (σ:List PC) (t:GTerm) (env:List Nat) (q:Int) (nl:Bool) (h:List Box) (hbs:List Nat) (M:Nat),3000 < l+d→l≤3000→RS s M hbs h l σ→BD s l σ→BE l σ env→σ.length≤2 * l+8→s.G q→Q4 s d l σ t env q≠.stuck →
  QD Tryz.prog W4 [.ptr M 0,t.lv,L nl (Vs env),N q] h (JJ s M h hbs (Q4 s d l σ t env q))
structure SkAt (s:GSys) (M:Nat) (h H:List Box) (h0:List Nat) (op n:Int) (nl1 nl2:Bool) (ty:List Int) (ks:List GTerm) (env:List Nat) (q q':Int) (nl:Bool) (l1:Nat) (σ1:List PC) (v:GTerm) (e1:List Nat) (hbs:List Nat) (O:Nat) (t:Nat→LV):Prop where
 A:RkN s M h H l1 σ1 h0 hbs O
 e0:t 0=.ptr M 0
 e2:t 2=L nl (Vs env)
 e3:t 3=N q
 e5:t 5=.rp [N op,N n,L nl1 ty,.sl false nl2 4 (Wp ks)]
 e8:t 8=.ptr O 0
 e12:t 12=N q'
 e13:∃ vs,JL v vs∧t 13=.rp vs
 e14:∃ u nl3,t 14=OU u nl3 (Vs e1)
theorem VJ {s:GSys} (hs:s.sys=true) (sw:s.wf) {d:Nat} (ih:LkIH s d) {l:Nat} {σ:List PC} {op n:Int} {nl1 nl2:Bool} {ty:List Int} {ks:List GTerm} {env:List Nat} {q:Int} {nl:Bool} {h H:List Box} {h0 hbs:List Nat} {M O:Nat} {t:Nat→LV}
  (hd:3000 < l+d) (hl:l≤3000) (A:RkN s M h H l σ h0 hbs O) (bd:BD s l σ) (be:BE l σ env) (hm:σ.length≤2 * l+8) (hq:s.G q)
  (e0:t 0=.ptr M 0) (e2:t 2=L nl (Vs env)) (e3:t 3=N q) (e5:t 5=.rp [N op,N n,L nl1 ty,.sl false nl2 4 (Wp ks)]) (e8:t 8=.ptr O 0)
  (hop:op=2∨op=3∨op=10∨op=5∨op=8∨op=12) (hk:ks.length≠0) {q':Int} (hq':q'=if Yd op=true then s.tm q n else q) (hg:Yd op=true→s.G n) {K:Nat→List PC→GTerm→List Nat→LR} {res:LR} (hres:res=(Q4 s d l σ (ks.getD 0 (JV 0)) env q').bind K) (hns:Q4 s d l σ (ks.getD 0 (JV 0)) env q'≠.stuck)
  (hK:∀ (l1:Nat) (σ1:List PC) (v:GTerm) (e1:List Nat) (hbs':List Nat) (t':Nat→LV) (H':List Box),Q4 s d l σ (ks.getD 0 (JV 0)) env q'=.ok l1 σ1 v e1→SkAt s M h H' h0 op n nl1 nl2 ty ks env q q' nl l1 σ1 v e1 hbs' O t' →
   wpC Tryz.prog (csn (csn (csn (csn (csn (csn (csn (csn WM)))))))) (J2 [.cell 8 true 4,.tmp 9,.tmp 10] h.length (JJ s M h h0 (K l1 σ1 v e1))) ⟨t',H'⟩) :
  wpC Tryz.prog (csn (csn (csn WM))) (J2 [.cell 8 true 4,.tmp 9,.tmp 10] h.length (JJ s M h h0 res)) ⟨t,H⟩:=by
 have ts:=GSys.sys_of hs
 subst hres
 have q0:eqB op 0=false∧eqB op 1=false∧eqB op 4=false∧eqB op 6=false∧eqB op 7=false∧eqB op 9=false∧eqB op 11=false:=by
  refine ⟨?_,?_,?_,?_,?_,?_,?_⟩<;>rw [Qb]<;>omega
 obtain ⟨z0,z1,z4,z6,z7,z9,z11⟩:=q0
 obtain ⟨k0,kr,rfl⟩:∃ a b,ks=a::b:=by
  cases ks with
  | nil=>exact absurd rfl hk
  | cons a b=>exact ⟨a,b,rfl⟩
 have i0:=WO (k0::kr) false nl2 0 (by simp)
 simp only [Int.natCast_zero,List.getElem_cons_zero,List.getD_cons_zero] at i0 hns hK ⊢
 have hG:s.G q':=by
  subst hq'
  split
  ·exact GSys.Gtm ts q n
  ·exact hq
 have IH:=ih l σ k0 env q' nl H hbs M hd hl A.ms bd be hm hG hns
 have has:=Zoy op
 obtain ⟨cs,hb,hc1,hc2,_,_⟩:=A.ms.tick l
 simp only [GSys.cells,List.cons_append,List.nil_append] at hb
 have hO:=A.box
 show wpC Tryz.prog (.seq _ (.seq _ (.seq _ (.seq _ (.seq _ _))))) _ _
 rw [Xv,Xv,Xv,Xv]
 refine Zb7 (fun t' H'=>∃ l1 σ1 v e1 hbs',Q4 s d l σ k0 env q'=.ok l1 σ1 v e1∧SkAt s M h H' h0 op n nl1 nl2 ty (k0::kr) env q q' nl l1 σ1 v e1 hbs' O t') ?_ ?_
 ·cases hL:Q4 s d l σ k0 env q' with
  | stuck=>exact absurd hL hns
  | fail =>
   rw [hL] at IH
   simp only [LR.bind]
   cases hh:Yd op with
   | true =>
    rw [hh] at has hq' hg
    rw [if_pos rfl] at hq'
    subst hq'
    have mul:=Kf ts hq (hg rfl)
    simp (disch:=omega) [e0,e2,e3,e5,e8,z0,z1,z4,z6,z7,z9,z11]
    refine Qa has (by simp) ?_
    simp (disch:=omega) [e0,e2,e3,e5,e8,hb]
    refine Qa mul (by simp) ?_
    simp (disch:=omega) [e0,e2,e3,e5,e8,i0]
    refine Qk IH ?_
    rintro r H1 hr
    obtain ⟨fr1,oH1,hO1,a,b,x,y,e,rfl⟩:=A.fails hr
    have fO:∀ k:List Box,(H1++k)[O]?=some (some [N 0,N 0,.sl true true 1 [],.sl true true 1 []]):=fun k=>by rw [Q5 oH1];exact hO1
    have fL:∀ _:Unit,O < (H1++[none]).length:=fun _=>by simp;omega
    clear oH1
    simp (disch:=omega) [e0,e2,e3,e5,e8,QN,Qo,fO]
    refine Zai (fr1.appR [none]) A.o1 (fL ()) ?_ ?_ ?_
    ·simp [e8]
    ·simp
    ·exact ⟨_,_,_,_,rfl⟩
   | false =>
    rw [hh] at has hq' hg
    rw [if_neg (by simp)] at hq'
    subst hq'
    simp (disch:=omega) [e0,e2,e3,e5,e8,z0,z1,z4,z6,z7,z9,z11]
    refine Qa has (by simp) ?_
    simp (disch:=omega) [e0,e2,e3,e5,e8,i0]
    refine Qk IH ?_
    rintro r H1 hr
    obtain ⟨fr1,oH1,hO1,a,b,x,y,e,rfl⟩:=A.fails hr
    have fO:∀ k:List Box,(H1++k)[O]?=some (some [N 0,N 0,.sl true true 1 [],.sl true true 1 []]):=fun k=>by rw [Q5 oH1];exact hO1
    have fL:∀ _:Unit,O < (H1++[none]).length:=fun _=>by simp;omega
    clear oH1
    simp (disch:=omega) [e0,e2,e3,e5,e8,QN,Qo,fO]
    refine Zai (fr1.appR [none]) A.o1 (fL ()) ?_ ?_ ?_
    ·simp [e8]
    ·simp
    ·exact ⟨_,_,_,_,rfl⟩
  | ok l1 σ1 v e1 =>
   rw [hL] at IH
   simp only [LR.bind]
   cases hh:Yd op with
   | true =>
    rw [hh] at has hq' hg
    rw [if_pos rfl] at hq'
    subst hq'
    have mul:=Kf ts hq (hg rfl)
    simp (disch:=omega) [e0,e2,e3,e5,e8,z0,z1,z4,z6,z7,z9,z11]
    refine Qa has (by simp) ?_
    simp (disch:=omega) [e0,e2,e3,e5,e8,hb]
    refine Qa mul (by simp) ?_
    simp (disch:=omega) [e0,e2,e3,e5,e8,i0]
    refine Qk IH ?_
    rintro r H1 hr
    obtain ⟨hbs',u1,nl3,vs,hv1,rfl,A1⟩:=A.next hr
    have A2:=A1.app [none]
    have v4:=hv1.len
    have vsh:=hv1.share
    obtain ⟨nx,ny,vx,vy,rfl⟩:∃ a b x y,vs=[a,b,x,y]:=by
     match vs,v4 with
     | [a,b,x,y],_=>exact ⟨a,b,x,y,rfl⟩
    simp (disch:=omega) [e0,e2,e3,e5,e8,QN,Qo]
    exact ⟨l1,σ1,v,e1,⟨rfl,rfl,rfl,rfl⟩,hbs',A2,by simp [e0],by simp [e2],by simp [e3],by simp [e5],by simp [e8],by simp,⟨_,hv1,by simp⟩,⟨u1,nl3,by simp⟩⟩
   | false =>
    rw [hh] at has hq' hg
    rw [if_neg (by simp)] at hq'
    subst hq'
    simp (disch:=omega) [e0,e2,e3,e5,e8,z0,z1,z4,z6,z7,z9,z11]
    refine Qa has (by simp) ?_
    simp (disch:=omega) [e0,e2,e3,e5,e8,i0]
    refine Qk IH ?_
    rintro r H1 hr
    obtain ⟨hbs',u1,nl3,vs,hv1,rfl,A1⟩:=A.next hr
    have A2:=A1.app [none]
    have v4:=hv1.len
    have vsh:=hv1.share
    obtain ⟨nx,ny,vx,vy,rfl⟩:∃ a b x y,vs=[a,b,x,y]:=by
     match vs,v4 with
     | [a,b,x,y],_=>exact ⟨a,b,x,y,rfl⟩
    simp (disch:=omega) [e0,e2,e3,e5,e8,QN,Qo]
    exact ⟨l1,σ1,v,e1,⟨rfl,rfl,rfl,rfl⟩,hbs',A2,by simp [e0],by simp [e2],by simp [e3],by simp [e5],by simp [e8],by simp,⟨_,hv1,by simp⟩,⟨u1,nl3,by simp⟩⟩
 ·rintro t' H' hf ⟨l1,σ1,v,e1,hbs',h1,h2⟩
  rw [h1]
  exact hK l1 σ1 v e1 hbs' t' H' h1 h2
section
variable {s:GSys} {d:Nat} {l1:Nat} {σ1:List PC} {op n:Int} {nl1 nl2:Bool} {ty:List Int} {a b c:GTerm} {env e1:List Nat} {q q':Int} {nl:Bool} {h H:List Box} {h0 hbs:List Nat} {M O:Nat} {t:Nat→LV} {v:GTerm}
theorem look3_if (hs:s.sys=true) (ih:LkIH s d) (hd:3000 < l1+d) (hl:l1≤3000) (bd:BD s l1 σ1) (be:BE l1 σ1 env) (be1:BE l1 σ1 e1) (hm:σ1.length≤2 * l1+6) (hle:env.length≤2 * l1+6∧e1.length≤2 * l1+6) (hq:s.G q) (hq2:s.G q')
  (S:SkAt s M h H h0 3 n nl1 nl2 ty [a,b,c] env q q' nl l1 σ1 v e1 hbs O t) (hns:(if v.num=0 then Q4 s d l1 σ1 b env q else Q4 s d l1 σ1 c env q)≠.stuck) :
  wpC Tryz.prog (csn (csn (csn (csn (csn (csn (csn (csn WM)))))))) (J2 [.cell 8 true 4,.tmp 9,.tmp 10] h.length (JJ s M h h0 (if v.num=0 then Q4 s d l1 σ1 b env q else Q4 s d l1 σ1 c env q))) ⟨t,H⟩:=by
 have ts:=GSys.sys_of hs
 obtain ⟨A,e0,e2,e3,e5,e8,e12,⟨vs,hv1,e13⟩,u1,nl3,e14⟩:=S
 show wpC Tryz.prog (.seq _ _) _ _
 have i1:=WO [a,b,c] false nl2 1 (by simp)
 have i2:=WO [a,b,c] false nl2 2 (by simp)
 simp only [Int.natCast_one,Int.cast_ofNat_Int,List.getElem_cons_zero,List.getElem_cons_succ] at i1 i2
 obtain ⟨vx,vy,rfl⟩:=hv1.num
 by_cases hz:v.num=0
 ·have hz':eqB v.num 0=true:=by rw [Qc];exact hz
  rw [if_pos hz] at hns ⊢
  have IH:=ih l1 σ1 b env q nl H hbs M hd hl A.ms bd be (by omega) hq hns
  generalize Q4 s d l1 σ1 b env q=res at *
  simp (disch:=omega) [e0,e2,e3,e5,e8,e13,hz',i1,JS]
  refine Qk IH ?_
  rintro r H1 hr
  obtain ⟨ws,e',bb,rfl,w4,hO,post⟩:=A.tail hns hr
  simp (disch:=omega) [e0,e8,hO,w4,List.take_of_length_le,List.drop_of_length_le]
  exact post _ (by simp [e8]) (by simp) (by simp) (by simp)
 ·have hz':eqB v.num 0=false:=by rw [Qb];exact hz
  rw [if_neg hz] at hns ⊢
  have IH:=ih l1 σ1 c env q nl H hbs M hd hl A.ms bd be (by omega) hq hns
  generalize Q4 s d l1 σ1 c env q=res at *
  simp (disch:=omega) [e0,e2,e3,e5,e8,e13,hz',i2,JS]
  refine Qk IH ?_
  rintro r H1 hr
  obtain ⟨ws,e',bb,rfl,w4,hO,post⟩:=A.tail hns hr
  simp (disch:=omega) [e0,e8,hO,w4,List.take_of_length_le,List.drop_of_length_le]
  exact post _ (by simp [e8]) (by simp) (by simp) (by simp)
theorem Zrj (hs:s.sys=true) (ih:LkIH s d) (hd:3000 < l1+d) (hl:l1≤3000) (bd:BD s l1 σ1) (be:BE l1 σ1 env) (be1:BE l1 σ1 e1) (hm:σ1.length≤2 * l1+6) (hle:env.length≤2 * l1+6∧e1.length≤2 * l1+6) (hq:s.G q) (hq2:s.G q')
  (S:SkAt s M h H h0 2 n nl1 nl2 ty [a,b] env q q' nl l1 σ1 v e1 hbs O t) (hv:0≤v.num∧v.num≤2) (hns:((Q4 s d l1 σ1 b env q).bind fun l2 σ2 w _=>if 0≤w.num∧w.num≤2 then .ok l2 σ2 (JV ((v.num+w.num) % 3)) [] else .stuck)≠.stuck) :
  wpC Tryz.prog (csn (csn (csn (csn (csn (csn (csn (csn WM)))))))) (J2 [.cell 8 true 4,.tmp 9,.tmp 10] h.length (JJ s M h h0 ((Q4 s d l1 σ1 b env q).bind fun l2 σ2 w _=>if 0≤w.num∧w.num≤2 then .ok l2 σ2 (JV ((v.num+w.num) % 3)) [] else .stuck))) ⟨t,H⟩:=by
 have ts:=GSys.sys_of hs
 obtain ⟨A,e0,e2,e3,e5,e8,e12,⟨vs,hv1,e13⟩,u1,nl3,e14⟩:=S
 show wpC Tryz.prog (.seq _ _) _ _
 have i1:=WO [a,b] false nl2 1 (by simp)
 simp only [Int.natCast_one,List.getElem_cons_zero,List.getElem_cons_succ] at i1
 obtain ⟨vx,vy,rfl⟩:=hv1.num
 have hns3:Q4 s d l1 σ1 b env q≠.stuck:=fun e=>hns (by rw [e];rfl)
 have IH:=ih l1 σ1 b env q nl H hbs M hd hl A.ms bd be (by omega) hq hns3
 simp (disch:=omega) [e0,e2,e3,e5,e8,e13,i1,JS]
 cases hres2:Q4 s d l1 σ1 b env q with
 | stuck=>exact absurd hres2 hns3
 | fail =>
  rw [hres2] at IH
  simp only [LR.bind]
  refine Qk IH ?_
  rintro r H1 hr
  obtain ⟨fr1,oH1,hO1,a2,b2,x2,y2,z2,rfl⟩:=A.fails hr
  have fO:∀ k:List Box,(H1++k)[O]?=some (some [N 0,N 0,.sl true true 1 [],.sl true true 1 []]):=fun k=>by rw [Q5 oH1];exact hO1
  have fL:∀ _:Unit,O < (H1++[none]).length:=fun _=>by simp;omega
  clear oH1
  simp (disch:=omega) [e0,e2,e3,e5,e8,e13,QN,Qo,fO,ZfZ]
  exact Zai (fr1.appR [none]) A.o1 (fL ()) (by simp [e8]) (by simp) ⟨_,_,_,_,rfl⟩
 | ok l2 σ2 v2 e2' =>
  rw [hres2] at IH hns
  simp only [LR.bind] at hns ⊢
  have hns4:0≤v2.num∧v2.num≤2:=by
   by_cases hh:0≤v2.num∧v2.num≤2
   ·exact hh
   ·rw [if_neg hh] at hns;exact absurd rfl hns
  rw [if_pos hns4]
  refine Qk IH ?_
  rintro r H2 hr2
  obtain ⟨hbs2,u2,nl4,vs2,hv2,rfl,A3⟩:=A.next hr2
  obtain ⟨wx,wy,rfl⟩:=hv2.num
  have A4:=A3.app [none]
  have fO2:=A4.box
  have em:(v.num+v2.num) % 3=(v.num+v2.num).tmod 3:=by rw [Int.tmod_eq_emod_of_nonneg (by omega)]
  simp (disch:=omega) [e0,e2,e3,e5,e8,e13,QN,Qo,fO2,ZfZ,Qg]
  exact A4.val (u:=false) (nl:=true) (e:=[]) (vs:=[N 1,N ((v.num+v2.num).tmod 3),.sl true true 1 [],.sl true true 1 []]) (.inr ⟨_,true,by rw [em],rfl⟩) (by simp [e8]) (by simp [Vs]) (by simp) rfl
theorem Zro (hs:s.sys=true) (ih:LkIH s d) (hd:3000 < l1+d) (hl:l1≤3000) (bd:BD s l1 σ1) (be:BE l1 σ1 env) (be1:BE l1 σ1 e1) (hm:σ1.length≤2 * l1+6) (hle:env.length≤2 * l1+6∧e1.length≤2 * l1+6) (hq:s.G q) (hq2:s.G q')
  (S:SkAt s M h H h0 10 n nl1 nl2 ty [a,b] env q q' nl l1 σ1 v e1 hbs O t) (hv:v.kidn=1∧s.has v.num=true) (hns:Q4 s d l1 (σ1++[⟨s.tm q v.num,0,b,env⟩]) (v.kid 0) (σ1.length::e1) q≠.stuck) :
  wpC Tryz.prog (csn (csn (csn (csn (csn (csn (csn (csn WM)))))))) (J2 [.cell 8 true 4,.tmp 9,.tmp 10] h.length (JJ s M h h0 (Q4 s d l1 (σ1++[⟨s.tm q v.num,0,b,env⟩]) (v.kid 0) (σ1.length::e1) q))) ⟨t,H⟩:=by
 have ts:=GSys.sys_of hs
 obtain ⟨A,e0,e2,e3,e5,e8,e12,⟨vs,hv1,e13⟩,u1,nl3,e14⟩:=S
 show wpC Tryz.prog (.seq _ _) _ _
 have i1:=WO [a,b] false nl2 1 (by simp)
 simp only [Int.natCast_one,List.getElem_cons_zero,List.getElem_cons_succ] at i1
 obtain ⟨hk1,hg1⟩:=hv
 have hvs:=hv1.kids (by omega)
 obtain ⟨fop,fnn,fnl1,fty,fnl2,fks⟩:=v
 obtain ⟨x,rfl⟩:=oneG hk1
 simp only [GTerm.num,GTerm.kid,List.getD_cons_zero] at hg1 hns ⊢
 have gf:s.G fnn:=by
  simp [GSys.has] at hg1
  exact ⟨hg1.1,hg1.2⟩
 simp only [GTerm.cells] at hvs
 subst hvs
 have j0:=WO [x] false fnl2 0 (by simp)
 simp only [Int.natCast_zero,List.getElem_cons_zero] at j0
 have G0:s.G 0:=GSys.G0 ts
 have mul:=Kf ts hq gf
 obtain ⟨cs,hb,hc1,hc2,_,_⟩:=A.ms.tick l1
 simp only [GSys.cells,List.cons_append,List.nil_append] at hb
 generalize hres3:Q4 s d l1 (σ1++[⟨s.tm q fnn,0,b,env⟩]) x (σ1.length::e1) q=res at *
 simp (disch:=omega) [e0,e2,e3,e5,e8,e12,e13,e14,hb,i1,j0,JS]
 refine Qa mul (by simp) ?_
 simp (disch:=omega) [e0,e2,e3,e5,e8,e12,e13,e14,i1,j0]
 refine Qk (Zbc A.ms (s.tm q fnn) b env nl (by omega)) ?_
 rintro r H2 hr2
 obtain ⟨hbs2,rfl,A3⟩:=A.cell hr2
 simp (disch:=omega) [e0,e2,e3,e5,e8,e12,e13,e14,i1,j0]
 refine Qa (KA nl3 σ1.length e1 (by have:=be1.1;omega)) (by simp) ?_
 have IH:=ih l1 (σ1++[⟨s.tm q fnn,0,b,env⟩]) x (σ1.length::e1) q false H2 hbs2 M hd hl A3.ms (bd.snoc be G0) ⟨by have:=hle.2;simp;omega,fun j hj=>by
  rcases List.mem_cons.1 hj with rfl | hj
  ·simp
  ·have:=be1.2 j hj;simp;omega⟩ (by simp;omega) hq (by rw [hres3];exact hns)
 rw [hres3] at IH
 simp (disch:=omega) [e0,e2,e3,e5,e8,e12,e13,e14]
 refine Qk IH ?_
 rintro r H4 hr
 obtain ⟨ws,e',bb,rfl,w4,hO,post⟩:=A3.tail hns hr
 simp (disch:=omega) [e0,e8,hO,w4,List.take_of_length_le,List.drop_of_length_le]
 exact post _ (by simp [e8]) (by simp) (by simp) (by simp)
theorem ZnL (hs:s.sys=true) (ih:LkIH s d) (hd:3000 < l1+d) (hl:l1≤3000) (bd:BD s l1 σ1) (be:BE l1 σ1 env) (be1:BE l1 σ1 e1) (hm:σ1.length≤2 * l1+6) (hle:env.length≤2 * l1+6∧e1.length≤2 * l1+6) (hq:s.G q) (hq2:s.G q')
  (S:SkAt s M h H h0 8 n nl1 nl2 ty [a,b,c] env q q' nl l1 σ1 v e1 hbs O t) (hv:v.kidn=1∧v.opc=6) (hns:Q4 s d l1 (σ1++[⟨q',0,v.kid 0,e1⟩]) b (σ1.length::env) q≠.stuck) :
  wpC Tryz.prog (csn (csn (csn (csn (csn (csn (csn (csn WM)))))))) (J2 [.cell 8 true 4,.tmp 9,.tmp 10] h.length (JJ s M h h0 (Q4 s d l1 (σ1++[⟨q',0,v.kid 0,e1⟩]) b (σ1.length::env) q))) ⟨t,H⟩:=by
 have ts:=GSys.sys_of hs
 obtain ⟨A,e0,e2,e3,e5,e8,e12,⟨vs,hv1,e13⟩,u1,nl3,e14⟩:=S
 show wpC Tryz.prog (.seq _ _) _ _
 have i1:=WO [a,b,c] false nl2 1 (by simp)
 have i2:=WO [a,b,c] false nl2 2 (by simp)
 simp only [Int.natCast_one,Int.cast_ofNat_Int,List.getElem_cons_zero,List.getElem_cons_succ] at i1 i2
 obtain ⟨hk1,ho1⟩:=hv
 have hvs:=hv1.kids (by omega)
 obtain ⟨fop,fnn,fnl1,fty,fnl2,fks⟩:=v
 obtain ⟨x,rfl⟩:=oneG hk1
 obtain rfl:fop=6:=ho1
 simp only [GTerm.kid,List.getD_cons_zero] at hns ⊢
 simp only [GTerm.cells] at hvs
 subst hvs
 have j0:=WO [x] false fnl2 0 (by simp)
 simp only [Int.natCast_zero,List.getElem_cons_zero] at j0
 have G0:s.G 0:=GSys.G0 ts
 have z67:eqB 6 7=false∧eqB 7 7=true:=by decide
 obtain ⟨cs,hb,hc1,hc2,_,_⟩:=A.ms.tick l1
 simp only [GSys.cells,List.cons_append,List.nil_append] at hb
 generalize hres3:Q4 s d l1 (σ1++[⟨q',0,x,e1⟩]) b (σ1.length::env) q=res at *
 simp (disch:=omega) [e0,e2,e3,e5,e8,e12,e13,e14,hb,i1,j0,JS,z67]
 refine Qk (Zbc A.ms q' x e1 nl3 (by omega)) ?_
 rintro r H2 hr2
 obtain ⟨hbs2,rfl,A3⟩:=A.cell hr2
 simp (disch:=omega) [e0,e2,e3,e5,e8,e12,e13,e14,i1,j0,z67]
 refine Qa (KA nl σ1.length env (by have:=be.1;omega)) (by simp) ?_
 have IH:=ih l1 (σ1++[⟨q',0,x,e1⟩]) b (σ1.length::env) q false H2 hbs2 M hd hl A3.ms (bd.snoc be1 G0) ⟨by have:=hle.1;simp;omega,fun j hj=>by
  rcases List.mem_cons.1 hj with rfl | hj
  ·simp
  ·have:=be.2 j hj;simp;omega⟩ (by simp;omega) hq (by rw [hres3];exact hns)
 rw [hres3] at IH
 simp (disch:=omega) [e0,e2,e3,e5,e8,e12,e13,e14]
 refine Qk IH ?_
 rintro r H4 hr
 obtain ⟨ws,e',bb,rfl,w4,hO,post⟩:=A3.tail hns hr
 simp (disch:=omega) [e0,e8,hO,w4,List.take_of_length_le,List.drop_of_length_le]
 exact post _ (by simp [e8]) (by simp) (by simp) (by simp)
theorem Zo3 (hs:s.sys=true) (ih:LkIH s d) (hd:3000 < l1+d) (hl:l1≤3000) (bd:BD s l1 σ1) (be:BE l1 σ1 env) (be1:BE l1 σ1 e1) (hm:σ1.length≤2 * l1+6) (hle:env.length≤2 * l1+6∧e1.length≤2 * l1+6) (hq:s.G q) (hq2:s.G q')
  (S:SkAt s M h H h0 8 n nl1 nl2 ty [a,b,c] env q q' nl l1 σ1 v e1 hbs O t) (hv:v.kidn=1∧v.opc=7) (hns:Q4 s d l1 (σ1++[⟨q',0,v.kid 0,e1⟩]) c (σ1.length::env) q≠.stuck) :
  wpC Tryz.prog (csn (csn (csn (csn (csn (csn (csn (csn WM)))))))) (J2 [.cell 8 true 4,.tmp 9,.tmp 10] h.length (JJ s M h h0 (Q4 s d l1 (σ1++[⟨q',0,v.kid 0,e1⟩]) c (σ1.length::env) q))) ⟨t,H⟩:=by
 have ts:=GSys.sys_of hs
 obtain ⟨A,e0,e2,e3,e5,e8,e12,⟨vs,hv1,e13⟩,u1,nl3,e14⟩:=S
 show wpC Tryz.prog (.seq _ _) _ _
 have i1:=WO [a,b,c] false nl2 1 (by simp)
 have i2:=WO [a,b,c] false nl2 2 (by simp)
 simp only [Int.natCast_one,Int.cast_ofNat_Int,List.getElem_cons_zero,List.getElem_cons_succ] at i1 i2
 obtain ⟨hk1,ho1⟩:=hv
 have hvs:=hv1.kids (by omega)
 obtain ⟨fop,fnn,fnl1,fty,fnl2,fks⟩:=v
 obtain ⟨x,rfl⟩:=oneG hk1
 obtain rfl:fop=7:=ho1
 simp only [GTerm.kid,List.getD_cons_zero] at hns ⊢
 simp only [GTerm.cells] at hvs
 subst hvs
 have j0:=WO [x] false fnl2 0 (by simp)
 simp only [Int.natCast_zero,List.getElem_cons_zero] at j0
 have G0:s.G 0:=GSys.G0 ts
 have z67:eqB 6 7=false∧eqB 7 7=true:=by decide
 obtain ⟨cs,hb,hc1,hc2,_,_⟩:=A.ms.tick l1
 simp only [GSys.cells,List.cons_append,List.nil_append] at hb
 generalize hres3:Q4 s d l1 (σ1++[⟨q',0,x,e1⟩]) c (σ1.length::env) q=res at *
 simp (disch:=omega) [e0,e2,e3,e5,e8,e12,e13,e14,hb,i2,j0,JS,z67]
 refine Qk (Zbc A.ms q' x e1 nl3 (by omega)) ?_
 rintro r H2 hr2
 obtain ⟨hbs2,rfl,A3⟩:=A.cell hr2
 simp (disch:=omega) [e0,e2,e3,e5,e8,e12,e13,e14,i2,j0,z67]
 refine Qa (KA nl σ1.length env (by have:=be.1;omega)) (by simp) ?_
 have IH:=ih l1 (σ1++[⟨q',0,x,e1⟩]) c (σ1.length::env) q false H2 hbs2 M hd hl A3.ms (bd.snoc be1 G0) ⟨by have:=hle.1;simp;omega,fun j hj=>by
  rcases List.mem_cons.1 hj with rfl | hj
  ·simp
  ·have:=be.2 j hj;simp;omega⟩ (by simp;omega) hq (by rw [hres3];exact hns)
 rw [hres3] at IH
 simp (disch:=omega) [e0,e2,e3,e5,e8,e12,e13,e14]
 refine Qk IH ?_
 rintro r H4 hr
 obtain ⟨ws,e',bb,rfl,w4,hO,post⟩:=A3.tail hns hr
 simp (disch:=omega) [e0,e8,hO,w4,List.take_of_length_le,List.drop_of_length_le]
 exact post _ (by simp [e8]) (by simp) (by simp) (by simp)
theorem Zp8 (hs:s.sys=true) (ih:LkIH s d) (hd:3000 < l1+d) (hl:l1≤3000) (bd:BD s l1 σ1) (be:BE l1 σ1 env) (be1:BE l1 σ1 e1) (hm:σ1.length≤2 * l1+6) (hle:env.length≤2 * l1+6∧e1.length≤2 * l1+6) (hq:s.G q) (hq2:s.G q')
  (S:SkAt s M h H h0 12 n nl1 nl2 ty [a,b] env q q' nl l1 σ1 v e1 hbs O t) (hv:v.kidn=1∧s.has v.num=true) (hns:Q4 s d l1 (σ1++[⟨s.tm q' v.num,0,v.kid 0,e1⟩]) b (σ1.length::env) q≠.stuck) :
  wpC Tryz.prog (csn (csn (csn (csn (csn (csn (csn (csn WM)))))))) (J2 [.cell 8 true 4,.tmp 9,.tmp 10] h.length (JJ s M h h0 (Q4 s d l1 (σ1++[⟨s.tm q' v.num,0,v.kid 0,e1⟩]) b (σ1.length::env) q))) ⟨t,H⟩:=by
 have ts:=GSys.sys_of hs
 obtain ⟨A,e0,e2,e3,e5,e8,e12,⟨vs,hv1,e13⟩,u1,nl3,e14⟩:=S
 show wpC Tryz.prog (.seq _ _) _ _
 have i1:=WO [a,b] false nl2 1 (by simp)
 simp only [Int.natCast_one,List.getElem_cons_zero,List.getElem_cons_succ] at i1
 obtain ⟨hk1,hg1⟩:=hv
 have hvs:=hv1.kids (by omega)
 obtain ⟨fop,fnn,fnl1,fty,fnl2,fks⟩:=v
 obtain ⟨x,rfl⟩:=oneG hk1
 simp only [GTerm.num,GTerm.kid,List.getD_cons_zero] at hg1 hns ⊢
 have gf:s.G fnn:=by
  simp [GSys.has] at hg1
  exact ⟨hg1.1,hg1.2⟩
 simp only [GTerm.cells] at hvs
 subst hvs
 have j0:=WO [x] false fnl2 0 (by simp)
 simp only [Int.natCast_zero,List.getElem_cons_zero] at j0
 have G0:s.G 0:=GSys.G0 ts
 have mul:=Kf ts hq2 gf
 obtain ⟨cs,hb,hc1,hc2,_,_⟩:=A.ms.tick l1
 simp only [GSys.cells,List.cons_append,List.nil_append] at hb
 generalize hres3:Q4 s d l1 (σ1++[⟨s.tm q' fnn,0,x,e1⟩]) b (σ1.length::env) q=res at *
 simp (disch:=omega) [e0,e2,e3,e5,e8,e12,e13,e14,hb,i1,j0,JS]
 refine Qa mul (by simp) ?_
 simp (disch:=omega) [e0,e2,e3,e5,e8,e12,e13,e14,i1,j0]
 refine Qk (Zbc A.ms (s.tm q' fnn) x e1 nl3 (by omega)) ?_
 rintro r H2 hr2
 obtain ⟨hbs2,rfl,A3⟩:=A.cell hr2
 simp (disch:=omega) [e0,e2,e3,e5,e8,e12,e13,e14,i1,j0]
 refine Qa (KA nl σ1.length env (by have:=be.1;omega)) (by simp) ?_
 have IH:=ih l1 (σ1++[⟨s.tm q' fnn,0,x,e1⟩]) b (σ1.length::env) q false H2 hbs2 M hd hl A3.ms (bd.snoc be1 G0) ⟨by have:=hle.1;simp;omega,fun j hj=>by
  rcases List.mem_cons.1 hj with rfl | hj
  ·simp
  ·have:=be.2 j hj;simp;omega⟩ (by simp;omega) hq (by rw [hres3];exact hns)
 rw [hres3] at IH
 simp (disch:=omega) [e0,e2,e3,e5,e8,e12,e13,e14]
 refine Qk IH ?_
 rintro r H4 hr
 obtain ⟨ws,e',bb,rfl,w4,hO,post⟩:=A3.tail hns hr
 simp (disch:=omega) [e0,e8,hO,w4,List.take_of_length_le,List.drop_of_length_le]
 exact post _ (by simp [e8]) (by simp) (by simp) (by simp)
theorem Zn0 (hs:s.sys=true) (ih:LkIH s d) (hd:3000 < l1+d) (hl:l1≤3000) (bd:BD s l1 σ1) (be:BE l1 σ1 env) (be1:BE l1 σ1 e1) (hm:σ1.length≤2 * l1+6) (hle:env.length≤2 * l1+6∧e1.length≤2 * l1+6) (hq:s.G q) (hq2:s.G q')
  (S:SkAt s M h H h0 5 n nl1 nl2 ty [a,b] env q q' nl l1 σ1 v e1 hbs O t) (hv:v.kidn=2) (hns:Q4 s d l1 (σ1++[⟨q',0,v.kid 0,e1⟩,⟨q',0,v.kid 1,e1⟩]) b ((σ1.length+1)::σ1.length::env) q≠.stuck) :
  wpC Tryz.prog (csn (csn (csn (csn (csn (csn (csn (csn WM)))))))) (J2 [.cell 8 true 4,.tmp 9,.tmp 10] h.length (JJ s M h h0 (Q4 s d l1 (σ1++[⟨q',0,v.kid 0,e1⟩,⟨q',0,v.kid 1,e1⟩]) b ((σ1.length+1)::σ1.length::env) q))) ⟨t,H⟩:=by
 have ts:=GSys.sys_of hs
 obtain ⟨A,e0,e2,e3,e5,e8,e12,⟨vs,hv1,e13⟩,u1,nl3,e14⟩:=S
 show wpC Tryz.prog (.seq _ _) _ _
 have i1:=WO [a,b] false nl2 1 (by simp)
 simp only [Int.natCast_one,List.getElem_cons_zero,List.getElem_cons_succ] at i1
 have hvs:=hv1.kids (by omega)
 obtain ⟨fop,fnn,fnl1,fty,fnl2,fks⟩:=v
 obtain ⟨x,y,rfl⟩:=twoG hv
 simp only [GTerm.kid,List.getD_cons_zero,List.getD_cons_succ] at hns ⊢
 simp only [GTerm.cells] at hvs
 subst hvs
 have j0:=WO [x,y] false fnl2 0 (by simp)
 have j1:=WO [x,y] false fnl2 1 (by simp)
 simp only [Int.natCast_zero,Int.natCast_one,List.getElem_cons_zero,List.getElem_cons_succ] at j0 j1
 have G0:s.G 0:=GSys.G0 ts
 obtain ⟨cs,hb,hc1,hc2,_,_⟩:=A.ms.tick l1
 simp only [GSys.cells,List.cons_append,List.nil_append] at hb
 generalize hres3:Q4 s d l1 (σ1++[⟨q',0,x,e1⟩,⟨q',0,y,e1⟩]) b ((σ1.length+1)::σ1.length::env) q=res at *
 simp (disch:=omega) [e0,e2,e3,e5,e8,e12,e13,e14,hb,i1,j0,JS]
 refine Qk (Zbc A.ms q' x e1 nl3 (by omega)) ?_
 rintro r H2 hr2
 obtain ⟨hbs2,rfl,A2⟩:=A.cell hr2
 simp (disch:=omega) [e0,e2,e3,e5,e8,e12,e13,e14,i1,j1]
 have bd3:=bd.snoc (c:=⟨q',0,x,e1⟩) be1 G0
 have be3:BE l1 (σ1++[(⟨q',0,x,e1⟩:PC)]) e1:=⟨be1.1,fun j hj=>by have:=be1.2 j hj;simp;omega⟩
 refine Qk (Zbc A2.ms q' y e1 nl3 (by simp;omega)) ?_
 rintro r H3 hr3
 obtain ⟨hbs3,rfl,A3⟩:=A2.cell hr3
 have bd4:=bd3.snoc (c:=⟨q',0,y,e1⟩) be3 G0
 have e12':σ1++[⟨q',0,x,e1⟩]++[⟨q',0,y,e1⟩]=σ1++[⟨q',0,x,e1⟩,⟨q',0,y,e1⟩]:=by simp
 rw [e12'] at A3 bd4
 have ln:(σ1++[(⟨q',0,x,e1⟩:PC)]).length=σ1.length+1:=by simp
 rw [ln]
 simp (disch:=omega) [e0,e2,e3,e5,e8,e12,e13,e14,i1,j0]
 refine Qa (KA nl σ1.length env (by have:=be.1;omega)) (by simp) ?_
 simp (disch:=omega) [e0,e2,e3,e5,e8,e12,e13,e14,i1,j0]
 have F2:=KA false (σ1.length+1) (σ1.length::env) (by have:=be.1;simp;omega)
 rw [Int.natCast_add,Int.natCast_one] at F2
 refine Qa F2 (by simp) ?_
 have IH:=ih l1 (σ1++[⟨q',0,x,e1⟩,⟨q',0,y,e1⟩]) b ((σ1.length+1)::σ1.length::env) q false H3 hbs3 M hd hl A3.ms bd4 ⟨by have:=hle.1;simp;omega,fun j hj=>by
  rcases List.mem_cons.1 hj with rfl | hj
  ·simp
  ·rcases List.mem_cons.1 hj with rfl | hj
   ·simp
   ·have:=be.2 j hj;simp;omega⟩ (by simp;omega) hq (by rw [hres3];exact hns)
 rw [hres3] at IH
 simp (disch:=omega) [e0,e2,e3,e5,e8,e12,e13,e14]
 refine Qk IH ?_
 rintro r H4 hr
 obtain ⟨ws,e',bb,rfl,w4,hO,post⟩:=A3.tail hns hr
 simp (disch:=omega) [e0,e8,hO,w4,List.take_of_length_le,List.drop_of_length_le]
 exact post _ (by simp [e8]) (by simp) (by simp) (by simp)
end
theorem idx_N {env:List Nat} {n:Int} (n0:0≤n) (n1:n.toNat < env.length) (nl:Bool):QS 1 (L nl (Vs env)) n=some (.rp [N (env.getD n.toNat 0)]):=by
 rw [Zdn (fun x:Int=>N x) (by simp) (Vs env) false nl n n0 (by simp;omega)]
 simp [Vs,List.getD_eq_getElem?_getD,n1]
theorem Zq1 {s:GSys} (hs:s.sys=true) {d:Nat} (ih:LkIH s d) {l:Nat} {σ:List PC} {n:Int} {nl1 nl2:Bool} {ty:List Int} {ks:List GTerm} {env:List Nat} {q:Int} {nl:Bool} {h H:List Box} {h0 hbs:List Nat} {M O:Nat} {t:Nat→LV}
  (hd:3000 < l+d) (hl:l≤3000) (A:RkN s M h H l σ h0 hbs O) (bd:BD s l σ) (be:BE l σ env) (hm:σ.length≤2 * l+8) (hq:s.G q)
  (e0:t 0=.ptr M 0) (e2:t 2=L nl (Vs env)) (e3:t 3=N q) (e5:t 5=.rp [N 0,N n,L nl1 ty,.sl false nl2 4 (Wp ks)]) (e8:t 8=.ptr O 0)
  (c0:0≤n∧n.toNat < env.length) {c:PC} (hc:σ[env.getD n.toNat 0]?=some c) (hns:Q4 s d l (σ.set (env.getD n.toNat 0) { c with k:=s.pl c.k q }) c.t c.e q≠.stuck) :
  wpC Tryz.prog (csn (csn (csn WM))) (J2 [.cell 8 true 4,.tmp 9,.tmp 10] h.length (JJ s M h h0 (Q4 s d l (σ.set (env.getD n.toNat 0) { c with k:=s.pl c.k q }) c.t c.e q))) ⟨t,H⟩:=by
 have ts:=GSys.sys_of hs
 obtain ⟨n0,n1⟩:=c0
 have i1:=idx_N n0 n1 nl
 have hj:env.getD n.toNat 0 < σ.length:=by
  rcases Nat.lt_or_ge (env.getD n.toNat 0) σ.length with g | g
  ·exact g
  ·rw [List.getElem?_eq_none g] at hc;simp at hc
 obtain ⟨b,cap,nlc,xa,xz,hbs1,hbM,hbl,hM,hB,hlen,hK⟩:=A.ms.cellAt hc
 have gk:=bd.gk c (List.mem_of_getElem? hc)
 obtain ⟨en1,en2⟩:=bd.env c (List.mem_of_getElem? hc)
 have pl:=Zdk ts gk hq
 have bd2:=bd.book _ hc (GSys.Gpl ts c.k q)
 have bO:b≠O:=fun e=>A.o4 (by rw [hbs1,← e];simp)
 have A2:RkN s M h (H.set b (some (xa++(ZaS { c with k:=s.pl c.k q } nlc++xz)))) l (σ.set (env.getD n.toNat 0) { c with k:=s.pl c.k q }) h0 hbs O :=
  A.step (fun i hi=>.inl hi) (hK _) ((Fr.refl M hbs H).setI (by rw [hbs1];simp) _)
 have IH:=ih l _ c.t c.e q nlc _ hbs M hd hl A2.ms bd2 ⟨en1,fun j hj=>by rw [List.length_set];exact en2 j hj⟩ (by rw [List.length_set];omega) hq hns
 have hbs':∀ x:Box,(H.set b x)[b]?=some x:=fun x=>List.getElem?_set_self hbl
 have hbs2:∀ x:Box,(H.set b x)[M]?=H[M]?:=fun x=>List.getElem?_set_ne hbM
 generalize Q4 s d l (σ.set (env.getD n.toNat 0) { c with k:=s.pl c.k q }) c.t c.e q=res at *
 have ih7:QS 7 (.ha b 7 0 σ.length cap) ((env.getD n.toNat 0:Nat):Int)=some (.ptr b (env.getD n.toNat 0 * 7)):=by rw [Jb hj,Nat.zero_add]
 generalize env.getD n.toNat 0=j at *
 obtain ⟨cb,ck,⟨cop,ccn,cnl1,cty,cnl2,cks⟩,ce⟩:=c
 simp only [GSys.cells,ZaS,GTerm.cells,List.cons_append,List.nil_append] at hM hB IH A2
 clear hj hbl hK
 have g1:∀ (z:List LV) (k m:Nat),((xa++z).drop (j * 7+k)).take m=(z.drop k).take m:=fun z k m=>get_at hlen k m
 have z00:eqB 0 0=true:=by decide
 show wpC Tryz.prog (.seq _ _) _ _
 simp (disch:=omega) [e0,e2,e3,e5,e8,i1,z00,hM,hB,ih7,g1]
 refine ⟨by omega,?_⟩
 have sp:∀ x:LV,List.take (j * 7+1) (xa++N cb::N ck::N cop::N ccn::L cnl1 cty::LV.sl false cnl2 4 (Wp cks)::L nlc (Vs ce)::xz)++x::List.drop (j * 7+1+1) (xa++N cb::N ck::N cop::N ccn::L cnl1 cty::LV.sl false cnl2 4 (Wp cks)::L nlc (Vs ce)::xz)=xa++N cb::x::N cop::N ccn::L cnl1 cty::LV.sl false cnl2 4 (Wp cks)::L nlc (Vs ce)::xz:=fun x=>by
  rw [← hlen,List.take_append,List.drop_append,List.take_of_length_le (by omega),List.drop_of_length_le (by omega)]
  simp [show xa.length+1 - xa.length=1 by omega,show xa.length+1+1 - xa.length=2 by omega]
 refine Qa pl (by simp) ?_
 simp (disch:=omega) [e0,e2,e3,e5,e8,i1,z00,hM,hB,ih7,g1,sp,hbs',hbs2]
 refine ⟨by omega,by omega,by omega,?_⟩
 refine Qk IH ?_
 rintro r H1 hr
 obtain ⟨ws,e',bb,rfl,w4,hO,post⟩:=A2.tail hns hr
 simp (disch:=omega) [e0,e8,hO,w4,List.take_of_length_le,List.drop_of_length_le]
 exact post _ (by simp [e8]) (by simp) (by simp) (by simp)
theorem ZdE {r:LR} {f:Nat→List PC→GTerm→List Nat→LR} (h:r.bind f≠.stuck):r≠.stuck:=by
 rintro rfl
 exact h rfl
theorem vals:eqB 1 0=false∧eqB 1 1=true∧eqB 4 0=false∧eqB 4 1=false∧eqB 4 4=true∧eqB 6 0=false∧eqB 6 1=false∧eqB 6 4=false∧eqB 6 6=true∧eqB 7 0=false∧eqB 7 1=false∧eqB 7 4=false∧eqB 7 6=false∧eqB 7 7=true∧eqB 9 0=false∧eqB 9 1=false∧eqB 9 4=false∧eqB 9 6=false∧eqB 9 7=false∧eqB 9 9=true∧eqB 11 0=false∧eqB 11 1=false∧eqB 11 4=false∧eqB 11 6=false∧eqB 11 7=false∧eqB 11 9=false∧eqB 11 11=true:=by decide
theorem look3_ok {s:GSys} (hs:s.sys=true) (sw:s.wf):∀ d,LkIH s d:=by
 have ts:=GSys.sys_of hs
 intro d
 induction d with
 | zero=>intro l σ t env q nl h hbs M h1 h2;omega
 | succ d ih =>
  intro l σ t env q nl h hbs M hd hl m bd be hm hq hns
  have hex:=JJ.ex m hns (fun l' σ' v e he=>(Jw ts _ _ _ _ _ _ _ _ _ _ he bd be).2.2.1)
  refine QD.of_codeOf Zkd Qz (by simp) hex ?_
  obtain ⟨op,n,nl1,ty,nl2,ks⟩:=t
  show wpC _ (.seq _ (.seq _ (.seq _ _))) _ _
  rw [Xv,Xv]
  refine Zb7 (fun t' H=>l < 3000∧∃ O,t' 0=.ptr M 0∧t' 2=L nl (Vs env)∧t' 3=N q∧t' 5=.rp [N op,N n,L nl1 ty,.sl false nl2 4 (Wp ks)]∧t' 8=.ptr O 0∧RkN s M h H (l+1) σ hbs hbs O) ?_ ?_
  ·obtain ⟨cs,hb,hc1,hc2,hc3,m1⟩:=m.tick (l+1)
   have lM:=m.lM
   have ga:∀ k:List Box,(h++k)[M]?=h[M]?:=fun k=>Q5 lM
   have gs:∀ (k:List Box) (x:Box),(h++k).set M x=h.set M x++k:=fun k x=>List.set_append_left _ _ lM
   have m2:=m1.app [none,some [N 0,N 0,.sl true true 1 [],.sl true true 1 []]]
   have f2:=((Fr.refl M hbs h).setM (some (s.cells++[cs,N (l+1:Nat)]))).appR [none,some [N 0,N 0,.sl true true 1 [],.sl true true 1 []]]
   have hni:h.length+1 ∉ hbs:=fun hi=>by have:=m.lt _ hi;omega
   have hne:h.length+1≠M:=by omega
   have s1:∀ x:Box,(h.set M x)[M]?=some x:=fun x=>List.getElem?_set_self lM
   have s1a:∀ (x:Box) (k:List Box),(h.set M x++k)[M]?=some x:=fun x k=>by rw [Q5 (by rw [List.length_set];exact lM)];exact s1 x
   have gl:∀ (x:Box) (k:List Box),(h.set M x++none::k)[h.length+1]?=k[0]?:=fun x k=>by rw [List.getElem?_append_right (by simp)];simp
   have gls:∀ (x:Box) (a:Box) (k:List Box) (y:Box),(h.set M x++[a,y]).set (h.length+1)=fun z=>h.set M x++[a,z]:=fun x a k y=>by funext z;rw [List.set_append_right _ _ (by simp)];simp
   simp only [GSys.cells,List.cons_append,List.nil_append] at hb m2 f2
   have ec:((l+1:Nat):Int)=(l:Int)+1:=by omega
   rw [ec] at m2 f2
   clear lM
   by_cases h3:3000≤l
   ·have hb3:ltB 3000 ((l:Int)+1)=true:=by rw [Qf];omega
    rw [Q4,if_pos h3]
    simp (disch:=omega) [WM,ga,gs,QN,XQ,hb,Qu,Qo,Qg,hb3,s1a,gl]
    exact Zai f2 (by omega) (by simp) (by simp) (by simp) ⟨_,_,_,_,rfl⟩
   ·have hb3:ltB 3000 ((l:Int)+1)=false:=by rw [Qd];omega
    simp (disch:=omega) [WM,ga,gs,QN,XQ,hb,Qu,Qo,Qg,hb3,s1a,gl]
    exact ⟨by omega,rfl,m2,f2,fun i hi=>.inl hi,by omega,by simp,hne,hni,by rw [gl];rfl⟩
  ·rintro t' H hf ⟨h3,O,e0,e2,e3,e5,e8,A⟩
   clear hf
   have hD:Q4 s (d+1) l σ (.mk op n nl1 ty nl2 ks) env q=XA s (Q4 s d) (l+1) σ (.mk op n nl1 ty nl2 ks) env q:=by rw [Q4,if_neg (by omega)]
   rw [hD] at hns ⊢
   clear hD
   have bd1:BD s (l+1) σ:=bd.up (by omega)
   have be1:BE (l+1) σ env:=be.up (by omega) (Nat.le_refl _)
   have hop:op=0∨op=2∨op=3∨op=10∨op=5∨op=8∨op=12∨(op=1∨op=4∨op=6∨op=7∨op=9∨op=11):=by
    unfold XA GTerm.opc at hns
    repeat' split at hns
    all_goals simp_all
   have hgo:∀ {k:GTerm} {r:Int} {l1:Nat} {σ1:List PC} {v:GTerm} {e1:List Nat},Q4 s d (l+1) σ k env r=.ok l1 σ1 v e1→3000 < l1+d∧l1≤3000∧BD s l1 σ1∧BE l1 σ1 env∧BE l1 σ1 e1∧σ1.length≤2 * l1+6∧(env.length≤2 * l1+6∧e1.length≤2 * l1+6):=by
    intro k r l1 σ1 v e1 hL
    obtain ⟨a1,a2,a3,a4,a5,a6,a7⟩:=Jw ts _ _ _ _ _ _ _ _ _ _ hL bd1 be1
    have:=be.1
    exact ⟨by omega,a2,a5,be1.up (by omega) a3,⟨by omega,a7⟩,by omega,by omega,a6⟩
   have hasG:∀ {a:Int},s.has a=true→s.G a:=fun h=>by
    simp [GSys.has] at h
    exact ⟨h.1,h.2⟩
   rcases hop with rfl | rfl | rfl | rfl | rfl | rfl | rfl | hop
   ·by_cases c0:0≤n∧n.toNat < env.length
    ·cases hc:σ[env.getD n.toNat 0]? with
     | none=>exact absurd (by simp only [XA,GTerm.opc,GTerm.num,if_true,if_pos c0,hc]) hns
     | some c =>
      have hS:XA s (Q4 s d) (l+1) σ (.mk 0 n nl1 ty nl2 ks) env q=Q4 s d (l+1) (σ.set (env.getD n.toNat 0) { c with k:=s.pl c.k q }) c.t c.e q:=by simp only [XA,GTerm.opc,GTerm.num,if_true,if_pos c0,hc]
      rw [hS] at hns ⊢
      exact Zq1 hs ih (by omega) (by omega) A bd1 be1 (by omega) hq e0 e2 e3 e5 e8 c0 hc hns
    ·refine absurd ?_ hns
     simp only [XA,GTerm.opc,GTerm.num,if_true]
     exact if_neg c0
   ·rw [ZlZ] at hns ⊢
    by_cases hk:ks.length=2
    ·rw [if_pos hk] at hns ⊢
     obtain ⟨a,b,rfl⟩:=twoG hk
     refine VJ hs sw ih (by omega) (by omega) A bd1 be1 (by omega) hq e0 e2 e3 e5 e8 (by omega) (by simp) (q':=q) (by simp [Yd,eqB]) (by simp [Yd,eqB]) rfl (ZdE hns) ?_
     intro l1 σ1 v e1 hbs' t1 H1 hL S
     simp only [hL,LR.bind] at hns
     obtain ⟨b1,b2,b3,b4,b5,b6,b7⟩:=hgo hL
     by_cases hv:0≤v.num∧v.num≤2
     ·rw [if_pos hv] at hns ⊢
      exact Zrj hs ih b1 b2 b3 b4 b5 b6 b7 hq hq S hv hns
     ·rw [if_neg hv] at hns;exact absurd rfl hns
    ·rw [if_neg hk] at hns;exact absurd rfl hns
   ·rw [Zoh] at hns ⊢
    by_cases hk:ks.length=3
    ·rw [if_pos hk] at hns ⊢
     obtain ⟨a,b,c,rfl⟩:=Zmn hk
     refine VJ hs sw ih (by omega) (by omega) A bd1 be1 (by omega) hq e0 e2 e3 e5 e8 (by omega) (by simp) (q':=q) (by simp [Yd,eqB]) (by simp [Yd,eqB]) rfl (ZdE hns) ?_
     intro l1 σ1 v e1 hbs' t1 H1 hL S
     simp only [hL,LR.bind] at hns
     obtain ⟨b1,b2,b3,b4,b5,b6,b7⟩:=hgo hL
     exact look3_if hs ih b1 b2 b3 b4 b5 b6 b7 hq hq S hns
    ·rw [if_neg hk] at hns;exact absurd rfl hns
   ·rw [Zlu] at hns ⊢
    by_cases hk:ks.length=2
    ·rw [if_pos hk] at hns ⊢
     obtain ⟨a,b,rfl⟩:=twoG hk
     refine VJ hs sw ih (by omega) (by omega) A bd1 be1 (by omega) hq e0 e2 e3 e5 e8 (by omega) (by simp) (q':=q) (by simp [Yd,eqB]) (by simp [Yd,eqB]) rfl (ZdE hns) ?_
     intro l1 σ1 v e1 hbs' t1 H1 hL S
     simp only [hL,LR.bind] at hns
     obtain ⟨b1,b2,b3,b4,b5,b6,b7⟩:=hgo hL
     by_cases hv:v.kidn=1∧s.has v.num=true
     ·rw [if_pos hv] at hns ⊢
      exact Zro hs ih b1 b2 b3 b4 b5 b6 b7 hq hq S hv hns
     ·rw [if_neg hv] at hns;exact absurd rfl hns
    ·rw [if_neg hk] at hns;exact absurd rfl hns
   ·rw [Zhm] at hns ⊢
    by_cases hk:ks.length=2∧s.has n=true
    ·rw [if_pos hk] at hns ⊢
     obtain ⟨a,b,rfl⟩:=twoG hk.1
     refine VJ hs sw ih (by omega) (by omega) A bd1 be1 (by omega) hq e0 e2 e3 e5 e8 (by omega) (by simp) (q':=s.tm q n) (by simp [Yd,eqB]) (fun _=>hasG hk.2) rfl (ZdE hns) ?_
     intro l1 σ1 v e1 hbs' t1 H1 hL S
     simp only [hL,LR.bind] at hns
     obtain ⟨b1,b2,b3,b4,b5,b6,b7⟩:=hgo hL
     by_cases hv:v.kidn=2
     ·rw [if_pos hv] at hns ⊢
      exact Zn0 hs ih b1 b2 b3 b4 b5 b6 b7 hq (GSys.Gtm ts q n) S hv hns
     ·rw [if_neg hv] at hns;exact absurd rfl hns
    ·rw [if_neg hk] at hns;exact absurd rfl hns
   ·rw [Zjk] at hns ⊢
    by_cases hk:ks.length=3∧s.has n=true
    ·rw [if_pos hk] at hns ⊢
     obtain ⟨a,b,c,rfl⟩:=Zmn hk.1
     refine VJ hs sw ih (by omega) (by omega) A bd1 be1 (by omega) hq e0 e2 e3 e5 e8 (by omega) (by simp) (q':=s.tm q n) (by simp [Yd,eqB]) (fun _=>hasG hk.2) rfl (ZdE hns) ?_
     intro l1 σ1 v e1 hbs' t1 H1 hL S
     simp only [hL,LR.bind] at hns
     obtain ⟨b1,b2,b3,b4,b5,b6,b7⟩:=hgo hL
     by_cases hv:v.kidn=1∧(v.opc=6∨v.opc=7)
     ·rw [if_pos hv] at hns ⊢
      by_cases h7:v.opc=7
      ·rw [if_pos h7] at hns ⊢
       exact Zo3 hs ih b1 b2 b3 b4 b5 b6 b7 hq (GSys.Gtm ts q n) S ⟨hv.1,h7⟩ hns
      ·rw [if_neg h7] at hns ⊢
       exact ZnL hs ih b1 b2 b3 b4 b5 b6 b7 hq (GSys.Gtm ts q n) S ⟨hv.1,by omega⟩ hns
     ·rw [if_neg hv] at hns;exact absurd rfl hns
    ·rw [if_neg hk] at hns;exact absurd rfl hns
   ·rw [Zi1] at hns ⊢
    by_cases hk:ks.length=2∧s.has n=true
    ·rw [if_pos hk] at hns ⊢
     obtain ⟨a,b,rfl⟩:=twoG hk.1
     refine VJ hs sw ih (by omega) (by omega) A bd1 be1 (by omega) hq e0 e2 e3 e5 e8 (by omega) (by simp) (q':=s.tm q n) (by simp [Yd,eqB]) (fun _=>hasG hk.2) rfl (ZdE hns) ?_
     intro l1 σ1 v e1 hbs' t1 H1 hL S
     simp only [hL,LR.bind] at hns
     obtain ⟨b1,b2,b3,b4,b5,b6,b7⟩:=hgo hL
     by_cases hv:v.kidn=1∧s.has v.num=true
     ·rw [if_pos hv] at hns ⊢
      exact Zp8 hs ih b1 b2 b3 b4 b5 b6 b7 hq (GSys.Gtm ts q n) S hv hns
     ·rw [if_neg hv] at hns;exact absurd rfl hns
    ·rw [if_neg hk] at hns;exact absurd rfl hns
   ·have hS:XA s (Q4 s d) (l+1) σ (.mk op n nl1 ty nl2 ks) env q=.ok (l+1) σ (.mk op n nl1 ty nl2 ks) env:=by
     rcases hop with rfl | rfl | rfl | rfl | rfl | rfl<;>simp [XA,GTerm.opc]
    rw [hS]
    have hO:=A.box
    show wpC Tryz.prog (.seq _ _) _ _
    rcases hop with rfl | rfl | rfl | rfl | rfl | rfl
    all_goals
     simp (disch:=omega) [e0,e2,e3,e5,e8,hO,vals]
     exact A.val (u:=false) (nl:=nl) (.inl rfl) (by simp [e8]) (by simp) (by simp) (by simp [GTerm.cells])
structure LkAt (s:GSys) (M k0:Nat) (h H:List Box) (l:Nat) (σ:List PC) (ids:List Nat) (O:Nat):Prop where
 ms:MS s M k0 H l σ ids
 fr:Fr M ids h H
 o1:h.length≤O
 o2:O < H.length
 o3:O≠M
 o4:O ∉ ids
 box:H[O]?=some (some [N 0,N 0,.sl true true 1 [],.sl true true 1 []])
theorem LkAt.n {s:GSys} {M k0:Nat} {h H:List Box} {l:Nat} {σ:List PC} {ids:List Nat} {O:Nat} (A:LkAt s M k0 h H l σ ids O):LkN s M k0 h H l σ ids [] O :=
 ⟨by rw [List.append_nil];exact A.ms,A.fr,by simp,A.o1,A.o2,A.o3,by rw [List.append_nil];exact A.o4,A.box⟩
theorem Y4 {r:LR} {f:Nat→List PC→GTerm→List Nat→LR} (h:r.bind f≠.stuck):r≠.stuck:=by
 rintro rfl
 exact h rfl
theorem look_ok {s:GSys} (hs:s.sys=true) (sw:s.wf):∀ (d l:Nat) (σ:List PC) (t:GTerm) (env:List Nat) (q:Int) (nl:Bool) (h:List Box) (ids:List Nat) (M k0:Nat),3000 < l+d→l≤3000→MS s M k0 h l σ ids→BD s l σ→BE l σ env→σ.length≤2 * l+8→s.G q→Q4 s d l σ t env q≠.stuck →
  QD Tryz.prog QF [.ptr M 0,t.lv,PL false nl (Y6 ids env),N q] h (Jm s M k0 h ids (Q4 s d l σ t env q)):=by
 have ts:=GSys.sys_of hs
 intro d
 induction d with
 | zero=>intro l σ t env q nl h ids M k0 h1 h2;omega
 | succ d ih =>
  intro l σ t env q nl h ids M k0 hd hl m bd be hm hq hns
  have hex:=Jm.ex m hns (fun l' σ' v e he=>(Jw ts _ _ _ _ _ _ _ _ _ _ he bd be).2.2.1)
  refine QD.of_codeOf JY Qz (by simp) hex ?_
  simp only [Za]
  rw [Xv]
  refine Zb7 (fun t' H=>∃ O,t' 0=.ptr M 0∧t' 2=PL false nl (Y6 ids env)∧t' 3=N q∧t' 5=.rp t.cells∧t' 8=.ptr O 0∧LkAt s M k0 h H (l+1) σ ids O) ?_ ?_
  ·obtain ⟨nm,hnm,hb⟩:=m.box
   have lM:=m.lM
   have ga:∀ k:List Box,(h++k)[M]?=h[M]?:=fun k=>Q5 lM
   have gs:∀ (k:List Box) (x:Box),(h++k).set M x=h.set M x++k:=fun k x=>List.set_append_left _ _ lM
   have m1:=(m.app [none,some [N 0,N 0,.sl true true 1 [],.sl true true 1 []]]).tick (l':=l+1) ⟨nm,hnm,rfl⟩
   have f1:=(Fr.app M ids h [none,some [N 0,N 0,.sl true true 1 [],.sl true true 1 []]]).setM (some (s.cells++[PL true nm (ids.drop k0),N (l+1:Nat),B false]))
   rw [gs] at m1 f1
   have hni:h.length+1 ∉ ids:=fun hi=>by have:=m.lt _ hi;omega
   have hne:h.length+1≠M:=by omega
   simp only [GSys.cells,List.cons_append,List.nil_append] at hb m1 f1
   generalize ids.drop k0=dr at *
   clear lM
   simp (disch:=omega) [ga,gs,QN,XQ,hb,Qu,Qo,Qg]
   have ec:((l+1:Nat):Int)=(l:Int)+1:=by omega
   rw [ec] at m1 f1
   exact ⟨m1,f1,by omega,by simp,hne,hni,by rw [List.getElem?_append_right (by simp)];simp⟩
  ·rintro t' H hf ⟨O,e0,e2,e3,e5,e8,A⟩
   clear hf
   obtain ⟨nm,hnm,hb⟩:=A.ms.box
   have lM:=A.ms.lM
   have ec:((l+1:Nat):Int)=(l:Int)+1:=by omega
   have s1:∀ x:Box,(H.set M x)[M]?=some x:=fun x=>List.getElem?_set_self lM
   have s2:∀ x:Box,(H.set M x)[O]?=some (some [N 0,N 0,.sl true true 1 [],.sl true true 1 []]):=fun x=>by rw [List.getElem?_set_ne (fun e=>A.o3 e.symm)];exact A.box
   have s3:∀ y:Box,(H.set O y)[O]?=some y:=fun y=>List.getElem?_set_self A.o2
   have s4:∀ x y:Box,((H.set M x).set O y)[O]?=some y:=fun x y=>List.getElem?_set_self (by rw [List.length_set];exact A.o2)
   have s5:=A.box
   have hlen:h.length≤H.length:=A.fr.len
   rw [ec] at hb
   simp only [GSys.cells,List.cons_append,List.nil_append] at hb
   have failM:∀ (a b:Int) (x0 y0 z0:LV) (x:Box),Jm s M k0 h ids .fail (.tup [.agg [N a,N b,x0,y0],z0]) ((H.set M (some [N s.size,L s.n1 s.plus,L s.n2 s.times,LB s.n3 s.below,PL true nm (ids.drop k0),N ((l:Int)+1),B true])).set O x):=fun _ _ _ _ _ x =>
    ⟨⟨_,_,_,_,_,_,by rw [List.getElem?_set_ne A.o3,s1]⟩,(A.fr.setM _).set A.o1 _,⟨_,_,_,_,_,rfl⟩⟩
   generalize ids.drop k0=dr at *
   clear lM
   by_cases h3:3000≤l
   ·have hD:Q4 s (d+1) l σ t env q=.fail:=by rw [Q4,if_pos h3]
    rw [hD]
    have hb3:ltB 3000 ((l:Int)+1)=true:=by rw [Qf];omega
    simp (disch:=omega) [e0,e2,e3,e5,e8,hb,hb3,s1,s2,s3,s4]
    refine VH (O:=O) (by simp) (by simp [e8]) (by simp [s4];rfl) (by simp) (by simpa using hlen) ?_
    simpa using failM 0 0 _ _ _ _
   ·have hD:Q4 s (d+1) l σ t env q=XA s (Q4 s d) (l+1) σ t env q:=by rw [Q4,if_neg h3]
    rw [hD] at hns ⊢
    have hb3:ltB 3000 ((l:Int)+1)=false:=by rw [Qd];omega
    have bd1:BD s (l+1) σ:=bd.up (by omega)
    have be1:BE (l+1) σ env:=be.up (by omega) (Nat.le_refl _)
    obtain ⟨op,n,nl1,ty,nl2,ks⟩:=t
    simp only [GTerm.cells] at e5
    have hop:op=0∨op=2∨op=3∨op=10∨op=5∨op=8∨op=12∨(op=1∨op=4∨op=6∨op=7∨op=9∨op=11):=by
     unfold XA GTerm.opc at hns
     repeat' split at hns
     all_goals simp_all
    have c8:∀ {v:GTerm} {vs:List LV},JL v vs→∃ x y,vs=[N v.opc,N v.num,x,y]:=fun h=>h.num
    rcases hop with rfl | rfl | rfl | rfl | rfl | rfl | rfl | hop
    ·by_cases c0:0≤n∧n.toNat < env.length
     ·cases hc:σ[env.getD n.toNat 0]? with
      | none=>exact absurd (by simp only [XA,GTerm.opc,GTerm.num,if_true,if_pos c0,hc]) hns
      | some c =>
       have hS:XA s (Q4 s d) (l+1) σ (.mk 0 n nl1 ty nl2 ks) env q=Q4 s d (l+1) (σ.set (env.getD n.toNat 0) { c with k:=s.pl c.k q }) c.t c.e q:=by simp only [XA,GTerm.opc,GTerm.num,if_true,if_pos c0,hc]
       rw [hS] at hns ⊢
       obtain ⟨n0,n1⟩:=c0
       have i1:QS 1 (PL false nl (Y6 ids env)) n=some (.rp [.ptr (ids.getD (env.getD n.toNat 0) 0) 0]):=by
        rw [Zdn (fun p:Nat=>LV.ptr p 0) (by simp) (Y6 ids env) false nl n n0 (by simp;omega)]
        simp [Y6,List.getD_eq_getElem?_getD,n1]
       have hj:env.getD n.toNat 0 < σ.length:=be.2 _ (by rw [List.getD_eq_getElem?_getD,List.getElem?_eq_getElem n1];exact List.getElem_mem _)
       have hC:=JO (ids:=ids) (j:=env.getD n.toNat 0) (by rw [A.ms.len];exact hj)
       obtain ⟨nlc,hcell⟩:=A.ms.cell _ c hc
       have hCM:ids.getD (env.getD n.toNat 0) 0≠M:=fun e=>A.ms.nM (by rw [← e];exact hC)
       have hCO:ids.getD (env.getD n.toNat 0) 0≠O:=fun e=>A.o4 (by rw [← e];exact hC)
       have hCl:=A.ms.lt _ hC
       have gk:=bd.gk c (List.mem_of_getElem? hc)
       obtain ⟨en1,en2⟩:=bd1.env c (List.mem_of_getElem? hc)
       have m2:=A.ms.book hc (k:=s.pl c.k q) ⟨nlc,rfl⟩
       have bd2:=bd1.book _ hc (GSys.Gpl ts c.k q)
       have f2:Fr M ids h (H.set (ids.getD (env.getD n.toNat 0) 0) (some (K8 ids { c with k:=s.pl c.k q } nlc))):=A.fr.setI hC _
       have pl:=ZdB ts gk hq
       have t1:∀ x:Box,(H.set (ids.getD (env.getD n.toNat 0) 0) x)[ids.getD (env.getD n.toNat 0) 0]?=some x:=fun x=>List.getElem?_set_self hCl
       have IH:=ih (l+1) _ c.t c.e q nlc _ ids M k0 (by omega) (by omega) m2 bd2 ⟨en1,fun j hj=>by rw [List.length_set];exact en2 j hj⟩ (by rw [List.length_set];omega) hq hns
       have oH2:O < (H.set (ids.getD (env.getD n.toNat 0) 0) (some (K8 ids { c with k:=s.pl c.k q } nlc))).length:=by rw [List.length_set];exact A.o2
       have oB:(H.set (ids.getD (env.getD n.toNat 0) 0) (some (K8 ids { c with k:=s.pl c.k q } nlc)))[O]?=some (some [N 0,N 0,.sl true true 1 [],.sl true true 1 []]):=by rw [List.getElem?_set_ne hCO];exact A.box
       generalize Q4 s d (l+1) (σ.set (env.getD n.toNat 0) { c with k:=s.pl c.k q }) c.t c.e q=res at *
       obtain ⟨cb,ck,⟨cop,cn,cnl1,cty,cnl2,cks⟩,ce⟩:=c
       simp only [K8,GTerm.cells,List.cons_append,List.nil_append] at hcell IH f2 oH2 oB
       generalize ids.getD (env.getD n.toNat 0) 0=C at *
       clear hCl
       simp (disch:=omega) [e0,e2,e3,e5,e8,hb,hb3,s1,s2,s3,s4,s5,i1,hcell]
       refine Qa pl (by simp) ?_
       simp (disch:=omega) [e0,e2,e3,e5,e8,hb,s1,s2,s3,s4,s5,i1,hcell,t1]
       refine Qk IH ?_
       rintro r H1 hr
       obtain ⟨⟨vs,e',rfl,v4⟩,f3⟩:=hr.el hns
       have hO:H1[O]?=some (some [N 0,N 0,.sl true true 1 [],.sl true true 1 []]):=by rw [f3.same O oH2 A.o3 A.o4];exact oB
       simp (disch:=omega) [e0,e8,hO,v4,List.take_of_length_le,List.drop_of_length_le]
       refine Zo8 hr f3 v4 f2 A.o1 oH2 A.o3 A.o4 ?_ ?_ ?_
       ·simp [e8]
       ·simp
       ·simp
     ·refine absurd ?_ hns
      simp only [XA,GTerm.opc,GTerm.num,if_true]
      exact if_neg c0
    ·rw [ZlZ] at hns ⊢
     by_cases hk:ks.length=2
     ·rw [if_pos hk] at hns ⊢
      obtain ⟨a,b,rfl⟩:=twoG hk
      have i0:=WO [a,b] false nl2 0 (by simp)
      have i1:=WO [a,b] false nl2 1 (by simp)
      simp only [Int.natCast_zero,Int.natCast_one,List.getElem_cons_zero,List.getElem_cons_succ,List.getD_cons_zero,List.getD_cons_succ] at i0 i1 hns ⊢
      have hns1:=Y4 hns
      have IH1:=ih (l+1) σ a env q nl H (ids++[]) M k0 (by omega) (by omega) A.n.ms bd1 be1 (by omega) hq hns1
      rw [List.append_nil] at IH1
      cases hres:Q4 s d (l+1) σ a env q with
      | stuck=>exact absurd hres hns1
      | fail =>
       rw [hres] at IH1
       simp only [LR.bind]
       simp (disch:=omega) [e0,e2,e3,e5,e8,hb,hb3,s1,s2,s3,s4,s5,i0,JS]
       refine Qk IH1 ?_
       rintro r H1 hr
       obtain ⟨hf1,fr1,oH1,hO,a1,b1,x1,y1,z1,rfl⟩:=A.n.fails (by rw [List.append_nil];exact hr)
       have fO:∀ k:List Box,(H1++k)[O]?=some (some [N 0,N 0,.sl true true 1 [],.sl true true 1 []]):=fun k=>by rw [Q5 oH1];exact hO
       have fL:∀ _:Unit,O < (H1++[none]).length:=fun _=>by simp;omega
       clear oH1
       simp (disch:=omega) [e0,e2,e3,e5,e8,i1,QN,Qo]
       obtain ⟨bop,bn,bnl1,bty,bnl2,bks⟩:=b
       refine Qk (Zgf (hf1.app [none]) _ _ _ _ _ _) ?_
       rintro r H2 ⟨hf2,fr2,a2,b2,x2,y2,z2,rfl⟩
       have fr02:Fr M ids h H2:=(fr1.appR [none]).trans0 fr2.weak
       have oH2:O < H2.length:=by have:=fr2.len;have:=fL ();omega
       have fO2:∀ k:List Box,(H2++k)[O]?=some (some [N 0,N 0,.sl true true 1 [],.sl true true 1 []]):=fun k=>by rw [Q5 oH2,fr2.same O (fL ()) A.o3 (by simp)];exact fO _
       have fL2:∀ _:Unit,O < (H2++[none]).length:=fun _=>by simp;omega
       clear oH2 fL
       simp (disch:=omega) [e0,e2,e3,e5,e8,QN,Qo,fO2,ZfZ]
       refine Ks (.inr rfl) (hf2.app [none]) (fr02.appR [none]) A.o1 (fL2 ()) A.o3 ?_ ?_
       ·simp [e8]
       ·exact ⟨_,_,_,_,rfl⟩
      | ok l1 σ1 v1 e1 =>
       rw [hres] at IH1 hns
       simp only [LR.bind] at hns ⊢
       have le1:=Jw ts d (l+1) σ a env q l1 σ1 v1 e1 hres bd1 be1
       obtain ⟨la,lb,lc,ld,bd2,le2,lf⟩:=le1
       have be2:BE l1 σ1 e1:=⟨by omega,lf⟩
       simp (disch:=omega) [e0,e2,e3,e5,e8,hb,hb3,s1,s2,s3,s4,s5,i0,JS]
       refine Qk IH1 ?_
       rintro r H1 hr
       obtain ⟨new,u1,nl3,vs,hv1,rfl,A1⟩:=A.n.next (by rw [List.append_nil];exact hr)
       obtain ⟨vx,vy,rfl⟩:=hv1.num
       have hO:=A1.box
       simp (disch:=omega) [e0,e2,e3,e5,e8,i1,QN,Qo]
       have hns2:0≤v1.num∧v1.num≤2:=by
        by_cases hh:0≤v1.num∧v1.num≤2
        ·exact hh
        ·rw [if_neg hh] at hns;exact absurd rfl hns
       rw [if_pos hns2] at hns ⊢
       have hns3:=Y4 hns
       rw [A1.env (e:=env) (by rw [A.ms.len];exact be.2)]
       have A2:=A1.app [none]
       have IH2:=ih l1 σ1 b env q nl (H1++[none]) (ids++new) M k0 (by omega) (by omega) A2.ms bd2 (be.up (by omega) lc) (by omega) hq hns3
       cases hres2:Q4 s d l1 σ1 b env q with
       | stuck=>exact absurd hres2 hns3
       | fail =>
        rw [hres2] at IH2
        simp only [LR.bind]
        refine Qk IH2 ?_
        rintro r H2 hr2
        obtain ⟨hf2,fr2,oH2,hO2,a2,b2,x2,y2,z2,rfl⟩:=A2.fails hr2
        have fO2:∀ k:List Box,(H2++k)[O]?=some (some [N 0,N 0,.sl true true 1 [],.sl true true 1 []]):=fun k=>by rw [Q5 oH2];exact hO2
        have fL2:∀ _:Unit,O < (H2++[none]).length:=fun _=>by simp;omega
        clear oH2
        simp (disch:=omega) [e0,e2,e3,e5,e8,QN,Qo,fO2,ZfZ]
        refine Ks (.inr rfl) (hf2.app [none]) (fr2.appR [none]) A.o1 (fL2 ()) A.o3 ?_ ?_
        ·simp [e8]
        ·exact ⟨_,_,_,_,rfl⟩
       | ok l2 σ2 v2 e2' =>
        rw [hres2] at IH2 hns
        simp only [LR.bind] at hns ⊢
        have hns4:0≤v2.num∧v2.num≤2:=by
         by_cases hh:0≤v2.num∧v2.num≤2
         ·exact hh
         ·rw [if_neg hh] at hns;exact absurd rfl hns
        rw [if_pos hns4]
        refine Qk IH2 ?_
        rintro r H2 hr2
        obtain ⟨new2,u2,nl4,vs2,hv2,rfl,A3⟩:=A2.next hr2
        obtain ⟨wx,wy,rfl⟩:=hv2.num
        have A4:=A3.app [none]
        have fO2:=A4.box
        have em:(v1.num+v2.num) % 3=(v1.num+v2.num).tmod 3:=by rw [Int.tmod_eq_emod_of_nonneg (by omega)]
        simp (disch:=omega) [e0,e2,e3,e5,e8,QN,Qo,fO2,ZfZ,Qg]
        refine A4.val (u:=false) (nl:=true) (e:=[]) (vs:=[N 1,N ((v1.num+v2.num).tmod 3),.sl true true 1 [],.sl true true 1 []]) (.inr ⟨_,true,by rw [em],rfl⟩) (by simp [e8]) (by simp [Y6]) rfl
     ·rw [if_neg hk] at hns
      exact absurd rfl hns
    ·rw [Zoh] at hns ⊢
     by_cases hk:ks.length=3
     ·rw [if_pos hk] at hns ⊢
      obtain ⟨a,b,c,rfl⟩:=Zmn hk
      have i0:=WO [a,b,c] false nl2 0 (by simp)
      have i1:=WO [a,b,c] false nl2 1 (by simp)
      have i2:=WO [a,b,c] false nl2 2 (by simp)
      simp only [Int.natCast_zero,Int.natCast_one,Int.cast_ofNat_Int,List.getElem_cons_zero,List.getElem_cons_succ,List.getD_cons_zero,List.getD_cons_succ] at i0 i1 i2 hns ⊢
      have hns1:=Y4 hns
      have IH1:=ih (l+1) σ a env q nl H (ids++[]) M k0 (by omega) (by omega) A.n.ms bd1 be1 (by omega) hq hns1
      rw [List.append_nil] at IH1
      cases hres:Q4 s d (l+1) σ a env q with
      | stuck=>exact absurd hres hns1
      | fail =>
       rw [hres] at IH1
       simp only [LR.bind]
       simp (disch:=omega) [e0,e2,e3,e5,e8,hb,hb3,s1,s2,s3,s4,s5,i0,JS]
       refine Qk IH1 ?_
       rintro r H1 hr
       obtain ⟨hf1,fr1,oH1,hO,a1,b1,x1,y1,z1,rfl⟩:=A.n.fails (by rw [List.append_nil];exact hr)
       have fL:∀ _:Unit,O < (H1++[none]).length:=fun _=>by simp;omega
       have fO:(H1++[none])[O]?=some (some [N 0,N 0,.sl true true 1 [],.sl true true 1 []]):=by rw [Q5 oH1];exact hO
       clear oH1
       simp (disch:=omega) [e0,e2,e3,e5,e8,QN,Qo]
       obtain ⟨bop,bn,bnl1,bty,bnl2,bks⟩:=b
       obtain ⟨cop,cn,cnl1,cty,cnl2,cks⟩:=c
       (with_reducible first | refine Qm (fun c9=>?_) (fun c9=>?_) | refine Qn (fun c9=>?_) (fun c9=>?_))
       all_goals
        simp (disch:=omega) [e0,e2,e3,e5,e8,i1,i2,QN,Qo]
        refine Qk (Zgf (hf1.app [none]) _ _ _ _ _ _) ?_
        rintro r H2 ⟨hf2,fr2,a2,b2,x2,y2,z2,rfl⟩
        have fr02:Fr M ids h H2:=(fr1.appR [none]).trans0 fr2.weak
        have fO2:H2[O]?=some (some [N 0,N 0,.sl true true 1 [],.sl true true 1 []]):=by rw [fr2.same O (fL ()) A.o3 (by simp)];exact fO
        simp (disch:=omega) [e0,e2,e3,e5,e8,QN,Qo,fO2]
        refine Ks (.inr rfl) hf2 fr02 A.o1 (by have:=fr2.len;have:=fL ();omega) A.o3 ?_ ?_
        ·simp [e8]
        ·exact ⟨_,_,_,_,rfl⟩
      | ok l1 σ1 v1 e1 =>
       rw [hres] at IH1 hns
       simp only [LR.bind] at hns ⊢
       have le1:=Jw ts d (l+1) σ a env q l1 σ1 v1 e1 hres bd1 be1
       obtain ⟨la,lb,lc,ld,bd2,le2,lf⟩:=le1
       have be2:BE l1 σ1 e1:=⟨by omega,lf⟩
       simp (disch:=omega) [e0,e2,e3,e5,e8,hb,hb3,s1,s2,s3,s4,s5,i0,JS]
       refine Qk IH1 ?_
       rintro r H1 hr
       obtain ⟨new,u1,nl3,vs,hv1,rfl,A1⟩:=A.n.next (by rw [List.append_nil];exact hr)
       obtain ⟨vx,vy,rfl⟩:=hv1.num
       have hO:=A1.box
       simp (disch:=omega) [e0,e2,e3,e5,e8,QN,Qo]
       have A2:=A1.app [none]
       by_cases hz:v1.num=0
       ·have hz':eqB v1.num 0=true:=by rw [Qc];exact hz
        rw [if_pos hz] at hns ⊢
        have IH2:=ih l1 σ1 b env q nl (H1++[none]) (ids++new) M k0 (by omega) (by omega) A2.ms bd2 (be.up (by omega) lc) (by omega) hq hns
        generalize Q4 s d l1 σ1 b env q=res at *
        simp (disch:=omega) [e0,e2,e3,e5,e8,QN,Qo,hz',i1]
        rw [A1.env (e:=env) (by rw [A.ms.len];exact be.2)]
        refine Qk IH2 ?_
        rintro r H2 hr2
        obtain ⟨ws,e',rfl,w4,hO2,post⟩:=A2.tail hns hr2
        simp (disch:=omega) [e0,e8,hO2,w4,List.take_of_length_le,List.drop_of_length_le]
        refine post _ ?_ ?_ ?_
        ·simp [e8]
        ·simp
        ·simp
       ·have hz':eqB v1.num 0=false:=by rw [Qb];exact hz
        rw [if_neg hz] at hns ⊢
        have IH2:=ih l1 σ1 c env q nl (H1++[none]) (ids++new) M k0 (by omega) (by omega) A2.ms bd2 (be.up (by omega) lc) (by omega) hq hns
        generalize Q4 s d l1 σ1 c env q=res at *
        simp (disch:=omega) [e0,e2,e3,e5,e8,QN,Qo,hz',i2]
        rw [A1.env (e:=env) (by rw [A.ms.len];exact be.2)]
        refine Qk IH2 ?_
        rintro r H2 hr2
        obtain ⟨ws,e',rfl,w4,hO2,post⟩:=A2.tail hns hr2
        simp (disch:=omega) [e0,e8,hO2,w4,List.take_of_length_le,List.drop_of_length_le]
        refine post _ ?_ ?_ ?_
        ·simp [e8]
        ·simp
        ·simp
     ·rw [if_neg hk] at hns
      exact absurd rfl hns
    ·rw [Zlu] at hns ⊢
     by_cases hk:ks.length=2
     ·rw [if_pos hk] at hns ⊢
      obtain ⟨a,b,rfl⟩:=twoG hk
      have i0:=WO [a,b] false nl2 0 (by simp)
      have i1:=WO [a,b] false nl2 1 (by simp)
      simp only [Int.natCast_zero,Int.natCast_one,List.getElem_cons_zero,List.getElem_cons_succ,List.getD_cons_zero,List.getD_cons_succ] at i0 i1 hns ⊢
      have hns1:=Y4 hns
      have IH1:=ih (l+1) σ a env q nl H (ids++[]) M k0 (by omega) (by omega) A.n.ms bd1 be1 (by omega) hq hns1
      rw [List.append_nil] at IH1
      cases hres:Q4 s d (l+1) σ a env q with
      | stuck=>exact absurd hres hns1
      | fail =>
       rw [hres] at IH1
       simp only [LR.bind]
       simp (disch:=omega) [e0,e2,e3,e5,e8,hb,hb3,s1,s2,s3,s4,s5,i0,JS]
       refine Qk IH1 ?_
       rintro r H1 hr
       obtain ⟨hf1,fr1,oH1,hO,a1,b1,x1,y1,z1,rfl⟩:=A.n.fails (by rw [List.append_nil];exact hr)
       have fL:∀ _:Unit,O < (H1++[none]).length:=fun _=>by simp;omega
       have fO:(H1++[none])[O]?=some (some [N 0,N 0,.sl true true 1 [],.sl true true 1 []]):=by rw [Q5 oH1];exact hO
       have hf2:=hf1.app [none]
       have hf3:=hf2
       obtain ⟨m1,m2,m3,m4,m5,m6,hbF⟩:=hf3
       clear oH1
       simp (disch:=omega) [e0,e2,e3,e5,e8,QN,Qo,hbF,fO]
       refine Ks (.inr rfl) hf2 (fr1.appR [none]) A.o1 (fL ()) A.o3 ?_ ?_
       ·simp [e8]
       ·exact ⟨_,_,_,_,rfl⟩
      | ok l1 σ1 v1 e1 =>
       rw [hres] at IH1 hns
       simp only [LR.bind] at hns ⊢
       have le1:=Jw ts d (l+1) σ a env q l1 σ1 v1 e1 hres bd1 be1
       obtain ⟨la,lb,lc,ld,bd2,le2,lf⟩:=le1
       have be2:BE l1 σ1 e1:=⟨by omega,lf⟩
       simp (disch:=omega) [e0,e2,e3,e5,e8,hb,hb3,s1,s2,s3,s4,s5,i0,JS]
       refine Qk IH1 ?_
       rintro r H1 hr
       obtain ⟨new,u1,nl3,vs,hv1,rfl,A1⟩:=A.n.next (by rw [List.append_nil];exact hr)
       have hns2:v1.kidn=1∧s.has v1.num=true:=by
        by_cases hh:v1.kidn=1∧s.has v1.num=true
        ·exact hh
        ·rw [if_neg hh] at hns;exact absurd rfl hns
       rw [if_pos hns2] at hns ⊢
       obtain ⟨hk1,hg1⟩:=hns2
       have hvs:=hv1.kids (by omega)
       obtain ⟨fop,fnn,fnl1,fty,fnl2,fks⟩:=v1
       obtain ⟨body,rfl⟩:=oneG hk1
       simp only [GTerm.num,GTerm.kid,List.getD_cons_zero] at hg1 hns ⊢
       have gf:s.G fnn:=by
        simp [GSys.has] at hg1
        exact ⟨hg1.1,hg1.2⟩
       simp only [GTerm.cells] at hvs
       subst hvs
       have j0:=WO [body] false fnl2 0 (by simp)
       simp only [Int.natCast_zero,List.getElem_cons_zero] at j0
       have hO:=A1.box
       have A2:=A1.app [none]
       obtain ⟨nm1,hnm1,hb1⟩:=A2.ms.box
       simp only [GSys.cells,List.cons_append,List.nil_append] at hb1
       have tm:=Jr ts hq gf
       have G0:s.G 0:=GSys.G0 ts
       generalize hres3:Q4 s d l1 (σ1++[⟨s.tm q fnn,0,b,env⟩]) body (σ1.length::e1) q=res at *
       simp (disch:=omega) [e0,e2,e3,e5,e8,QN,Qo,hb1,i1,j0]
       refine Qa tm (by simp) ?_
       simp (disch:=omega) [e0,e2,e3,e5,e8,i1]
       rw [A1.env (e:=env) (by rw [A.ms.len];exact be.2)]
       refine Qk (Zgm A2.ms bd2 (s.tm q fnn) b env nl (be.up (by omega) lc) (by omega) G0) ?_
       rintro r H2 ⟨p,rfl,hp,ms3,fr3⟩
       obtain ⟨A3,hO3⟩:=A2.cell hp ms3 fr3
       simp (disch:=omega) [e0,e2,e3,e5,e8,Ql]
       refine Qk (ZcS nl3 false (Y6 (ids++new) e1) [p] (by simp;omega) H2) ?_
       rintro r H3 ⟨rfl,u4,nl4,rfl⟩
       rw [Zf9 A2.ms.len lf]
       have IH3:=ih l1 (σ1++[⟨s.tm q fnn,0,b,env⟩]) body (σ1.length::e1) q nl4 H3 (ids++(new++[p])) M k0 (by omega) (by omega) A3.ms (bd2.snoc (be.up (by omega) lc) G0) ⟨by simp;omega,fun j hj=>by
        rcases List.mem_cons.1 hj with rfl | hj
        ·simp
        ·have:=lf j hj;simp;omega⟩ (by simp;omega) hq (by rw [hres3];exact hns)
       rw [hres3] at IH3
       simp (disch:=omega) [e0,e2,e3,e5,e8]
       refine Qk IH3 ?_
       rintro r H4 hr4
       obtain ⟨ws,e',rfl,w4,hO4,post⟩:=A3.tail hns hr4
       simp (disch:=omega) [e0,e8,hO4,w4,List.take_of_length_le,List.drop_of_length_le]
       refine post _ ?_ ?_ ?_
       ·simp [e8]
       ·simp
       ·simp
     ·rw [if_neg hk] at hns
      exact absurd rfl hns
    ·rw [Zhm] at hns ⊢
     by_cases hk:ks.length=2∧s.has n=true
     ·rw [if_pos hk] at hns ⊢
      obtain ⟨hk,hgn⟩:=hk
      have gn:s.G n:=by
       simp [GSys.has] at hgn
       exact ⟨hgn.1,hgn.2⟩
      obtain ⟨a,b,rfl⟩:=twoG hk
      have i0:=WO [a,b] false nl2 0 (by simp)
      have i1:=WO [a,b] false nl2 1 (by simp)
      simp only [Int.natCast_zero,Int.natCast_one,Int.cast_ofNat_Int,List.getElem_cons_zero,List.getElem_cons_succ,List.getD_cons_zero,List.getD_cons_succ] at i0 i1 hns ⊢
      have hns1:=Y4 hns
      have G0:s.G 0:=GSys.G0 ts
      have gq:s.G (s.tm q n):=GSys.Gtm ts q n
      have tm:=Jr ts hq gn
      have IH1:=ih (l+1) σ a env (s.tm q n) nl H (ids++[]) M k0 (by omega) (by omega) A.n.ms bd1 be1 (by omega) gq hns1
      rw [List.append_nil] at IH1
      cases hres:Q4 s d (l+1) σ a env (s.tm q n) with
      | stuck=>exact absurd hres hns1
      | fail =>
       rw [hres] at IH1
       simp only [LR.bind]
       simp (disch:=omega) [e0,e2,e3,e5,e8,hb,hb3,s1,s2,s3,s4,s5,i0,JS]
       refine Qa tm (by simp) ?_
       simp (disch:=omega) [e0,e2,e3,e5,e8,i0,JS]
       refine Qk IH1 ?_
       rintro r H1 hr
       obtain ⟨hf1,fr1,oH1,hO,a1,b1,x1,y1,z1,rfl⟩:=A.n.fails (by rw [List.append_nil];exact hr)
       have fL:∀ _:Unit,O < (H1++[none]).length:=fun _=>by simp;omega
       have fO:(H1++[none])[O]?=some (some [N 0,N 0,.sl true true 1 [],.sl true true 1 []]):=by rw [Q5 oH1];exact hO
       have hf2:=hf1.app [none]
       have hf3:=hf2
       obtain ⟨m1,m2,m3,m4,m5,m6,hbF⟩:=hf3
       clear oH1
       simp (disch:=omega) [e0,e2,e3,e5,e8,QN,Qo,hbF,fO]
       refine Ks (.inr rfl) hf2 (fr1.appR [none]) A.o1 (fL ()) A.o3 ?_ ?_
       ·simp [e8]
       ·exact ⟨_,_,_,_,rfl⟩
      | ok l1 σ1 v1 e1 =>
       rw [hres] at IH1 hns
       simp only [LR.bind] at hns ⊢
       have le1:=Jw ts d (l+1) σ a env (s.tm q n) l1 σ1 v1 e1 hres bd1 be1
       obtain ⟨la,lb,lc,ld,bd2,le2,lf⟩:=le1
       have be2:BE l1 σ1 e1:=⟨by omega,lf⟩
       simp (disch:=omega) [e0,e2,e3,e5,e8,hb,hb3,s1,s2,s3,s4,s5,i0,JS]
       refine Qa tm (by simp) ?_
       simp (disch:=omega) [e0,e2,e3,e5,e8,i0,JS]
       refine Qk IH1 ?_
       rintro r H1 hr
       obtain ⟨new,u1,nl3,vs,hv1,rfl,A1⟩:=A.n.next (by rw [List.append_nil];exact hr)
       have hns2:v1.kidn=2:=by
        by_cases hh:v1.kidn=2
        ·exact hh
        ·rw [if_neg hh] at hns;exact absurd rfl hns
       rw [if_pos hns2] at hns ⊢
       have hvs:=hv1.kids (by omega)
       obtain ⟨fop,fnn,fnl1,fty,fnl2,fks⟩:=v1
       obtain ⟨x,y,rfl⟩:=twoG hns2
       simp only [GTerm.num,GTerm.kid,List.getD_cons_zero,List.getD_cons_succ] at hns ⊢
       simp only [GTerm.cells] at hvs
       subst hvs
       have j0:=WO [x,y] false fnl2 0 (by simp)
       have j1:=WO [x,y] false fnl2 1 (by simp)
       simp only [Int.natCast_zero,Int.natCast_one,List.getElem_cons_zero,List.getElem_cons_succ] at j0 j1
       have hO:=A1.box
       have A2:=A1.app [none]
       obtain ⟨nm1,hnm1,hb1⟩:=A2.ms.box
       simp only [GSys.cells,List.cons_append,List.nil_append] at hb1
       generalize hres3:Q4 s d l1 (σ1++[⟨s.tm q n,0,x,e1⟩,⟨s.tm q n,0,y,e1⟩]) b ((σ1.length+1)::σ1.length::env) q=res at *
       simp (disch:=omega) [e0,e2,e3,e5,e8,QN,Qo,hb1,i1,j0,JS]
       refine Qk (Zgm A2.ms bd2 (s.tm q n) x e1 nl3 be2 (by omega) G0) ?_
       rintro r H2 ⟨p,rfl,hp,ms3,fr3⟩
       obtain ⟨A3',hO3⟩:=A2.cell hp ms3 fr3
       simp (disch:=omega) [e0,e2,e3,e5,e8,j1]
       have bd3:=bd2.snoc (c:=⟨s.tm q n,0,x,e1⟩) be2 G0
       have lf3:∀ j∈e1,j < (σ1++[(⟨s.tm q n,0,x,e1⟩:PC)]).length:=fun j hj=>by have:=lf j hj;simp;omega
       have be3:BE l1 (σ1++[(⟨s.tm q n,0,x,e1⟩:PC)]) e1:=⟨by omega,lf3⟩
       have eE:Y6 (ids++new) e1=Y6 (ids++(new++[p])) e1:=by rw [← List.append_assoc];exact (VI [p] (by rw [A2.ms.len];exact lf)).symm
       rw [eE]
       refine Qk (Zgm A3'.ms bd3 (s.tm q n) y e1 nl3 be3 (by simp;omega) G0) ?_
       rintro r H3 ⟨p2,rfl,hp2,ms4,fr4⟩
       obtain ⟨A3,hO4'⟩:=A3'.cell hp2 ms4 fr4
       simp (disch:=omega) [e0,e2,e3,e5,e8,Ql,i1]
       rw [A1.env (e:=env) (by rw [A.ms.len];exact be.2)]
       refine Qk (ZcS nl false (Y6 (ids++new) env) [p2,p] (by have:=be.1;simp;omega) H3) ?_
       rintro r H4' ⟨rfl,u4,nl4,rfl⟩
       rw [front2 A2.ms.len (fun j hj=>by have:=be.2 j hj;omega)]
       have bd4:=bd3.snoc (c:=⟨s.tm q n,0,y,e1⟩) be3 G0
       have e12:σ1++[⟨s.tm q n,0,x,e1⟩]++[⟨s.tm q n,0,y,e1⟩]=σ1++[⟨s.tm q n,0,x,e1⟩,⟨s.tm q n,0,y,e1⟩]:=by simp
       have e13:new++[p]++[p2]=new++[p,p2]:=by simp
       rw [e12] at A3 bd4
       rw [e13] at A3
       have IH3:=ih l1 (σ1++[⟨s.tm q n,0,x,e1⟩,⟨s.tm q n,0,y,e1⟩]) b ((σ1.length+1)::σ1.length::env) q nl4 H4' (ids++(new++[p,p2])) M k0 (by omega) (by omega) A3.ms bd4 ⟨by have:=be.1;simp;omega,fun j hj=>by
        rcases List.mem_cons.1 hj with rfl | hj
        ·simp
        ·rcases List.mem_cons.1 hj with rfl | hj
         ·simp
         ·have:=be.2 j hj;simp;omega⟩ (by simp;omega) hq (by rw [hres3];exact hns)
       rw [hres3] at IH3
       simp (disch:=omega) [e0,e2,e3,e5,e8,i1]
       refine Qk IH3 ?_
       rintro r H4 hr4
       obtain ⟨ws,e',rfl,w4,hO4,post⟩:=A3.tail hns hr4
       simp (disch:=omega) [e0,e8,hO4,w4,List.take_of_length_le,List.drop_of_length_le]
       refine post _ ?_ ?_ ?_
       ·simp [e8]
       ·simp
       ·simp
     ·rw [if_neg hk] at hns
      exact absurd rfl hns
    ·rw [Zjk] at hns ⊢
     by_cases hk:ks.length=3∧s.has n=true
     ·rw [if_pos hk] at hns ⊢
      obtain ⟨hk,hgn⟩:=hk
      have gn:s.G n:=by
       simp [GSys.has] at hgn
       exact ⟨hgn.1,hgn.2⟩
      obtain ⟨a,b,c,rfl⟩:=Zmn hk
      have i0:=WO [a,b,c] false nl2 0 (by simp)
      have i1:=WO [a,b,c] false nl2 1 (by simp)
      have i2:=WO [a,b,c] false nl2 2 (by simp)
      simp only [Int.natCast_zero,Int.natCast_one,Int.cast_ofNat_Int,List.getElem_cons_zero,List.getElem_cons_succ,List.getD_cons_zero,List.getD_cons_succ] at i0 i1 i2 hns ⊢
      have hns1:=Y4 hns
      have G0:s.G 0:=GSys.G0 ts
      have gq:s.G (s.tm q n):=GSys.Gtm ts q n
      have tm:=Jr ts hq gn
      have IH1:=ih (l+1) σ a env (s.tm q n) nl H (ids++[]) M k0 (by omega) (by omega) A.n.ms bd1 be1 (by omega) gq hns1
      rw [List.append_nil] at IH1
      cases hres:Q4 s d (l+1) σ a env (s.tm q n) with
      | stuck=>exact absurd hres hns1
      | fail =>
       rw [hres] at IH1
       simp only [LR.bind]
       simp (disch:=omega) [e0,e2,e3,e5,e8,hb,hb3,s1,s2,s3,s4,s5,i0,JS]
       refine Qa tm (by simp) ?_
       simp (disch:=omega) [e0,e2,e3,e5,e8,i0,JS]
       refine Qk IH1 ?_
       rintro r H1 hr
       obtain ⟨hf1,fr1,oH1,hO,a1,b1,x1,y1,z1,rfl⟩:=A.n.fails (by rw [List.append_nil];exact hr)
       have fL:∀ _:Unit,O < (H1++[none]).length:=fun _=>by simp;omega
       have fO:(H1++[none])[O]?=some (some [N 0,N 0,.sl true true 1 [],.sl true true 1 []]):=by rw [Q5 oH1];exact hO
       have hf2:=hf1.app [none]
       have hf3:=hf2
       obtain ⟨m1,m2,m3,m4,m5,m6,hbF⟩:=hf3
       clear oH1
       simp (disch:=omega) [e0,e2,e3,e5,e8,QN,Qo,hbF,fO]
       refine Ks (.inr rfl) hf2 (fr1.appR [none]) A.o1 (fL ()) A.o3 ?_ ?_
       ·simp [e8]
       ·exact ⟨_,_,_,_,rfl⟩
      | ok l1 σ1 v1 e1 =>
       rw [hres] at IH1 hns
       simp only [LR.bind] at hns ⊢
       have le1:=Jw ts d (l+1) σ a env (s.tm q n) l1 σ1 v1 e1 hres bd1 be1
       obtain ⟨la,lb,lc,ld,bd2,le2,lf⟩:=le1
       have be2:BE l1 σ1 e1:=⟨by omega,lf⟩
       simp (disch:=omega) [e0,e2,e3,e5,e8,hb,hb3,s1,s2,s3,s4,s5,i0,JS]
       refine Qa tm (by simp) ?_
       simp (disch:=omega) [e0,e2,e3,e5,e8,i0,JS]
       refine Qk IH1 ?_
       rintro r H1 hr
       obtain ⟨new,u1,nl3,vs,hv1,rfl,A1⟩:=A.n.next (by rw [List.append_nil];exact hr)
       have hns2:v1.kidn=1∧(v1.opc=6∨v1.opc=7):=by
        by_cases hh:v1.kidn=1∧(v1.opc=6∨v1.opc=7)
        ·exact hh
        ·rw [if_neg hh] at hns;exact absurd rfl hns
       rw [if_pos hns2] at hns ⊢
       obtain ⟨hk1,ho1⟩:=hns2
       have hvs:=hv1.kids (by omega)
       obtain ⟨fop,fnn,fnl1,fty,fnl2,fks⟩:=v1
       obtain ⟨x,rfl⟩:=oneG hk1
       simp only [GTerm.num,GTerm.kid,List.getD_cons_zero] at hns ⊢
       simp only [GTerm.cells] at hvs
       subst hvs
       have j0:=WO [x] false fnl2 0 (by simp)
       simp only [Int.natCast_zero,List.getElem_cons_zero] at j0
       have hO:=A1.box
       have A2:=A1.app [none]
       obtain ⟨nm1,hnm1,hb1⟩:=A2.ms.box
       simp only [GSys.cells,List.cons_append,List.nil_append] at hb1
       have w6:IntKind.i64.wrap (IntKind.i64.wrap (1+6) - 6)=1:=by rw [Qg (n:=1+6) (by omega),Qg (by omega)];rfl
       have w7:IntKind.i64.wrap (IntKind.i64.wrap (1+7) - 6)=2:=by rw [Qg (n:=1+7) (by omega),Qg (by omega)];rfl
       rcases (show fop=6∨fop=7 from ho1) with rfl | rfl
       ·have e67:¬ ((GTerm.mk 6 fnn fnl1 fty fnl2 [x]).opc=7):=by show ¬ ((6:Int)=7);omega
        rw [if_neg e67] at hns ⊢
        generalize hres3:Q4 s d l1 (σ1++[⟨s.tm q n,0,x,e1⟩]) b (σ1.length::env) q=res at *
        simp (disch:=omega) [e0,e2,e3,e5,e8,QN,Qo,hb1,i1,j0,JS,Qg]
        refine Qk (Zgm A2.ms bd2 (s.tm q n) x e1 nl3 be2 (by omega) G0) ?_
        rintro r H2 ⟨p,rfl,hp,ms3,fr3⟩
        obtain ⟨A3,hO3⟩:=A2.cell hp ms3 fr3
        simp (disch:=omega) [e0,e2,e3,e5,e8,Ql,i1]
        rw [A1.env (e:=env) (by rw [A.ms.len];exact be.2)]
        refine Qk (ZcS nl false (Y6 (ids++new) env) [p] (by have:=be.1;simp;omega) H2) ?_
        rintro r H3 ⟨rfl,u4,nl4,rfl⟩
        rw [Zf9 A2.ms.len (fun j hj=>by have:=be.2 j hj;omega)]
        have IH3:=ih l1 (σ1++[⟨s.tm q n,0,x,e1⟩]) b (σ1.length::env) q nl4 H3 (ids++(new++[p])) M k0 (by omega) (by omega) A3.ms (bd2.snoc be2 G0) ⟨by have:=be.1;simp;omega,fun j hj=>by
         rcases List.mem_cons.1 hj with rfl | hj
         ·simp
         ·have:=be.2 j hj;simp;omega⟩ (by simp;omega) hq (by rw [hres3];exact hns)
        rw [hres3] at IH3
        simp (disch:=omega) [e0,e2,e3,e5,e8,i1]
        refine Qk IH3 ?_
        rintro r H4 hr4
        obtain ⟨ws,e',rfl,w4,hO4,post⟩:=A3.tail hns hr4
        simp (disch:=omega) [e0,e8,hO4,w4,List.take_of_length_le,List.drop_of_length_le]
        refine post _ ?_ ?_ ?_
        ·simp [e8]
        ·simp
        ·simp
       ·have e67:(GTerm.mk 7 fnn fnl1 fty fnl2 [x]).opc=7:=rfl
        rw [if_pos e67] at hns ⊢
        generalize hres3:Q4 s d l1 (σ1++[⟨s.tm q n,0,x,e1⟩]) c (σ1.length::env) q=res at *
        simp (disch:=omega) [e0,e2,e3,e5,e8,QN,Qo,hb1,i2,j0,JS,Qg]
        refine Qk (Zgm A2.ms bd2 (s.tm q n) x e1 nl3 be2 (by omega) G0) ?_
        rintro r H2 ⟨p,rfl,hp,ms3,fr3⟩
        obtain ⟨A3,hO3⟩:=A2.cell hp ms3 fr3
        simp (disch:=omega) [e0,e2,e3,e5,e8,Ql,i2]
        rw [A1.env (e:=env) (by rw [A.ms.len];exact be.2)]
        refine Qk (ZcS nl false (Y6 (ids++new) env) [p] (by have:=be.1;simp;omega) H2) ?_
        rintro r H3 ⟨rfl,u4,nl4,rfl⟩
        rw [Zf9 A2.ms.len (fun j hj=>by have:=be.2 j hj;omega)]
        have IH3:=ih l1 (σ1++[⟨s.tm q n,0,x,e1⟩]) c (σ1.length::env) q nl4 H3 (ids++(new++[p])) M k0 (by omega) (by omega) A3.ms (bd2.snoc be2 G0) ⟨by have:=be.1;simp;omega,fun j hj=>by
         rcases List.mem_cons.1 hj with rfl | hj
         ·simp
         ·have:=be.2 j hj;simp;omega⟩ (by simp;omega) hq (by rw [hres3];exact hns)
        rw [hres3] at IH3
        simp (disch:=omega) [e0,e2,e3,e5,e8,i2]
        refine Qk IH3 ?_
        rintro r H4 hr4
        obtain ⟨ws,e',rfl,w4,hO4,post⟩:=A3.tail hns hr4
        simp (disch:=omega) [e0,e8,hO4,w4,List.take_of_length_le,List.drop_of_length_le]
        refine post _ ?_ ?_ ?_
        ·simp [e8]
        ·simp
        ·simp
     ·rw [if_neg hk] at hns
      exact absurd rfl hns
    ·rw [Zi1] at hns ⊢
     by_cases hk:ks.length=2∧s.has n=true
     ·rw [if_pos hk] at hns ⊢
      obtain ⟨hk,hgn⟩:=hk
      have gn:s.G n:=by
       simp [GSys.has] at hgn
       exact ⟨hgn.1,hgn.2⟩
      obtain ⟨a,b,rfl⟩:=twoG hk
      have i0:=WO [a,b] false nl2 0 (by simp)
      have i1:=WO [a,b] false nl2 1 (by simp)
      simp only [Int.natCast_zero,Int.natCast_one,Int.cast_ofNat_Int,List.getElem_cons_zero,List.getElem_cons_succ,List.getD_cons_zero,List.getD_cons_succ] at i0 i1 hns ⊢
      have hns1:=Y4 hns
      have G0:s.G 0:=GSys.G0 ts
      have gq:s.G (s.tm q n):=GSys.Gtm ts q n
      have tm:=Jr ts hq gn
      have IH1:=ih (l+1) σ a env (s.tm q n) nl H (ids++[]) M k0 (by omega) (by omega) A.n.ms bd1 be1 (by omega) gq hns1
      rw [List.append_nil] at IH1
      cases hres:Q4 s d (l+1) σ a env (s.tm q n) with
      | stuck=>exact absurd hres hns1
      | fail =>
       rw [hres] at IH1
       simp only [LR.bind]
       simp (disch:=omega) [e0,e2,e3,e5,e8,hb,hb3,s1,s2,s3,s4,s5,i0,JS]
       refine Qa tm (by simp) ?_
       simp (disch:=omega) [e0,e2,e3,e5,e8,i0,JS]
       refine Qk IH1 ?_
       rintro r H1 hr
       obtain ⟨hf1,fr1,oH1,hO,a1,b1,x1,y1,z1,rfl⟩:=A.n.fails (by rw [List.append_nil];exact hr)
       have fL:∀ _:Unit,O < (H1++[none]).length:=fun _=>by simp;omega
       have fO:(H1++[none])[O]?=some (some [N 0,N 0,.sl true true 1 [],.sl true true 1 []]):=by rw [Q5 oH1];exact hO
       have hf2:=hf1.app [none]
       have hf3:=hf2
       obtain ⟨m1,m2,m3,m4,m5,m6,hbF⟩:=hf3
       clear oH1
       simp (disch:=omega) [e0,e2,e3,e5,e8,QN,Qo,hbF,fO]
       refine Ks (.inr rfl) hf2 (fr1.appR [none]) A.o1 (fL ()) A.o3 ?_ ?_
       ·simp [e8]
       ·exact ⟨_,_,_,_,rfl⟩
      | ok l1 σ1 v1 e1 =>
       rw [hres] at IH1 hns
       simp only [LR.bind] at hns ⊢
       have le1:=Jw ts d (l+1) σ a env (s.tm q n) l1 σ1 v1 e1 hres bd1 be1
       obtain ⟨la,lb,lc,ld,bd2,le2,lf⟩:=le1
       have be2:BE l1 σ1 e1:=⟨by omega,lf⟩
       simp (disch:=omega) [e0,e2,e3,e5,e8,hb,hb3,s1,s2,s3,s4,s5,i0,JS]
       refine Qa tm (by simp) ?_
       simp (disch:=omega) [e0,e2,e3,e5,e8,i0,JS]
       refine Qk IH1 ?_
       rintro r H1 hr
       obtain ⟨new,u1,nl3,vs,hv1,rfl,A1⟩:=A.n.next (by rw [List.append_nil];exact hr)
       have hns2:v1.kidn=1∧s.has v1.num=true:=by
        by_cases hh:v1.kidn=1∧s.has v1.num=true
        ·exact hh
        ·rw [if_neg hh] at hns;exact absurd rfl hns
       rw [if_pos hns2] at hns ⊢
       obtain ⟨hk1,hg1⟩:=hns2
       have hvs:=hv1.kids (by omega)
       obtain ⟨fop,fnn,fnl1,fty,fnl2,fks⟩:=v1
       obtain ⟨x,rfl⟩:=oneG hk1
       simp only [GTerm.num,GTerm.kid,List.getD_cons_zero] at hg1 hns ⊢
       have gf:s.G fnn:=by
        simp [GSys.has] at hg1
        exact ⟨hg1.1,hg1.2⟩
       simp only [GTerm.cells] at hvs
       subst hvs
       have j0:=WO [x] false fnl2 0 (by simp)
       simp only [Int.natCast_zero,List.getElem_cons_zero] at j0
       have hO:=A1.box
       have A2:=A1.app [none]
       obtain ⟨nm1,hnm1,hb1⟩:=A2.ms.box
       simp only [GSys.cells,List.cons_append,List.nil_append] at hb1
       have tm2:=Jr ts gq gf
       generalize hres3:Q4 s d l1 (σ1++[⟨s.tm (s.tm q n) fnn,0,x,e1⟩]) b (σ1.length::env) q=res at *
       simp (disch:=omega) [e0,e2,e3,e5,e8,QN,Qo,hb1,i1,j0,JS]
       refine Qa tm2 (by simp) ?_
       simp (disch:=omega) [e0,e2,e3,e5,e8,i1,j0]
       refine Qk (Zgm A2.ms bd2 (s.tm (s.tm q n) fnn) x e1 nl3 be2 (by omega) G0) ?_
       rintro r H2 ⟨p,rfl,hp,ms3,fr3⟩
       obtain ⟨A3,hO3⟩:=A2.cell hp ms3 fr3
       simp (disch:=omega) [e0,e2,e3,e5,e8,Ql,i1]
       rw [A1.env (e:=env) (by rw [A.ms.len];exact be.2)]
       refine Qk (ZcS nl false (Y6 (ids++new) env) [p] (by have:=be.1;simp;omega) H2) ?_
       rintro r H3 ⟨rfl,u4,nl4,rfl⟩
       rw [Zf9 A2.ms.len (fun j hj=>by have:=be.2 j hj;omega)]
       have IH3:=ih l1 (σ1++[⟨s.tm (s.tm q n) fnn,0,x,e1⟩]) b (σ1.length::env) q nl4 H3 (ids++(new++[p])) M k0 (by omega) (by omega) A3.ms (bd2.snoc be2 G0) ⟨by have:=be.1;simp;omega,fun j hj=>by
        rcases List.mem_cons.1 hj with rfl | hj
        ·simp
        ·have:=be.2 j hj;simp;omega⟩ (by simp;omega) hq (by rw [hres3];exact hns)
       rw [hres3] at IH3
       simp (disch:=omega) [e0,e2,e3,e5,e8,i1]
       refine Qk IH3 ?_
       rintro r H4 hr4
       obtain ⟨ws,e',rfl,w4,hO4,post⟩:=A3.tail hns hr4
       simp (disch:=omega) [e0,e8,hO4,w4,List.take_of_length_le,List.drop_of_length_le]
       refine post _ ?_ ?_ ?_
       ·simp [e8]
       ·simp
       ·simp
     ·rw [if_neg hk] at hns
      exact absurd rfl hns
    ·have hS:XA s (Q4 s d) (l+1) σ (.mk op n nl1 ty nl2 ks) env q=.ok (l+1) σ (.mk op n nl1 ty nl2 ks) env:=by
      rcases hop with rfl | rfl | rfl | rfl | rfl | rfl<;>simp [XA,GTerm.opc]
     rw [hS]
     have q0:eqB op 0=false∧eqB op 2=false∧eqB op 3=false∧eqB op 10=false∧eqB op 5=false∧eqB op 8=false∧eqB op 12=false:=by
      refine ⟨?_,?_,?_,?_,?_,?_,?_⟩<;>rw [Qb]<;>omega
     obtain ⟨q0,q2,q3,q10,q5,q8,q12⟩:=q0
     simp (disch:=omega) [e0,e2,e3,e5,e8,hb,hb3,s1,s2,s3,s4,s5,q0,q2,q3,q10,q5,q8,q12]
     exact val_post (u:=false) (nl:=nl) A.ms A.fr (.inl rfl) A.o1 A.o2 A.o3 A.o4 (by simp [e8]) (by simp) (by simp [GTerm.cells])
theorem len4 {cs:List LV} (h:cs.length=4):∃ a b c d,cs=[a,b,c,d]:=by
 match cs,h with
 | [a,b,c,d],_=>exact ⟨a,b,c,d,rfl⟩
mutual
theorem ZeO:∀ a b:GTerm,a.nm=b.nm→a.same b=true
 | .mk op n nl1 ty nl2 ks,.mk op' n' nl1' ty' nl2' ks',h=>by
  simp only [GTerm.nm,GTerm.mk.injEq] at h
  obtain ⟨rfl,rfl,_,rfl,_,h⟩:=h
  simp [GTerm.same,Zg6 ks ks' h]
theorem Zg6:∀ a b:List GTerm,nms a=nms b→JW a b=true
 | [],[],_=>by simp [JW]
 | [],_::_,h=>by simp [nms] at h
 | _::_,[],h=>by simp [nms] at h
 | a::a',b::b',h=>by
  simp only [nms,List.cons.injEq] at h
  simp [JW,ZeO a b h.1,Zg6 a' b' h.2]
end
set_option maxHeartbeats 8000000
def isTF (g:GTerm) (r:LV):Prop:=∃ (w:GTerm) (cs:List LV),r=.agg cs∧shareAll cs=w.cells∧w.nm=g.nm∧w.fl
theorem nm_fl:∀ g:GTerm,g.nm.fl:=by
 intro g
 exact go g
where
 go:∀ g:GTerm,g.nm.fl
  | .mk op n nl1 ty nl2 ks=>by
   simp only [GTerm.nm,GTerm.fl]
   exact ⟨by simp [flOk],gos ks⟩
 gos:∀ ks:List GTerm,fls (nms ks)
  | []=>by simp [nms,fls]
  | k::ks=>by simp only [nms,fls];exact ⟨go k,gos ks⟩
theorem nm_nm:∀ g:GTerm,g.nm.nm=g.nm:=by
 intro g
 exact go g
where
 go:∀ g:GTerm,g.nm.nm=g.nm
  | .mk op n nl1 ty nl2 ks=>by
   simp only [GTerm.nm,gos ks]
   congr 1
   cases ks<;>simp [nms]
 gos:∀ ks:List GTerm,nms (nms ks)=nms ks
  | []=>by simp [nms]
  | k::ks=>by simp only [nms,go k,gos ks]
structure LE (s:GSys) (l:Nat) (σ:List PC) (l':Nat) (σ':List PC):Prop where
 le:l≤l'
 top:l'≤3000
 len:σ.length≤σ'.length
 many:σ'.length+2 * l≤σ.length+2 * l'
 bd:BD s l' σ'
theorem LE.trans {s:GSys} {l l1 l2:Nat} {σ σ1 σ2:List PC} (a:LE s l σ l1 σ1) (b:LE s l1 σ1 l2 σ2):LE s l σ l2 σ2 :=
 ⟨Nat.le_trans a.le b.le,b.top,Nat.le_trans a.len b.len,by have:=a.many;have:=b.many;omega,b.bd⟩
theorem Zls {s:GSys} {f:Nat→List PC→GTerm→TTold} {e:List Nat} (hf:∀ (l:Nat) (σ:List PC) (k:GTerm) (l':Nat) (σ':List PC) (v:GTerm),f l σ k=.ok l' σ' v→BD s l σ→BE l σ e→LE s l σ l' σ'∧v.fl) :
  ∀ (ks:List GTerm) (l:Nat) (σ:List PC) (acc:List GTerm) (l':Nat) (σ':List PC) (vs:List GTerm),XW f ks l σ acc=.ok l' σ' vs→l≤3000→BD s l σ→BE l σ e→fls acc→LE s l σ l' σ'∧fls vs
 | [],l,σ,acc,l',σ',vs,h,hl,bd,be,hfl=>by
  simp only [XW,KTold.ok.injEq] at h
  obtain ⟨rfl,rfl,rfl⟩:=h
  exact ⟨⟨Nat.le_refl _,hl,Nat.le_refl _,by omega,bd⟩,hfl⟩
 | k::ks,l,σ,acc,l',σ',vs,h,hl,bd,be,hfl=>by
  rw [XW] at h
  cases hk:f l σ k with
  | stuck=>rw [hk] at h;simp at h
  | fail=>rw [hk] at h;simp at h
  | ok l1 σ1 v =>
   rw [hk] at h
   obtain ⟨a,av⟩:=hf _ _ _ _ _ _ hk bd be
   obtain ⟨b,bv⟩:=Zls hf ks l1 σ1 _ _ _ _ h a.top a.bd (be.up a.le a.len) (Zas.2 fun x hx=>by
    rcases List.mem_append.1 hx with hx | hx
    ·exact Zas.1 hfl x hx
    ·simp at hx;subst hx;exact av)
   exact ⟨a.trans b,bv⟩
theorem Zpm {s:GSys} {op n:Int} {nl1:Bool} {ty:List Int} {k:Nat} (h:okV s op n nl1 ty k=true):(op=11→s.G n)∧k≤3∧ty.length≤40∧(nl1=true→ty=[]):=by
 simp only [okV,GSys.has,Bool.and_eq_true,Bool.or_eq_true,Bool.not_eq_true',decide_eq_true_eq,decide_eq_false_iff_not,List.isEmpty_iff] at h
 obtain ⟨h1,h2,h3,h4⟩:=h
 exact ⟨fun e=>(h1.resolve_left (fun g=>g e)),h2,h3,fun e=>h4.resolve_left (by simp [e])⟩
theorem VA {s:GSys} (ts:s.Tab):∀ (d l:Nat) (σ:List PC) (t:GTerm) (env:List Nat) (q:Int) (l':Nat) (σ':List PC) (v:GTerm),Xk s d l σ t env q=.ok l' σ' v→BD s l σ→BE l σ env→LE s l σ l' σ'∧v.fl:=by
 intro d
 induction d with
 | zero=>intro l σ t env q l' σ' v h;simp [Xk] at h
 | succ d ih =>
  intro l σ t env q l' σ' v h bd be
  rw [Xk] at h
  cases hL:Q4 s (d+1) l σ t env q with
  | stuck=>rw [hL] at h;simp at h
  | fail=>rw [hL] at h;simp at h
  | ok l1 σ1 v1 e1 =>
   obtain ⟨a1,a2,a3,a4,a5,a6,a7⟩:=Jw ts _ _ _ _ _ _ _ _ _ _ hL bd be
   rw [hL] at h
   obtain ⟨op,n,nl1,ty,nl2,ks⟩:=v1
   simp only at h
   split at h
   ·simp at h
   ·rename_i hok
    split at h
    ·simp at h
    ·simp at h
    ·rename_i l2 σ2 vs hK
     simp only [TTold.ok.injEq] at h
     obtain ⟨rfl,rfl,rfl⟩:=h
     obtain ⟨b,bv⟩:=Zls (fun l σ k l' σ' v h bd be=>ih l σ k e1 _ l' σ' v h bd be) ks l1 σ1 [] _ _ _ hK a2 a5 ⟨by omega,a7⟩ (by simp [fls])
     refine ⟨(LE.mk (by omega) a2 a3 a4 a5).trans b,?_⟩
     simp only [GTerm.fl]
     exact ⟨(Zpm (by simpa using hok)).2.2.2,bv⟩
def ZlW (s:GSys) (M k0:Nat) (h:List Box) (ids:List Nat) (res:TTold) (r:LV) (h':List Box):Prop:=match res with
 | .stuck=>True
 | .fail=>Kl M h'∧Fr M ids h h'∧∃ a b x y,r=.agg [a,b,x,y]
 | .ok l σ v=>∃ new,(∀ i∈new,h.length≤i)∧MS s M k0 h' l σ (ids++new)∧Fr M ids h h'∧isTF v r∧Low 0 r∧QB r
theorem ZlW.ex {s:GSys} {M k0:Nat} {h:List Box} {l:Nat} {σ:List PC} {ids:List Nat} (m:MS s M k0 h l σ ids) {res:TTold} (hs:res≠.stuck) (hl:∀ l' σ' v,res=.ok l' σ' v→σ.length≤σ'.length∧v.fl):∃ r h',ZlW s M k0 h ids res r h':=by
 cases res with
 | stuck=>exact absurd rfl hs
 | fail=>exact ⟨.agg [N 0,N 0,N 0,N 0],h.set M (some [N 0,N 0,N 0,N 0,N 0,N 0,B true]),⟨_,_,_,_,_,0,by rw [List.getElem?_set_self m.lM]⟩,(Fr.refl _ _ _).setM _,⟨_,_,_,_,rfl⟩⟩
 | ok l' σ' v =>
  obtain ⟨h',new,h1,h2,h3⟩:=m.ex l' σ' (hl _ _ _ rfl).1
  exact ⟨.agg v.ownC,h',new,h2,h1,h3,⟨v.nm,_,rfl,VV v,nm_nm v,nm_fl v⟩,by simp,by simp only [QB];exact Zb8 v⟩
theorem ZlA {O m:Nat} {vs:List LV} {R:LV→List Box→Prop} {e:Exit} {s:St} (he:e=.normal∨e=.ret) (h8:s.t 8=.ptr O 0) (hb:s.h[O]?=some (some vs)) (h4:vs.length=4) (hm:m≤s.h.length) (hR:R (.agg vs) (s.h.set O (some (shareAll vs)))) :
  J2 [.cell 8 true 4] m R e s:=by
 refine ⟨he,[.agg vs],⟨s.t,s.h.set O (some (shareAll vs))⟩,(s.h.set O (some (shareAll vs))).length,?_,by rw [List.length_set];exact hm,Nat.le_refl _,.inl rfl,?_⟩
 ·simp [Yh,Zfh,h8,hb,h4,Wm]
 ·rw [List.take_of_length_le (Nat.le_refl _)];exact hR
theorem Ze1 {M:Nat} {h H:List Box} {ids:List Nat} {O:Nat} {st:St} {R:LV→List Box→Prop} (hf:Kl M H) (f:Fr M ids h H) (o1:h.length≤O) (o2:O < H.length) (o3:O≠M) (hR:∀ r h',Kl M h'→Fr M ids h h'→(∃ a b x y,r=.agg [a,b,x,y])→R r h')
  (h8:st.t 8=.ptr O 0) (hh:∃ a b x y,st.h=H.set O (some [a,b,x,y])):J2 [.cell 8 true 4] h.length R .ret st:=by
 have l0:=f.len
 obtain ⟨a,b,x,y,hh⟩:=hh
 refine ZlA (.inr rfl) h8 (by rw [hh,List.getElem?_set_self o2]) rfl (by rw [hh,List.length_set];omega) ?_
 rw [hh,List.set_set]
 obtain ⟨a',b',c,d,cs,l,h1⟩:=hf
 exact hR _ _ ⟨a',b',c,d,cs,l,by rw [List.getElem?_set_ne o3];exact h1⟩ (f.set o1 _) ⟨_,_,_,_,rfl⟩
theorem ZlB {M:Nat} {h:List Box} (hf:Kl M h) (x0 x1 x2 x3 ev qv:LV):QD Tryz.prog Xr [.ptr M 0,.agg [x0,x1,x2,x3],ev,qv] h (fun r h'=>Kl M h'∧Fr M [] h h'∧∃ a b x y,r=.agg [a,b,x,y]):=by
 refine QD.of_codeOf Ke Qz (by simp) ⟨.agg [N 0,N 0,N 0,N 0],h,hf,Fr.refl _ _ _,⟨_,_,_,_,rfl⟩⟩ ?_
 have gs1:∀ (k:List Box) (x:Box),(h++k).set h.length x=h++k.set 0 x:=fun k x=>by rw [List.set_append_right _ _ (Nat.le_refl _)];simp
 simp (disch:=omega) [X3,QN,XQ,Qu,Qo]
 refine Qk (Zgf (hf.app _) _ _ _ _ _ _) ?_
 rintro r H1 ⟨hf1,fr1,a,b,x,y,e,rfl⟩
 have l1:h.length+2≤H1.length:=by have:=fr1.len;simpa using this
 have hO:H1[h.length+1]?=some (some [N 0,N 0,.sl true true 1 [],.sl true true 1 []]):=by
  have hM:h.length+1≠M:=by
   obtain ⟨a,b,c,d,cs,l,hb⟩:=hf
   intro e
   rw [List.getElem?_eq_none (by omega)] at hb
   simp at hb
  rw [fr1.same (h.length+1) (by simp) hM (by simp),XQ];rfl
 have hf2:=hf1.app [none]
 have hf3:=hf2
 obtain ⟨m1,m2,m3,m4,m5,m6,hbF⟩:=hf3
 have fO:∀ k:List Box,(H1++k)[h.length+1]?=some (some [N 0,N 0,.sl true true 1 [],.sl true true 1 []]):=fun k=>by rw [Q5 (by omega)];exact hO
 have hM:h.length+1≠M:=by
  obtain ⟨a,b,c,d,cs,l,hb⟩:=hf
  intro e
  rw [List.getElem?_eq_none (by omega)] at hb
  simp at hb
 have fr2:Fr M [] h (H1++[none]):=((Fr.app M [] h _).trans0 fr1).appR _
 have l2:∀ _:Unit,h.length+1 < (H1++[none]).length:=fun _=>by simp;omega
 clear l1
 simp (disch:=omega) [QN,Qo,hbF,fO]
 refine Ze1 hf2 fr2 (by omega) (l2 ()) hM (fun r h' a b c=>⟨a,b,c⟩) ?_ ?_
 ·simp
 ·exact ⟨_,_,_,_,rfl⟩
def ZcX (acc:List GTerm) (x:LV):Prop:=∃ nl z Qj ws,x=.sl true nl z Qj∧(z=4∨nl=true)∧(nl=true→Qj=[])∧Qv Qj=Wp ws∧nms ws=nms acc∧fls ws∧WF 0 Qj∧Qj.length=acc.length
theorem Kl.set {M:Nat} {H:List Box} (hf:Kl M H) {P:Nat} (hp:P≠M) (x:Box):Kl M (H.set P x):=by
 obtain ⟨a',b',c,d,cs,l,h1⟩:=hf
 exact ⟨a',b',c,d,cs,l,by rw [List.getElem?_set_ne hp];exact h1⟩
theorem Zh1 {nl:Bool} {z:Nat} {Qj:List (List LV)} (hz:z=4∨nl=true) (hm:Qj.length≤1000) (u:Bool) (cs:List LV):WC 4 (.sl true nl z Qj) (.sl u false 4 [cs])=some (.sl true false 4 (Qj++[cs])):=by
 have hmm:WV=1099511627776:=rfl
 simp only [WC]
 rw [if_pos ⟨by simp,hz,.inl trivial,by simp;omega⟩]
 simp
theorem ZcX.form {acc:List GTerm} {x:LV} (h:ZcX acc x):x.flat=true∧x.cells=[x]∧x.alive=true:=by
 obtain ⟨a,b,c,d,rfl,_⟩:=h
 exact ⟨rfl,rfl,rfl⟩
theorem ZcX.nil:ZcX [] (.sl true true 1 []):=⟨true,1,[],[],rfl,.inr rfl,fun _=>rfl,by simp [Wp],rfl,by simp [fls],by simp,rfl⟩
theorem ZcX.snoc {acc:List GTerm} {x:LV} (h:ZcX acc x) {v:GTerm} {r:LV} (hv:isTF v r) (lo:Low 0 r) (hm:acc.length≤100):∃ cs x',r=.agg cs∧cs.length=4∧WC 4 x (.sl true false 4 [cs])=some x'∧WC 4 x (.sl false false 4 [cs])=some x'∧ZcX (acc++[v]) x':=by
 obtain ⟨nl,z,Qj,ws,rfl,h1,h2,h3,h4,h5,h6,h7⟩:=h
 obtain ⟨w,cs,rfl,q1,q2,q3⟩:=hv
 have hmm:WV=1099511627776:=rfl
 have hcs:cs.length=4:=by rw [← Wd,q1];simp
 have ap:∀ u:Bool,WC 4 (.sl true nl z Qj) (.sl u false 4 [cs])=some (.sl true false 4 (Qj++[cs])):=fun u=>by
  simp only [WC]
  rw [if_pos ⟨by simp,h1,.inl trivial,by simp;omega⟩]
  simp
 refine ⟨cs,.sl true false 4 (Qj++[cs]),rfl,hcs,ap _,ap _,false,4,Qj++[cs],ws++[w],rfl,.inl rfl,by simp,?_,?_,?_,?_,by simp [h7]⟩
 ·have:∀ (a:List (List LV)) (b:List LV),Qv (a++[b])=Qv a++[shareAll b]:=fun a b=>by
   induction a with
   | nil=>rfl
   | cons x a ih=>simp only [List.cons_append,Qv,ih]
  rw [this,h3,q1]
  simp [Zbb]
 ·rw [Znf,Znf] at h4 ⊢
  rw [List.map_append,List.map_append,h4]
  simp [q2]
 ·exact Zas.2 fun x hx=>by
   rcases List.mem_append.1 hx with hx | hx
   ·exact Zas.1 h5 x hx
   ·simp at hx;subst hx;exact q3
 ·have:∀ (a:List (List LV)) (b:List LV),WF 0 a→QG 0 b→WF 0 (a++[b]):=fun a b ha hb=>by
   induction a with
   | nil=>simpa using hb
   | cons x a ih=>simp only [List.cons_append,WF] at ha ⊢;exact ⟨ha.1,ih ha.2⟩
  exact this _ _ h6 (by simpa using lo)
def ZeA (x:LV):Prop:=∃ nl z Qj,x=.sl true nl z Qj∧QL Qj∧∀ r∈Qj,r.length=4
theorem ZeA.nil:ZeA (.sl true true 1 []):=⟨true,1,[],rfl,by simp only [QL],by simp⟩
theorem ZeA.snoc {x x':LV} {cs:List LV} (h:ZeA x) (hw:QB (.agg cs)) (c4:cs.length=4) (ap:WC 4 x (.sl true false 4 [cs])=some x'):ZeA x':=by
 obtain ⟨nl,z,Qj,rfl,h1,h2⟩:=h
 simp only [WC] at ap
 split at ap
 ·simp only [List.isEmpty_cons,Bool.not_false,Bool.or_true,Bool.and_false,Option.some.injEq] at ap
  subst ap
  refine ⟨_,_,_,rfl,?_,fun r hr=>?_⟩
  ·have:∀ a:List (List LV),QL a→QL (a++[cs]):=fun a ha=>by
    induction a with
    | nil=>simp only [List.nil_append,QL];simp only [QB] at hw;exact ⟨hw,trivial⟩
    | cons x a ih=>simp only [List.cons_append,QL] at ha ⊢;exact ⟨ha.1,ih ha.2⟩
   exact this _ h1
  ·rcases List.mem_append.1 hr with hr | hr
   ·exact h2 r hr
   ·simp at hr;subst hr;exact c4
 ·simp at ap
theorem JL.parts {op n:Int} {nl1:Bool} {ty:List Int} {nl2:Bool} {ks:List GTerm} {vs:List LV} (h:JL (.mk op n nl1 ty nl2 ks) vs):∃ x y Y,vs=[N op,N n,x,y]∧TL.share x=L nl1 ty∧TL.share y=Y∧TL.share Y=Y∧Vx Y=some ks.length∧∀ (i:Nat) (hi:i < ks.length),QS 4 Y (i:Int)=some (.rp (ks[i]).cells):=by
 rcases h with rfl | ⟨m,u,h,rfl⟩
 ·exact ⟨_,_,.sl false nl2 4 (Wp ks),rfl,by simp,by simp,by simp,by simp [Vx],fun i hi=>WO ks false nl2 i hi⟩
 ·simp only [JV,GTerm.mk.injEq] at h
  obtain ⟨rfl,rfl,rfl,rfl,rfl,rfl⟩:=h
  exact ⟨_,_,.sl false true 1 [],rfl,by simp,by simp,by simp,by simp [Vx],fun i hi=>by simp at hi⟩
theorem cl_form (nl:Bool) (ty:List Int) (h:nl=true→ty=[]):∃ u nT,cl nl ty=.sl u nT 1 (ty.map fun x=>[N x])∧(flOk nT ty∧QB (.sl u nT 1 (ty.map fun x=>[N x]))):=by
 cases nl with
 | true=>exact ⟨false,true,by rw [h rfl];simp [cl],fun _=>h rfl,by rw [h rfl];simp [QB,QL]⟩
 | false=>exact ⟨true,false,by simp [cl],by simp [flOk],Kd (fun n:Int=>Value.int .i64 n) true false ty (.inr ⟨rfl,rfl⟩)⟩
section
variable {s:GSys} {M k0:Nat} {h H H1:List Box} {l l1:Nat} {σ σ1:List PC} {ids new:List Nat} {O:Nat} {r:LV} {v:GTerm}
theorem LkN.nextT (A:LkN s M k0 h H l σ ids new O) (hr:ZlW s M k0 H (ids++new) (.ok l1 σ1 v) r H1):isTF v r∧Low 0 r∧QB r∧Fr M (ids++new) H H1∧∃ n2,LkN s M k0 h H1 l1 σ1 ids (new++n2) O∧∀ P,P < H.length→P ∉ ids++new→P ∉ ids++(new++n2):=by
 obtain ⟨n2,h1,h2,h3,h4,h5,h6⟩:=hr
 have l0:=A.fr.len
 have o2:=A.o2
 have hP:∀ P,P < H.length→P ∉ ids++new→P ∉ ids++(new++n2):=fun P hP hn hi=>by
  rw [← List.append_assoc] at hi
  rcases List.mem_append.1 hi with hi | hi
  ·exact hn hi
  ·have:=h1 P hi;omega
 refine ⟨h4,h5,h6,h3,n2,⟨by rw [← List.append_assoc];exact h2,A.fr.trans h3 A.hn,fun i hi=>?_,A.o1,by have:=h3.len;omega,A.o3,hP O A.o2 A.o4,by rw [h3.same O A.o2 A.o3 A.o4];exact A.box⟩,hP⟩
 rcases List.mem_append.1 hi with hi | hi
 ·exact A.hn i hi
 ·have:=h1 i hi;omega
theorem LkN.setP (A:LkN s M k0 h H l σ ids new O) {P:Nat} (h1:P≠M) (h2:P ∉ ids++new) (h3:P≠O) (h4:h.length≤P) (x:Box):LkN s M k0 h (H.set P x) l σ ids new O :=
 ⟨A.ms.set h1 h2 x,A.fr.set h4 x,A.hn,A.o1,by rw [List.length_set];exact A.o2,A.o3,A.o4,by rw [List.getElem?_set_ne h3];exact A.box⟩
end
def TellZ (s:GSys) (M k0:Nat) (h:List Box) (ids:List Nat) (res:TTold) (r:LV) (h':List Box):Prop:=∃ r',nz r'=nz r∧ZlW s M k0 h ids res r' h'
structure KOk (s:GSys) (M k0:Nat) (h:List Box) (ids:List Nat) (O P:Nat) (l1:Nat) (σ1:List PC) (op n:Int) (ty:LV) (e1:List Nat) (E:List Nat) (f:Nat→List PC→GTerm→TTold) (ks:List GTerm) (R:KTold) (i:Nat) (h':List Box):Prop where
 P1:P < h'.length
 ex:∃ new l' σ' acc kx,LkN s M k0 h h' l' σ' ids new O∧P ∉ ids++new∧h'[P]?=some (some [N op,N n,ty,kx])∧ZcX acc kx∧ZeA kx∧acc.length=i∧LE s l1 σ1 l' σ'∧Y6 (ids++new) e1=E∧XW f (ks.drop i) l' σ' acc=R
structure KBad (M:Nat) (h:List Box) (ids:List Nat) (O P:Nat) (op n:Int) (ty:LV) (R:KTold) (i:Nat) (h':List Box):Prop where
 P1:P < h'.length
 O1:O < h'.length
 hR:R=.fail
 hf:Kl M h'
 fr:Fr M ids h h'
 bO:h'[O]?=some (some [N 0,N 0,.sl true true 1 [],.sl true true 1 []])
 bP:∃ nl z Qj,h'[P]?=some (some [N op,N n,ty,.sl true nl z Qj])∧(z=4∨nl=true)∧Qj.length=i
def TkAt (s:GSys) (M k0:Nat) (h:List Box) (ids:List Nat) (l1:Nat) (σ1:List PC) (op n:Int) (ty:List Int) (e1:List Nat) (q':Int) (f:Nat→List PC→GTerm→TTold) (ks:List GTerm) (R:KTold) (t0:Nat→LV) (H0:List Box):Prop :=
 ∃ (E:List Nat) (u1 nl3 uT nT:Bool) (vx vy Y:LV) (P:Nat),t0 0=.ptr M 0∧t0 3=N q'∧t0 8=.ptr (h.length+1) 0∧t0 9=.rp [N op,N n,vx,vy]∧share vy=Y∧share Y=Y∧Vx Y=some ks.length ∧
  (∀ (i:Nat) (hi:i < ks.length),QS 4 Y (i:Int)=some (.rp (ks[i]).cells))∧t0 10=PL u1 nl3 E∧t0 11=.ptr P 0∧P≠M∧P≠h.length+1∧h.length≤P∧(flOk nT ty∧QB (.sl uT nT 1 (ty.map fun x=>[N x]))) ∧
  KOk s M k0 h ids (h.length+1) P l1 σ1 op n (.sl uT nT 1 (ty.map fun x=>[N x])) e1 E f ks R 0 H0
theorem tell_ok {s:GSys} (hs:s.sys=true) (sw:s.wf):∀ (d l:Nat) (σ:List PC) (t:GTerm) (env:List Nat) (q:Int) (nl:Bool) (h:List Box) (ids:List Nat) (M k0:Nat),3000 < l+d→l≤3000→MS s M k0 h l σ ids→BD s l σ→BE l σ env→σ.length≤2 * l+8→s.G q→Xk s d l σ t env q≠.stuck →
  QD Tryz.prog Xr [.ptr M 0,t.lv,PL false nl (Y6 ids env),N q] h (ZlW s M k0 h ids (Xk s d l σ t env q)):=by
 have ts:=GSys.sys_of hs
 intro d
 induction d with
 | zero=>intro l σ t env q nl h ids M k0 h1 h2;omega
 | succ d ih =>
  intro l σ t env q nl h ids M k0 hd hl m bd be hm hq hns
  have hex:=ZlW.ex m hns (fun l' σ' v he=>by
   obtain ⟨a,b⟩:=VA ts _ _ _ _ _ _ _ _ _ he bd be
   exact ⟨a.len,b⟩)
  have hex':∃ (r:LV) (h':List Box),TellZ s M k0 h ids (Xk s (d+1) l σ t env q) r h':=by
   obtain ⟨r,h',hr⟩:=hex
   exact ⟨r,h',r,rfl,hr⟩
  refine QD.nzR (R:=TellZ s M k0 h ids (Xk s (d+1) l σ t env q)) ?_ (fun r h' hr=>hr)
  refine QD.of_codeOf Ke Qz (by simp) hex' ?_
  have lM:=m.lM
  have hO1:h.length+1≠M:=by omega
  have hO2:h.length+1 ∉ ids:=fun hi=>by have:=m.lt _ hi;omega
  have A0:LkN s M k0 h (h++[none,some [N 0,N 0,.sl true true 1 [],.sl true true 1 []]]) l σ ids [] (h.length+1) :=
   ⟨by rw [List.append_nil];exact m.app _,Fr.app M ids h _,by simp,by omega,by simp,hO1,by rw [List.append_nil];exact hO2,by rw [XQ];rfl⟩
  rw [Xk] at hns ⊢
  have hnsL:Q4 s (d+1) l σ t env q≠.stuck:=fun e=>hns (by rw [e])
  have LK:=look_ok hs sw (d+1) l σ t env q nl _ (ids++[]) M k0 (by omega) hl A0.ms bd be hm hq hnsL
  rw [List.append_nil] at LK
  clear lM
  cases hL:Q4 s (d+1) l σ t env q with
  | stuck=>exact absurd hL hnsL
  | fail =>
   rw [hL] at LK
   simp only
   simp (disch:=omega) [X3,QN,XQ,Qu,Qo]
   refine Qk LK ?_
   rintro r H1 hr
   obtain ⟨hf1,fr1,oH1,hO,a,b,x,y,e,rfl⟩:=A0.fails (by rw [List.append_nil];exact hr)
   have hf2:=hf1.app [none]
   have hf3:=hf2
   obtain ⟨m1,m2,m3,m4,m5,m6,hbF⟩:=hf3
   have fO:∀ k:List Box,(H1++k)[h.length+1]?=some (some [N 0,N 0,.sl true true 1 [],.sl true true 1 []]):=fun k=>by rw [Q5 oH1];exact hO
   have fL:∀ _:Unit,h.length+1 < (H1++[none]).length:=fun _=>by simp;omega
   clear oH1
   simp (disch:=omega) [QN,Qo,hbF,fO]
   refine Ze1 hf2 (fr1.appR [none]) (by omega) (fL ()) hO1 (fun r h' a b c=>⟨r,rfl,a,b,c⟩) ?_ ?_
   ·simp
   ·exact ⟨_,_,_,_,rfl⟩
  | ok l1 σ1 v1 e1 =>
   rw [hL] at LK hns
   obtain ⟨op,n,nl1,ty,nl2,ks⟩:=v1
   simp only at hns ⊢
   have hok:okV s op n nl1 ty ks.length=true:=by
    cases hv:okV s op n nl1 ty ks.length with
    | true=>rfl
    | false=>rw [hv] at hns;exact absurd rfl hns
   rw [hok] at hns ⊢
   have e00:¬ (true=false):=by simp
   rw [if_neg e00] at hns ⊢
   obtain ⟨g11,k3,t40,fl1⟩:=Zpm hok
   obtain ⟨a1,a2,a3,a4,a5,a6,a7⟩:=Jw ts _ _ _ _ _ _ _ _ _ _ hL bd be
   have gq:s.G (if op=11 then s.tm q n else q):=by split;exact GSys.Gtm ts q n;exact hq
   have hq11:op=11→(if op=11 then s.tm q n else q)=s.tm q n:=fun e=>if_pos e
   have hqn:¬ op=11→(if op=11 then s.tm q n else q)=q:=fun e=>if_neg e
   generalize (if op=11 then s.tm q n else q)=q' at *
   generalize hR:XW (fun l σ k=>Xk s d l σ k e1 q') ks l1 σ1 []=R at hns ⊢
   have hRs:R≠.stuck:=by rintro rfl;exact hns rfl
   simp only [X3]
   rw [Xv,Xv,Xv,Xv]
   refine Zb7 (TkAt s M k0 h ids l1 σ1 op n ty e1 q' (fun l σ k=>Xk s d l σ k e1 q') ks R) ?_ ?_
   ·simp (disch:=omega) [QN,XQ,Qu,Qo]
    refine Qk LK ?_
    rintro r H1 hr
    obtain ⟨new,u1,nl3,vs,hv1,rfl,A1⟩:=A0.next (by rw [List.append_nil];exact hr)
    obtain ⟨vx,vy,Y,rfl,hx,hy,hY,hlen,hidx⟩:=hv1.parts
    have A2:=A1.app [none]
    obtain ⟨nm1,hnm1,hb1⟩:=A2.ms.box
    simp only [GSys.cells,List.cons_append,List.nil_append] at hb1
    obtain ⟨uT,nT,hcl,hfT⟩:=cl_form nl1 ty fl1
    have CL:=Ze8 nl1 ty (by omega)
    rw [hcl] at CL
    simp (disch:=omega) [QN,Qo,hb1,hx,hy]
    refine Qa CL (by simp) ?_
    have hP1:H1.length+1≠M:=by have:=A1.ms.lM;omega
    have hP2:H1.length+1 ∉ ids++new:=fun hi=>by have:=A1.ms.lt _ hi;omega
    have hP3:H1.length+1≠h.length+1:=by have:=A1.o2;omega
    have hP4:h.length≤H1.length+1:=by have:=A1.fr.len;omega
    have A3:=A1.app [none,some [N op,N n,.sl uT nT 1 (ty.map fun x=>[N x]),.sl true true 1 []]]
    have J0:KOk s M k0 h ids (h.length+1) (H1.length+1) l1 σ1 op n (.sl uT nT 1 (ty.map fun x=>[N x])) e1 (Y6 (ids++new) e1) (fun l σ k=>Xk s d l σ k e1 q') ks R 0 (H1++[none,some [N op,N n,.sl uT nT 1 (ty.map fun x=>[N x]),.sl true true 1 []]]) :=
     ⟨by simp,new,l1,σ1,[],_,A3,hP2,by rw [XQ];rfl,ZcX.nil,ZeA.nil,rfl,⟨Nat.le_refl _,a2,Nat.le_refl _,by omega,a5⟩,rfl,by rw [List.drop_zero];exact hR⟩
    have tm:=Jr ts hq (b:=n)
    obtain ⟨nm3,hnm3,hb3⟩:=A3.ms.box
    simp only [GSys.cells,List.cons_append,List.nil_append] at hb3
    by_cases h11:op=11
    ·have z11:eqB op 11=true:=by rw [Qc];exact h11
     have e11:=hq11 h11
     simp (disch:=omega) [QN,Qo,hb3,hx,hy,z11]
     refine Qa (tm (g11 h11)) (by simp) ?_
     simp (disch:=omega) [QN,Qo,hb3,hx,hy,hY]
     exact ⟨Y6 (ids++new) e1,u1,nl3,uT,nT,vx,vy,Y,H1.length+1,by simp,by simp [e11],by simp,by simp,hy,hY,hlen,hidx,by simp,by simp,hP1,hP3,hP4,hfT,J0⟩
    ·have z11:eqB op 11=false:=by rw [Qb];exact h11
     have e11:=hqn h11
     simp (disch:=omega) [QN,Qo,hb3,hx,hy,hY,z11]
     exact ⟨Y6 (ids++new) e1,u1,nl3,uT,nT,vx,vy,Y,H1.length+1,by simp,by simp [e11],by simp,by simp,hy,hY,hlen,hidx,by simp,by simp,hP1,hP3,hP4,hfT,J0⟩
   ·rintro t0 H0 hf ⟨E,u1,nl3,uT,nT,vx,vy,Y,P,e0,e3,e8,e9,hy,hY,hlen,hidx,e10,e11,p1,p2,p3,hfT,J0⟩
    clear hf
    simp (disch:=omega) [e0,e3,e8,e9,e10,e11,hy,hY,hlen]
    generalize hTY:LV.sl uT nT 1 (ty.map fun x=>[N x])=TY at *
    refine Xf ks.length 0 (fun i t h'=>t 49=N i∧(KOk s M k0 h ids (h.length+1) P l1 σ1 op n TY e1 E (fun l σ k=>Xk s d l σ k e1 q') ks R i h'∨KBad M h ids (h.length+1) P op n TY R i h'))
     (fun t h'=>KOk s M k0 h ids (h.length+1) P l1 σ1 op n TY e1 E (fun l σ k=>Xk s d l σ k e1 q') ks R ks.length h'∨KBad M h ids (h.length+1) P op n TY R ks.length h') ⟨by simp,.inl J0⟩ (Nat.zero_le _) ?_ ?_
    ·rintro i t1 h1' hf hi ⟨e49,hJ⟩
     have f0:=hf 0 (by kernel_rfl);have f3:=hf 3 (by kernel_rfl);have f8:=hf 8 (by kernel_rfl);have f10:=hf 10 (by kernel_rfl);have f11:=hf 11 (by kernel_rfl);have f47:=hf 47 (by kernel_rfl);have f48:=hf 48 (by kernel_rfl)
     clear hf
     simp [e0,e3,e8,e10,e11] at f0 f3 f8 f10 f11 f47 f48
     by_cases h6:i < ks.length
     ·have hb:ltB (i:Int) ks.length=true:=by rw [Qf];omega
      have ix:=hidx i h6
      rcases hJ with ⟨P1,new,l',σ',acc,kx,A,Pn,bP,kc,kw,ka,le,hE,tk⟩ | ⟨P1,O1,hRf,hf,fr,bO,nlk,z,Qj,bP,hz,hrl⟩
      ·have pA:∀ k:List Box,(h1'++k)[P]?=some (some [N op,N n,TY,kx]):=fun k=>by rw [Q5 P1];exact bP
       have pB:∀ (k:List Box) (x:Box),(h1'++k).set P x=h1'.set P x++k:=fun k x=>List.set_append_left _ _ P1
       have kal:kx.alive=true:=by
        obtain ⟨a,b,c,d,rfl,_⟩:=kc;rfl
       have hd:ks.drop i=ks[i]::ks.drop (i+1):=List.drop_eq_getElem_cons h6
       rw [hd,XW] at tk
       have bk:BE l' σ' e1:=⟨by have:=le.le;omega,fun j hj=>by have:=a7 j hj;have:=le.len;omega⟩
       have hnk:Xk s d l' σ' ks[i] e1 q'≠.stuck:=by
        intro e;rw [e] at tk;exact hRs tk.symm
       have hmany:σ'.length≤2 * l'+8:=by have:=le.many;omega
       have P1':∀ _:Unit,P < h1'.length:=fun _=>P1
       clear P1
       simp (disch:=omega) [f0,f3,f8,f10,f11,f47,f48,e49,hb,ix,QN,Qo,Y5,pA,pB,kal]
       refine ⟨?_,?_⟩
       ·have B1:=(A.setP p1 Pn p2 p3 (some [N op,N n,TY,.dead])).app [none]
        have IH1:=ih l' σ' ks[i] e1 q' nl3 _ (ids++new) M k0 (by have:=le.le;omega) le.top B1.ms le.bd bk hmany gq hnk
        rw [hE] at IH1
        refine Qk IH1 ?_
        rintro r H2 hr
        cases hT:Xk s d l' σ' ks[i] e1 q' with
        | stuck=>exact absurd hT hnk
        | fail =>
         rw [hT] at hr tk
         obtain ⟨hf2,fr2,a,b,x,y,rfl⟩:=hr
         obtain ⟨nlk,z,Qj,ws,rfl,hz,_,_,_,_,_,hrl⟩:=kc
         have P1h:=P1' ()
         have hP:H2[P]?=some (some [N op,N n,TY,.dead]):=by rw [fr2.same P (by simp;omega) p1 Pn,Q5 (by simp;omega),List.getElem?_set_self P1h]
         have P2:∀ _:Unit,P < H2.length:=fun _=>by have:=fr2.len;simp at this;omega
         have O2:∀ _:Unit,h.length+1 < H2.length:=fun _=>by have:=fr2.len;have:=B1.o2;omega
         have hPs:∀ x:Box,(H2.set P x)[P]?=some x:=fun x=>List.getElem?_set_self (P2 ())
         have bO:H2[h.length+1]?=some (some [N 0,N 0,.sl true true 1 [],.sl true true 1 []]):=by rw [fr2.same _ B1.o2 B1.o3 B1.o4];exact B1.box
         have frA:=B1.fr.trans fr2 B1.hn
         clear P1h
         have aa:=fun u=>Zh1 (nl:=nlk) (z:=z) (Qj:=Qj) hz (by omega) u
         simp (disch:=omega) [hP,hPs,f11,Qo,Y5,Ql,aa,e49,Qg,LV.flat,LV.cells,LV.alive]
         exact ⟨h6,.inr ⟨by rw [List.length_set];exact P2 (),by rw [List.length_set];exact O2 (),tk.symm,hf2.set p1 _,frA.set p3 _,by rw [List.getElem?_set_ne p2];exact bO,false,4,Qj++[[a,b,x,y]],hPs _,.inl rfl,by simp [hrl,ka]⟩⟩
        | ok l2 σ2 v =>
         rw [hT] at hr tk
         obtain ⟨tv,lo,hw2,fr2,n2,A2,hP2⟩:=B1.nextT hr
         obtain ⟨cs,x',rfl,c4,ap1,ap2,kc'⟩:=kc.snoc tv lo (by omega)
         have P1h:=P1' ()
         have hP:H2[P]?=some (some [N op,N n,TY,.dead]):=by rw [fr2.same P (by simp;omega) p1 Pn,Q5 (by simp;omega),List.getElem?_set_self P1h]
         have P2:∀ _:Unit,P < H2.length:=fun _=>by have:=fr2.len;simp at this;omega
         have hPs:∀ x:Box,(H2.set P x)[P]?=some x:=fun x=>List.getElem?_set_self (P2 ())
         clear P1h
         simp (disch:=omega) [hP,f11,Qo,Y5,Ql,ap1,ap2,c4,List.take_of_length_le,List.drop_of_length_le,e49,Qg]
         obtain ⟨xf1,xf2,xf3⟩:=kc'.form
         have Pn2:=hP2 P (by have:=P1' ();simp;try omega) Pn
         have LE2:=(VA ts _ _ _ _ _ _ _ _ _ hT le.bd bk).1
         have hE2:Y6 (ids++(new++n2)) e1=E:=by
          rw [← List.append_assoc,VI n2 (fun j hj=>by rw [A.ms.len];exact bk.2 j hj),hE]
         rw [xf2]
         refine ⟨⟨xf1,rfl⟩,h6,.inl ⟨by rw [List.length_set];exact P2 (),new++n2,l2,σ2,acc++[v],x',A2.setP p1 Pn2 p2 p3 _,Pn2,?_,kc',kw.snoc hw2 c4 ap1,by simp [ka],le.trans LE2,hE2,tk⟩⟩
         rw [hPs];simp
       ·have B1:=A.app [none]
        have IH1:=ih l' σ' ks[i] e1 q' nl3 _ (ids++new) M k0 (by have:=le.le;omega) le.top B1.ms le.bd bk hmany gq hnk
        rw [hE] at IH1
        refine Qk IH1 ?_
        rintro r H2 hr
        cases hT:Xk s d l' σ' ks[i] e1 q' with
        | stuck=>exact absurd hT hnk
        | fail =>
         rw [hT] at hr tk
         obtain ⟨hf2,fr2,a,b,x,y,rfl⟩:=hr
         obtain ⟨nlk,z,Qj,ws,rfl,hz,_,_,_,_,_,hrl⟩:=kc
         have P1h:=P1' ()
         have hP:H2[P]?=some (some [N op,N n,TY,.sl true nlk z Qj]):=by rw [fr2.same P (by simp;omega) p1 Pn,Q5 P1h];exact bP
         have P2:∀ _:Unit,P < H2.length:=fun _=>by have:=fr2.len;simp at this;omega
         have O2:∀ _:Unit,h.length+1 < H2.length:=fun _=>by have:=fr2.len;have:=B1.o2;omega
         have hPs:∀ x:Box,(H2.set P x)[P]?=some x:=fun x=>List.getElem?_set_self (P2 ())
         have bO:H2[h.length+1]?=some (some [N 0,N 0,.sl true true 1 [],.sl true true 1 []]):=by rw [fr2.same _ B1.o2 B1.o3 B1.o4];exact B1.box
         have frA:=B1.fr.trans fr2 B1.hn
         clear P1h
         have aa:=fun u=>Zh1 (nl:=nlk) (z:=z) (Qj:=Qj) hz (by omega) u
         simp (disch:=omega) [hP,hPs,f11,Qo,Y5,Ql,aa,e49,Qg,LV.flat,LV.cells,LV.alive]
         exact ⟨h6,.inr ⟨by rw [List.length_set];exact P2 (),by rw [List.length_set];exact O2 (),tk.symm,hf2.set p1 _,frA.set p3 _,by rw [List.getElem?_set_ne p2];exact bO,false,4,Qj++[[a,b,x,y]],hPs _,.inl rfl,by simp [hrl,ka]⟩⟩
        | ok l2 σ2 v =>
         rw [hT] at hr tk
         obtain ⟨tv,lo,hw2,fr2,n2,A2,hP2⟩:=B1.nextT hr
         obtain ⟨cs,x',rfl,c4,ap1,ap2,kc'⟩:=kc.snoc tv lo (by omega)
         have P1h:=P1' ()
         have hP:H2[P]?=some (some [N op,N n,TY,kx]):=by rw [fr2.same P (by simp;omega) p1 Pn,Q5 P1h];exact bP
         have P2:∀ _:Unit,P < H2.length:=fun _=>by have:=fr2.len;simp at this;omega
         have hPs:∀ x:Box,(H2.set P x)[P]?=some x:=fun x=>List.getElem?_set_self (P2 ())
         clear P1h
         simp (disch:=omega) [hP,hPs,f11,Qo,Y5,Ql,kal,ap1,ap2,c4,List.take_of_length_le,List.drop_of_length_le,e49,Qg]
         obtain ⟨xf1,xf2,xf3⟩:=kc'.form
         have Pn2:=hP2 P (by have:=P1' ();simp;try omega) Pn
         have LE2:=(VA ts _ _ _ _ _ _ _ _ _ hT le.bd bk).1
         have hE2:Y6 (ids++(new++n2)) e1=E:=by
          rw [← List.append_assoc,VI n2 (fun j hj=>by rw [A.ms.len];exact bk.2 j hj),hE]
         rw [xf2]
         refine ⟨⟨xf1,rfl⟩,h6,.inl ⟨by rw [List.length_set];exact P2 (),new++n2,l2,σ2,acc++[v],x',A2.setP p1 Pn2 p2 p3 _,Pn2,?_,kc',kw.snoc hw2 c4 ap1,by simp [ka],le.trans LE2,hE2,tk⟩⟩
         rw [hPs];simp
      ·have pA:∀ k:List Box,(h1'++k)[P]?=some (some [N op,N n,TY,.sl true nlk z Qj]):=fun k=>by rw [Q5 P1];exact bP
       have pB:∀ (k:List Box) (x:Box),(h1'++k).set P x=h1'.set P x++k:=fun k x=>List.set_append_left _ _ P1
       have P1':∀ _:Unit,P < h1'.length:=fun _=>P1
       have O1':∀ _:Unit,h.length+1 < h1'.length:=fun _=>O1
       clear P1 O1
       have hi3:i≤3:=by omega
       generalize ks[i]=g at ix
       obtain ⟨gop,gn,gnl1,gty,gnl2,gks⟩:=g
       simp only [GTerm.cells] at ix
       simp (disch:=omega) [f0,f3,f8,f10,f11,f47,f48,e49,hb,ix,QN,Qo,Y5,pA,pB,LV.alive]
       refine ⟨?_,?_⟩
       ·refine Qk (ZlB ((hf.set p1 (some [N op,N n,TY,.dead])).app [none]) _ _ _ _ _ _) ?_
        rintro r H2 ⟨hf2,fr2,a,b,x,y,rfl⟩
        have P1h:=P1' ()
        have O1h:=O1' ()
        have hP:H2[P]?=some (some [N op,N n,TY,.dead]):=by rw [fr2.same P (by simp;omega) p1 (by simp),Q5 (by simp;omega),List.getElem?_set_self P1h]
        have bO2:H2[h.length+1]?=some (some [N 0,N 0,.sl true true 1 [],.sl true true 1 []]):=by rw [fr2.same (h.length+1) (by simp;omega) hO1 (by simp),Q5 (by simp;omega),List.getElem?_set_ne p2];exact bO
        have P2:∀ _:Unit,P < H2.length:=fun _=>by have:=fr2.len;simp at this;omega
        have O2:∀ _:Unit,h.length+1 < H2.length:=fun _=>by have:=fr2.len;simp at this;omega
        have hPs:∀ x:Box,(H2.set P x)[P]?=some x:=fun x=>List.getElem?_set_self (P2 ())
        have frA:Fr M ids h H2:=((fr.set p3 (some [N op,N n,TY,.dead])).appR [none]).trans0 fr2.weak
        clear P1h O1h
        have aa:=fun u=>Zh1 (nl:=nlk) (z:=z) (Qj:=Qj) hz (by omega) u
        simp (disch:=omega) [hP,hPs,f11,Qo,Y5,Ql,aa,e49,Qg,LV.flat,LV.cells,LV.alive]
        exact ⟨by omega,.inr ⟨by rw [List.length_set];exact P2 (),by rw [List.length_set];exact O2 (),hRf,hf2.set p1 _,frA.set p3 _,by rw [List.getElem?_set_ne p2];exact bO2,false,4,Qj++[[a,b,x,y]],hPs _,.inl rfl,by simp [hrl]⟩⟩
       ·refine Qk (ZlB (hf.app [none]) _ _ _ _ _ _) ?_
        rintro r H2 ⟨hf2,fr2,a,b,x,y,rfl⟩
        have P1h:=P1' ()
        have O1h:=O1' ()
        have hP:H2[P]?=some (some [N op,N n,TY,.sl true nlk z Qj]):=by rw [fr2.same P (by simp;omega) p1 (by simp),Q5 P1h];exact bP
        have bO2:H2[h.length+1]?=some (some [N 0,N 0,.sl true true 1 [],.sl true true 1 []]):=by rw [fr2.same (h.length+1) (by simp;omega) hO1 (by simp),Q5 O1h];exact bO
        have P2:∀ _:Unit,P < H2.length:=fun _=>by have:=fr2.len;simp at this;omega
        have O2:∀ _:Unit,h.length+1 < H2.length:=fun _=>by have:=fr2.len;simp at this;omega
        have hPs:∀ x:Box,(H2.set P x)[P]?=some x:=fun x=>List.getElem?_set_self (P2 ())
        have frA:Fr M ids h H2:=(fr.appR [none]).trans0 fr2.weak
        clear P1h O1h
        have aa:=fun u=>Zh1 (nl:=nlk) (z:=z) (Qj:=Qj) hz (by omega) u
        simp (disch:=omega) [hP,hPs,f11,Qo,Y5,Ql,aa,e49,Qg,LV.flat,LV.cells,LV.alive]
        exact ⟨by omega,.inr ⟨by rw [List.length_set];exact P2 (),by rw [List.length_set];exact O2 (),hRf,hf2.set p1 _,frA.set p3 _,by rw [List.getElem?_set_ne p2];exact bO2,false,4,Qj++[[a,b,x,y]],hPs _,.inl rfl,by simp [hrl]⟩⟩
     ·have hb:ltB (i:Int) ks.length=false:=by rw [Qd];omega
      simp (disch:=omega) [f48,e49,hb]
      have:i=ks.length:=by omega
      subst this
      exact hJ
    ·rintro t1 h1' hf hJ
     have f8:=hf 8 (by kernel_rfl);have f11:=hf 11 (by kernel_rfl)
     clear hf
     simp [e8,e11] at f8 f11
     rcases hJ with ⟨P1,new,l',σ',acc,kx,A,Pn,bP,kc,kw,ka,le,hE,tk⟩ | ⟨P1,O1,hRf,hf,fr,bO,nlk,z,Qj,bP,hz,hrl⟩
     ·rw [List.drop_length] at tk
      simp only [XW] at tk
      subst tk
      obtain ⟨nlk,z,Qj,ws,rfl,hz,hn,hsr,hnm,hfl,hlow,hrl⟩:=kc
      have O2:=A.o2
      have hPO:h1'[P]?=some (some [N op,N n,TY,.sl true nlk z Qj]):=bP
      have gO:∀ x:Box,(h1'.set P x)[h.length+1]?=some (some [N 0,N 0,.sl true true 1 [],.sl true true 1 []]):=fun x=>by rw [List.getElem?_set_ne p2];exact A.box
      have P1':∀ _:Unit,P < h1'.length:=fun _=>P1
      have O2':∀ _:Unit,h.length+1 < h1'.length:=fun _=>O2
      have hTa:TY.alive=true∧share TY=L nT ty:=by subst hTY;exact ⟨rfl,by simp⟩
      obtain ⟨kn',kz',kr',kwe,kw1,kw2⟩:=kw
      simp only [LV.sl.injEq] at kwe
      obtain ⟨-,rfl,rfl,rfl⟩:=kwe
      clear P1 O2
      simp (disch:=omega) [f8,f11,hPO,gO,Y5,Qo,hTa,LV.alive]
      have hOs:h.length+1 < (h1'.set P (some [LV.dead,LV.dead,LV.dead,LV.dead])).length:=by rw [List.length_set];exact O2' ()
      have hlo:Low 0 TY:=by subst hTY;simp
      have hTW:QB TY:=by subst hTY;exact hfT.2
      refine ZlA (O:=h.length+1) (vs:=[N op,N n,TY,.sl true nlk z Qj]) (.inr rfl) ?_ ?_ rfl ?_ ?_
      ·simp [f8]
      ·exact List.getElem?_set_self hOs
      ·have:=O2' ();simp;omega
      ·refine ⟨.agg [N op,N n,TY,.sl true nlk 4 Qj],?_,new,A.hn,?_,?_,⟨.mk op n nT ty nlk ws,_,rfl,?_,?_,?_⟩,?_,?_⟩
       ·rcases hz with rfl | hz
        ·rfl
        ·have:=hn hz
         subst this
         subst hz
         simp [nz,Z6]
       ·exact ((A.setP p1 Pn p2 p3 _).ms.set hO1 A.o4 _).set hO1 A.o4 _
       ·exact ((A.fr.set p3 _).set (by omega) _).set (by omega) _
       ·simp [GTerm.cells,hTa,hsr]
       ·simp only [GTerm.nm]
        rw [← ZdN ws,hnm,ZdN]
       ·simp only [GTerm.fl]
        exact ⟨hfT.1,hfl⟩
       ·simp [hlo,hlow]
       ·simp only [QB,QP]
        refine ⟨trivial,trivial,hTW,⟨?_,kw1⟩,trivial⟩
        cases hnk:nlk with
        | true=>exact .inl (hn hnk)
        | false=>exact .inr ⟨trivial,rfl,kw2⟩
     ·subst hRf
      have gO:∀ x:Box,(h1'.set P x)[h.length+1]?=some (some [N 0,N 0,.sl true true 1 [],.sl true true 1 []]):=fun x=>by rw [List.getElem?_set_ne p2];exact bO
      have P1':∀ _:Unit,P < h1'.length:=fun _=>P1
      have O1':∀ _:Unit,h.length+1 < h1'.length:=fun _=>O1
      have hTa:TY.alive=true∧share TY=L nT ty:=by subst hTY;exact ⟨rfl,by simp⟩
      clear P1 O1
      simp (disch:=omega) [f8,f11,bP,gO,Y5,Qo,hTa,LV.alive]
      refine Ze1 (hf.set p1 (some [LV.dead,LV.dead,LV.dead,LV.dead])) (fr.set p3 (some [LV.dead,LV.dead,LV.dead,LV.dead])) (by omega) (by rw [List.length_set];exact O1' ()) hO1 (fun r h' a b c=>⟨r,rfl,a,b,c⟩) ?_ ?_
      ·simp [f8]
      ·exact ⟨_,_,_,_,rfl⟩
def Zlx (s:GSys) (M:Nat) (h:List Box) (hbs:List Nat) (res:TTold) (r:LV) (h':List Box):Prop:=match res with
 | .stuck=>True
 | .fail=>Fr M hbs h h'∧∃ a b x y,r=.tup [.agg [a,b,x,y],B false]
 | .ok l σ v=>∃ hbs',(∀ i∈hbs',i∈hbs∨h.length≤i)∧RS s M hbs' h' l σ∧Fr M hbs h h'∧∃ z,r=.tup [z,B true]∧isTF v z∧Low 0 z
theorem Zlx.ex {s:GSys} {M:Nat} {h:List Box} {l:Nat} {σ:List PC} {hbs:List Nat} (m:RS s M hbs h l σ) {res:TTold} (hs:res≠.stuck) (hl:∀ l' σ' v,res=.ok l' σ' v→σ.length≤σ'.length∧v.fl):∃ r h',Zlx s M h hbs res r h':=by
 cases res with
 | stuck=>exact absurd rfl hs
 | fail=>exact ⟨.tup [.agg [N 0,N 0,N 0,N 0],B false],h,Fr.refl _ _ _,⟨_,_,_,_,rfl⟩⟩
 | ok l' σ' v =>
  obtain ⟨hbs',h',h1,h2,h3⟩:=m.ex l' σ' (hl _ _ _ rfl).1
  exact ⟨_,h',hbs',h3,h1,h2,.agg v.cells,rfl,⟨v,_,rfl,by simp,rfl,(hl _ _ _ rfl).2⟩,by simp⟩
theorem Zit {O m:Nat} {vs:List LV} {R:LV→List Box→Prop} {e:Exit} {s:St} {b:Bool} (he:e=.normal∨e=.ret) (h8:s.t 8=.ptr O 0) (h9:s.t 9=B b) (hb:s.h[O]?=some (some vs)) (h4:vs.length=4) (hm:m≤s.h.length) (hR:R (.tup [.agg vs,B b]) (s.h.set O (some (shareAll vs)))) :
  J2 [.cell 8 true 4,.tmp 9] m R e s:=by
 refine ⟨he,[.agg vs,B b],⟨upd s.t 9 (B b),s.h.set O (some (shareAll vs))⟩,(s.h.set O (some (shareAll vs))).length,?_,by rw [List.length_set];exact hm,Nat.le_refl _,.inl rfl,?_⟩
 ·simp [Yh,Zfh,h8,hb,h4,Wm,h9]
 ·rw [List.take_of_length_le (Nat.le_refl _)];exact hR
section
variable {s:GSys} {M:Nat} {h H H1:List Box} {l l1:Nat} {σ σ1:List PC} {h0 hbs:List Nat} {O:Nat} {r:LV} {v:GTerm}
theorem Zji {st:St} {R:LV→List Box→Prop} (f:Fr M h0 h H) (o1:h.length≤O) (o2:O < H.length) (hR:∀ r h',Fr M h0 h h'→(∃ a b x y,r=.tup [.agg [a,b,x,y],B false])→R r h') (h8:st.t 8=.ptr O 0) (h9:st.t 9=B false) (hh:∃ a b x y,st.h=H.set O (some [a,b,x,y])):J2 [.cell 8 true 4,.tmp 9] h.length R .ret st:=by
 obtain ⟨a,b,x,y,hh⟩:=hh
 have l0:=f.len
 refine Zit (.inr rfl) h8 h9 (by rw [hh,List.getElem?_set_self (by omega)]) rfl (by rw [hh,List.length_set];omega) ?_
 rw [hh,List.set_set]
 exact hR _ _ (f.set o1 _) ⟨_,_,_,_,rfl⟩
theorem RkN.setP (A:RkN s M h H l σ h0 hbs O) {P:Nat} (h1:P≠M) (h2:P ∉ hbs) (h3:P≠O) (h4:h.length≤P) (x:Box):RkN s M h (H.set P x) l σ h0 hbs O :=
 ⟨A.ms.set h1 h2 x,A.fr.set h4 x,A.hn,A.o1,by rw [List.length_set];exact A.o2,A.o3,A.o4,by rw [List.getElem?_set_ne h3];exact A.box⟩
theorem RkN.nextT (A:RkN s M h H l σ h0 hbs O) (hr:Zlx s M H hbs (.ok l1 σ1 v) r H1):Fr M hbs H H1∧(∃ z,r=.tup [z,B true]∧isTF v z∧Low 0 z)∧∃ hbs',RkN s M h H1 l1 σ1 h0 hbs' O∧∀ P,P < H.length→P ∉ hbs→P ∉ hbs':=by
 obtain ⟨hbs',h1,h2,h3,h4⟩:=hr
 refine ⟨h3,h4,hbs',A.step h1 h2 h3,fun P hP hn hi=>?_⟩
 rcases h1 P hi with hi | hi
 ·exact hn hi
 ·omega
end
def TellZS (s:GSys) (M:Nat) (h:List Box) (hbs:List Nat) (res:TTold) (r:LV) (h':List Box):Prop:=∃ r',nz r'=nz r∧Zlx s M h hbs res r' h'
def KOkR (s:GSys) (M:Nat) (h:List Box) (h0:List Nat) (O P:Nat) (l1:Nat) (σ1:List PC) (op n:Int) (ty:LV) (f:Nat→List PC→GTerm→TTold) (ks:List GTerm) (R:KTold) (i:Nat) (h':List Box):Prop :=
 P < h'.length∧∃ hbs l' σ' acc kx,RkN s M h h' l' σ' h0 hbs O∧P ∉ hbs∧h'[P]?=some (some [N op,N n,ty,kx])∧ZcX acc kx∧acc.length=i∧LE s l1 σ1 l' σ'∧XW f (ks.drop i) l' σ' acc=R
def TkAtR (s:GSys) (M:Nat) (h:List Box) (h0:List Nat) (l1:Nat) (σ1:List PC) (op n:Int) (ty:List Int) (e1:List Nat) (q':Int) (f:Nat→List PC→GTerm→TTold) (ks:List GTerm) (R:KTold) (t0:Nat→LV) (H0:List Box):Prop :=
 ∃ (u1 nl3:Bool) (vx vy Y:LV) (P:Nat),t0 0=.ptr M 0∧t0 14=N q'∧t0 8=.ptr (h.length+1) 0∧t0 10=.rp [N op,N n,vx,vy]∧share vy=Y∧share Y=Y∧Vx Y=some ks.length ∧
  (∀ (i:Nat) (hi:i < ks.length),QS 4 Y (i:Int)=some (.rp (ks[i]).cells))∧t0 11=OU u1 nl3 (Vs e1)∧t0 13=.ptr P 0∧P≠M∧P≠h.length+1∧h.length≤P ∧
  KOkR s M h h0 (h.length+1) P l1 σ1 op n (OU true false ty) f ks R 0 H0
theorem tell3_ok {s:GSys} (hs:s.sys=true) (sw:s.wf):∀ (d l:Nat) (σ:List PC) (t:GTerm) (env:List Nat) (q:Int) (nl:Bool) (h:List Box) (hbs:List Nat) (M:Nat),3000 < l+d→l≤3000→RS s M hbs h l σ→BD s l σ→BE l σ env→σ.length≤2 * l+8→s.G q→Xk s d l σ t env q≠.stuck →
  QD Tryz.prog KJ [.ptr M 0,t.lv,L nl (Vs env),N q] h (Zlx s M h hbs (Xk s d l σ t env q)):=by
 have ts:=GSys.sys_of hs
 intro d
 induction d with
 | zero=>intro l σ t env q nl h hbs M h1 h2;omega
 | succ d ih =>
  intro l σ t env q nl h hbs M hd hl m bd be hm hq hns
  have hex:=Zlx.ex m hns (fun l' σ' v he=>by
   obtain ⟨a,b⟩:=VA ts _ _ _ _ _ _ _ _ _ he bd be
   exact ⟨a.len,b⟩)
  have hex':∃ (r:LV) (h':List Box),TellZS s M h hbs (Xk s (d+1) l σ t env q) r h':=by
   obtain ⟨r,h',hr⟩:=hex
   exact ⟨r,h',r,rfl,hr⟩
  refine QD.nzR (R:=TellZS s M h hbs (Xk s (d+1) l σ t env q)) ?_ (fun r h' hr=>hr)
  refine QD.of_codeOf Zli Qz (by simp) hex' ?_
  have lM:=m.lM
  have hO1:h.length+1≠M:=by omega
  have hO2:h.length+1 ∉ hbs:=fun hi=>by have:=m.lt _ hi;omega
  have A0:RkN s M h (h++[none,some [N 0,N 0,.sl true true 1 [],.sl true true 1 []]]) l σ hbs hbs (h.length+1) :=
   ⟨m.app _,Fr.app M hbs h _,fun i hi=>.inl hi,by omega,by simp,hO1,hO2,by rw [XQ];rfl⟩
  rw [Xk] at hns ⊢
  have hnsL:Q4 s (d+1) l σ t env q≠.stuck:=fun e=>hns (by rw [e])
  have LK:=look3_ok hs sw (d+1) l σ t env q nl _ hbs M (by omega) hl A0.ms bd be hm hq hnsL
  clear lM
  cases hL:Q4 s (d+1) l σ t env q with
  | stuck=>exact absurd hL hnsL
  | fail =>
   rw [hL] at LK
   simp only
   simp (disch:=omega) [ZaG,QN,XQ,Qu,Qo]
   refine Qk LK ?_
   rintro r H1 hr
   obtain ⟨fr1,oH1,hO,a,b,x,y,e,rfl⟩:=A0.fails hr
   have fO:∀ k:List Box,(H1++k)[h.length+1]?=some (some [N 0,N 0,.sl true true 1 [],.sl true true 1 []]):=fun k=>by rw [Q5 oH1];exact hO
   have fL:∀ _:Unit,h.length+1 < (H1++[none]).length:=fun _=>by simp;omega
   clear oH1
   simp (disch:=omega) [QN,Qo,fO]
   refine Zji (fr1.appR [none]) (by omega) (fL ()) (fun r h' b c=>⟨r,rfl,b,c⟩) ?_ ?_ ?_
   ·simp
   ·simp
   ·exact ⟨_,_,_,_,rfl⟩
  | ok l1 σ1 v1 e1 =>
   rw [hL] at LK hns
   obtain ⟨op,n,nl1,ty,nl2,ks⟩:=v1
   simp only at hns ⊢
   have hok:okV s op n nl1 ty ks.length=true:=by
    cases hv:okV s op n nl1 ty ks.length with
    | true=>rfl
    | false=>rw [hv] at hns;exact absurd rfl hns
   rw [hok] at hns ⊢
   have e00:¬ (true=false):=by simp
   rw [if_neg e00] at hns ⊢
   obtain ⟨g11,k3,t40,fl1⟩:=Zpm hok
   obtain ⟨a1,a2,a3,a4,a5,a6,a7⟩:=Jw ts _ _ _ _ _ _ _ _ _ _ hL bd be
   have gq:s.G (if op=11 then s.tm q n else q):=by split;exact GSys.Gtm ts q n;exact hq
   have hq11:op=11→(if op=11 then s.tm q n else q)=s.tm q n:=fun e=>if_pos e
   have hqn:¬ op=11→(if op=11 then s.tm q n else q)=q:=fun e=>if_neg e
   generalize (if op=11 then s.tm q n else q)=q' at *
   generalize hR:XW (fun l σ k=>Xk s d l σ k e1 q') ks l1 σ1 []=R at hns ⊢
   have hRs:R≠.stuck:=by rintro rfl;exact hns rfl
   simp only [ZaG]
   rw [Xv,Xv,Xv,Xv,Xv]
   refine Zb7 (TkAtR s M h hbs l1 σ1 op n ty e1 q' (fun l σ k=>Xk s d l σ k e1 q') ks R) ?_ ?_
   ·simp (disch:=omega) [QN,XQ,Qu,Qo]
    refine Qk LK ?_
    rintro r H1 hr
    obtain ⟨hb1,u1,nl3,vs,hv1,rfl,A1⟩:=A0.next hr
    obtain ⟨vx,vy,Y,rfl,hx,hy,hY,hlen,hidx⟩:=hv1.parts
    have A2:=A1.app [none]
    have CL:=JN nl1 ty (by omega)
    simp (disch:=omega) [QN,Qo,hx,hy]
    refine Qa CL (by simp) ?_
    have hP1:H1.length+1≠M:=by have:=A1.ms.lM;omega
    have hP2:H1.length+1 ∉ hb1:=fun hi=>by have:=A1.ms.lt _ hi;omega
    have hP3:H1.length+1≠h.length+1:=by have:=A1.o2;omega
    have hP4:h.length≤H1.length+1:=by have:=A1.fr.len;omega
    have A3:=A1.app [none,some [N op,N n,OU true false ty,.sl true true 1 []]]
    have J0:KOkR s M h hbs (h.length+1) (H1.length+1) l1 σ1 op n (OU true false ty) (fun l σ k=>Xk s d l σ k e1 q') ks R 0 (H1++[none,some [N op,N n,OU true false ty,.sl true true 1 []]]) :=
     ⟨by simp,hb1,l1,σ1,[],_,A3,hP2,by rw [XQ];rfl,ZcX.nil,rfl,⟨Nat.le_refl _,a2,Nat.le_refl _,by omega,a5⟩,by rw [List.drop_zero];exact hR⟩
    have tm:=Kf ts hq (b:=n)
    obtain ⟨cs3,hb3,hc1,hc2,_,_⟩:=A3.ms.tick l1
    simp only [GSys.cells,List.cons_append,List.nil_append] at hb3
    by_cases h11:op=11
    ·have z11:eqB op 11=true:=by rw [Qc];exact h11
     have e11:=hq11 h11
     simp (disch:=omega) [QN,Qo,hb3,hx,hy,z11]
     refine Qa (tm (g11 h11)) (by simp) ?_
     simp (disch:=omega) [QN,Qo,hb3,hx,hy,hY]
     exact ⟨u1,nl3,vx,vy,Y,H1.length+1,by simp,by simp [e11],by simp,by simp,hy,hY,hlen,hidx,by simp,by simp,hP1,hP3,hP4,J0⟩
    ·have z11:eqB op 11=false:=by rw [Qb];exact h11
     have e11:=hqn h11
     simp (disch:=omega) [QN,Qo,hb3,hx,hy,hY,z11]
     exact ⟨u1,nl3,vx,vy,Y,H1.length+1,by simp,by simp [e11],by simp,by simp,hy,hY,hlen,hidx,by simp,by simp,hP1,hP3,hP4,J0⟩
   ·rintro t0 H0 hf ⟨u1,nl3,vx,vy,Y,P,e0,e14,e8,e10,hy,hY,hlen,hidx,e11,e13,p1,p2,p3,J0⟩
    clear hf
    simp (disch:=omega) [e0,e14,e8,e10,e11,e13,hy,hY,hlen]
    generalize hTY:OU true false ty=TY at *
    refine Xf ks.length 0 (fun i t h'=>t 15=N i∧KOkR s M h hbs (h.length+1) P l1 σ1 op n TY (fun l σ k=>Xk s d l σ k e1 q') ks R i h')
     (fun t h'=>KOkR s M h hbs (h.length+1) P l1 σ1 op n TY (fun l σ k=>Xk s d l σ k e1 q') ks R ks.length h') ⟨by simp,J0⟩ (Nat.zero_le _) ?_ ?_
    ·rintro i t1 h1' hf hi ⟨e15,hJ⟩
     have f0:=hf 0 (by kernel_rfl);have f14:=hf 14 (by kernel_rfl);have f8:=hf 8 (by kernel_rfl);have f10:=hf 10 (by kernel_rfl);have f11:=hf 11 (by kernel_rfl);have f13:=hf 13 (by kernel_rfl)
     clear hf
     simp [e0,e14,e8,e10,e11,e13] at f0 f14 f8 f10 f11 f13
     by_cases h6:i < ks.length
     ·have hb:ltB (i:Int) ks.length=true:=by rw [Qf];omega
      have ix:=hidx i h6
      obtain ⟨P1,hb2,l',σ',acc,kx,A,Pn,bP,kc,ka,le,tk⟩:=hJ
      have pA:∀ k:List Box,(h1'++k)[P]?=some (some [N op,N n,TY,kx]):=fun k=>by rw [Q5 P1];exact bP
      have pB:∀ (k:List Box) (x:Box),(h1'++k).set P x=h1'.set P x++k:=fun k x=>List.set_append_left _ _ P1
      have kal:kx.alive=true:=by
       obtain ⟨a,b,c,d,rfl,_⟩:=kc;rfl
      have hd:ks.drop i=ks[i]::ks.drop (i+1):=List.drop_eq_getElem_cons h6
      rw [hd,XW] at tk
      have bk:BE l' σ' e1:=⟨by have:=le.le;omega,fun j hj=>by have:=a7 j hj;have:=le.len;omega⟩
      have hnk:Xk s d l' σ' ks[i] e1 q'≠.stuck:=by
       intro e;rw [e] at tk;exact hRs tk.symm
      have hmany:σ'.length≤2 * l'+8:=by have:=le.many;omega
      have P1':∀ _:Unit,P < h1'.length:=fun _=>P1
      clear P1
      simp (disch:=omega) [f0,f14,f8,f10,f11,f13,e15,hb,ix,hy,hY,hlen,QN,Qo,Y5,pA,pB,kal]
      have IH1:=ih l' σ' ks[i] e1 q' nl3 h1' hb2 M (by have:=le.le;omega) le.top A.ms le.bd bk hmany gq hnk
      refine Qk IH1 ?_
      rintro r H2 hr
      cases hT:Xk s d l' σ' ks[i] e1 q' with
      | stuck=>exact absurd hT hnk
      | fail =>
       rw [hT] at hr tk
       obtain ⟨fr2,a,b,x,y,rfl⟩:=hr
       simp only at tk
       subst tk
       have P1h:=P1' ()
       have fr3:=(A.fr.transH fr2 A.hn).appR [none]
       have O2:=A.o2
       have oH2:h.length+1 < H2.length:=by have:=fr2.len;omega
       have hO2:H2[h.length+1]?=some (some [N 0,N 0,.sl true true 1 [],.sl true true 1 []]):=by rw [fr2.same _ A.o2 A.o3 A.o4];exact A.box
       have fO:∀ k:List Box,(H2++k)[h.length+1]?=some (some [N 0,N 0,.sl true true 1 [],.sl true true 1 []]):=fun k=>by rw [Q5 oH2];exact hO2
       have fL:∀ _:Unit,h.length+1 < (H2++[none]).length:=fun _=>by simp;omega
       clear oH2 P1h O2
       simp (disch:=omega) [f8,QN,Qo,fO]
       refine Zji fr3 (by omega) (fL ()) (fun r h' b c=>⟨r,rfl,b,c⟩) ?_ ?_ ?_
       ·simp [f8]
       ·simp
       ·exact ⟨_,_,_,_,rfl⟩
      | ok l2 σ2 v =>
       rw [hT] at hr tk
       simp only at tk
       obtain ⟨fr2,⟨z,rfl,tv,lo⟩,hb4,A2,hP2⟩:=A.nextT hr
       obtain ⟨w,cs,rfl,csh,wn,wf⟩:=tv
       obtain ⟨cs',x',hcs,c4,ap1,ap2,kc'⟩:=kc.snoc (v:=v) (r:=.agg w.cells) ⟨w,w.cells,rfl,by obtain ⟨op',n',nl1',ty',nl2',ks'⟩:=w;simp,wn,wf⟩ (by simp) (by omega)
       obtain rfl:w.cells=cs':=by simpa using hcs
       have c40:cs.length=4:=by rw [← Wd,csh];exact c4
       have P1h:=P1' ()
       have hP:H2[P]?=some (some [N op,N n,TY,kx]):=by rw [fr2.same P P1h p1 Pn];exact bP
       have P2:∀ _:Unit,P < H2.length:=fun _=>by have:=fr2.len;omega
       have hPa:∀ k:List Box,(H2++k)[P]?=some (some [N op,N n,TY,kx]):=fun k=>by rw [Q5 (P2 ())];exact hP
       have hPb:∀ (k:List Box) (x:Box),(H2++k).set P x=H2.set P x++k:=fun k x=>List.set_append_left _ _ (P2 ())
       have hPs:∀ (x:Box) (k:List Box),(H2.set P x++k)[P]?=some x:=fun x k=>by rw [Q5 (by rw [List.length_set];exact P2 ())];exact List.getElem?_set_self (P2 ())
       clear P1h
       simp (disch:=omega) [hP,hPa,hPb,hPs,f13,QN,Qo,Y5,Ql,kal,csh,ap1,ap2,c4,c40,List.take_of_length_le,List.drop_of_length_le,e15,Qg]
       obtain ⟨xf1,xf2,xf3⟩:=kc'.form
       have Pn2:=hP2 P (P1' ()) Pn
       rw [xf2]
       refine ⟨⟨xf1,rfl⟩,h6,?_,hb4,l2,σ2,acc++[v],x',((A2.setP p1 Pn2 p2 p3 _).app [none]).setP p1 Pn2 p2 p3 _,Pn2,?_,kc',by simp [ka],le.trans (VA ts _ _ _ _ _ _ _ _ _ hT le.bd bk).1,tk⟩
       ·have:=P2 ();simp;omega
       ·rw [List.getElem?_set_self (by have:=P2 ();simp;omega)];rfl
     ·have hb:ltB (i:Int) ks.length=false:=by rw [Qd];omega
      simp (disch:=omega) [f10,e15,hy,hY,hlen,hb]
      have:i=ks.length:=by omega
      subst this
      exact hJ
    ·rintro t1 h1' hf ⟨P1,hb2,l',σ',acc,kx,A,Pn,bP,kc,ka,le,tk⟩
     have f8:=hf 8 (by kernel_rfl);have f13:=hf 13 (by kernel_rfl)
     clear hf
     simp [e8,e13] at f8 f13
     rw [List.drop_length] at tk
     simp only [XW] at tk
     subst tk
     obtain ⟨nlk,z,Qj,ws,rfl,hz,hn,hsr,hnm,hfl,hlow,hrl⟩:=kc
     have O2:=A.o2
     have gO:∀ x:Box,(h1'.set P x)[h.length+1]?=some (some [N 0,N 0,.sl true true 1 [],.sl true true 1 []]):=fun x=>by rw [List.getElem?_set_ne p2];exact A.box
     have O2':∀ _:Unit,h.length+1 < h1'.length:=fun _=>O2
     have hTa:TY.alive=true∧share TY=L false ty:=by subst hTY;exact ⟨rfl,by simp⟩
     clear P1 O2
     simp (disch:=omega) [f8,f13,bP,gO,Y5,Qo,hTa,LV.alive]
     have hOs:h.length+1 < (h1'.set P (some [LV.dead,LV.dead,LV.dead,LV.dead])).length:=by rw [List.length_set];exact O2' ()
     have hlo:Low 0 TY:=by subst hTY;simp
     refine Zit (b:=true) (O:=h.length+1) (vs:=[N op,N n,TY,.sl true nlk z Qj]) (.inr rfl) ?_ ?_ ?_ rfl ?_ ?_
     ·simp [f8]
     ·simp
     ·exact List.getElem?_set_self hOs
     ·have:=O2' ();simp;omega
     ·refine ⟨.tup [.agg [N op,N n,TY,.sl true nlk 4 Qj],B true],?_,hb2,A.hn,?_,?_,_,rfl,⟨.mk op n false ty nlk ws,_,rfl,?_,?_,?_⟩,?_⟩
      ·rcases hz with rfl | hz
       ·rfl
       ·have:=hn hz
        subst this
        subst hz
        simp [nz,Z6]
      ·exact ((A.setP p1 Pn p2 p3 _).ms.set hO1 A.o4 _).set hO1 A.o4 _
      ·exact ((A.fr.set p3 _).set (by omega) _).set (by omega) _
      ·simp [GTerm.cells,hTa,hsr]
      ·simp only [GTerm.nm]
       rw [← ZdN ws,hnm,ZdN]
      ·simp only [GTerm.fl]
       exact ⟨by simp [flOk],hfl⟩
      ·simp [hlo,hlow]
theorem Zno (c:Int) (h:I64 c):Qe Tryz.prog XR [N c] (·=B (eqB (QH c).1 3)):=by
 refine Qe.of_codeOf Zff Qz (by simp) ⟨_,rfl,by simp⟩ ?_
 simp (disch:=omega) [Zar]
 refine Qa (Zac c h) (by simp) ?_
 simp (disch:=omega)
theorem Zru (f:LV) (p:Int→Bool) (sf:share f=f) (lf:Low 0 f) (nl:Bool) (l:List Int) (hw:l.length≤1000000) (hp:∀ c∈l,FnB Tryz.prog f (N c) (p c)) :
  Qe Tryz.prog Xc [L nl l,f] (fun r=>∃ n:Int,r=N n∧leB 0 n=l.any p):=by
 refine Qe.of_codeOf YY Qz (by simp) ⟨N (if l.any p=true then 0 else -1),⟨_,rfl,by split<;>simp_all [leB]⟩,by simp⟩ ?_
 simp (disch:=omega) [XM]
 refine Wc l.length 0 (fun i t _=>t 8=N i∧l.any p=(l.drop i).any p) (by simp) (by omega) ?_
 rintro i t1 hh hf hi ⟨e8,hj⟩
 (have e0:=hf 0 (by kernel_rfl);have e1:=hf 1 (by kernel_rfl);have e6:=hf 6 (by kernel_rfl);have e7:=hf 7 (by kernel_rfl);clear hf;simp [sf] at e0 e1 e6 e7)
 simp (disch:=omega) [e0,e1,e6,e7,e8]
 (with_reducible first | refine Qm (fun h6=>?_) (fun h6=>?_) | refine Qn (fun h6=>?_) (fun h6=>?_))
 ·simp only [Qf,Qd,Qi,Qh,Qc,Qb,Bool.not_true,Bool.not_false] at h6
  have hd:=List.drop_eq_getElem_cons (l:=l) (i:=i) (by omega)
  have hpc:=hp (l[i]'(by omega)) (List.getElem_mem _)
  have ix:=Xq l false nl i (by omega) (by omega)
  have eg:l.getD ((i:Int)).toNat 0=l[i]:=by simp [List.getD_eq_getElem?_getD,show i < l.length by omega]
  rw [eg] at ix
  simp (disch:=omega) [e0,e1,e6,e7,e8,ix,sf]
  repeat' (first
  | with_reducible refine Zjc hpc ?_
  | (with_reducible (first | refine Qm (fun hb_=>?_) (fun hb_=>?_) | refine Qn (fun hb_=>?_) (fun hb_=>?_))<;>simp (disch:=omega) [hb_,e0,e1,e6,e7,e8,ix,sf])
  | simp (disch:=omega) [e0,e1,e6,e7,e8,ix,sf])
  ·rw [hj,hd,List.any_cons,hb_,Bool.true_or,Qi];omega
  ·exact ⟨by omega,Qg (by omega),by rw [hj,hd,List.any_cons,hb_,Bool.false_or]⟩
 ·simp only [Qf,Qd,Qi,Qh,Qc,Qb,Bool.not_true,Bool.not_false] at h6
  simp (disch:=omega)
  rw [hj,show i=l.length by omega,List.drop_length];simp [leB]
theorem Znp (f:LV) (p:Int→Bool) (sf:share f=f) (lf:Low 0 f) (nl:Bool) (l:List Int) (hw:l.length≤1000000) (hp:∀ c∈l,FnB Tryz.prog f (N c) (p c)) :
  Qe Tryz.prog Wr [L nl l,f] (·=B (l.any p)):=by
 refine Qe.of_codeOf Yz Qz (by simp) ⟨_,rfl,by simp⟩ ?_
 simp (disch:=omega) [Xs,sf]
 refine ZiG (Zru f p sf lf nl l hw hp) (by simp [lf]) ?_
 rintro r ⟨n,rfl,hn⟩
 simp (disch:=omega) [sf,hn]
def Zaz (l:List Int):Bool:=!(l.any fun c=>QW c)
theorem Zlr {l:List Int}:Zaz l=true ↔ Zbk l:=by
 simp [Zaz,Zbk]
theorem Zov {s:GSys} (hs:s.sys=true) (sw:s.wf) (nl:Bool) (l:List Int) (ho:okL s.size l=true):Qe Tryz.prog Vt [s.lv,L nl l] (·=B (Zaz l)):=by
 have ts:=GSys.sys_of hs
 have hL:=Zh3 (YA ho)
 have h40:=QV ho
 have ty:=Zdz ts nl l hL
 have e1:(wty l && ZY s.size true l)=true:=ho
 rw [e1] at ty
 have hc:∀ c∈l,FnB Tryz.prog (.fn XR []) (N c) (QW c):=fun c hc=>by
  have hr:0≤c∧c≤36:=by
   obtain ⟨t,h1,rfl,_,_⟩:=YO.1 ho
   exact RT.codes t h1 c hc
  have e2:eqB (QH c).1 3=QW c:=by
   have:=(JQ hr.1 hr.2).2.2.2.1
   rw [Bool.eq_iff_iff,Qc];exact this
  refine ⟨XR,[N c],by simp [ZD],by simp,?_⟩
  rw [← e2]
  exact Zno c (by unfold I64;omega)
 have co:=Znp (.fn XR []) QW (by simp) (by simp) nl l (by omega) hc
 refine Qe.of_codeOf ZhT Qz (by simp) ⟨_,rfl,by simp⟩ ?_
 simp (disch:=omega) [Zcv,Qu,Qo]
 refine Qa ty (by simp) ?_
 simp (disch:=omega)
 refine Qa co (by simp) ?_
 simp (disch:=omega) [Zaz]
theorem Zrr (nl:Bool) (l:List Int) (hl:l.length≤1000000):Qe Tryz.prog ZaX [L nl l] (·=B (Zaz l)):=by
 refine Qe.of_codeOf Zkp Qz (by simp) ⟨_,rfl,by simp⟩ ?_
 simp (disch:=omega) [Zd0]
 refine Xf l.length 0 (fun i t h=>h=[]∧t 3=N i∧Zaz l=Zaz (l.drop i)) (fun t h=>h=[]∧Zaz l=true) (by simp) (by omega) ?_ ?_
 ·rintro i t1 hh hf hi ⟨rfl,e3,hj⟩
  (have e0:=hf 0 (by kernel_rfl);clear hf;simp [] at e0)
  by_cases h6:i < l.length
  ·have hb:ltB (i:Int) l.length=true:=by rw [Qf];omega
   have ix:=Xq l false nl i (by omega) (by omega)
   have eg:l.getD ((i:Int)).toNat 0=l[i]:=by simp [List.getD_eq_getElem?_getD,h6]
   rw [eg] at ix
   have hd:l.drop i=l[i]::l.drop (i+1):=List.drop_eq_getElem_cons h6
   rw [hd] at hj
   generalize l[i]=c at *
   simp (disch:=omega) [e0,e3,hb,ix]
   refine Qa (Zi9 c) (by simp) ?_
   cases ha:QW c
   ·simp (disch:=omega) [e3,Qg]
    rw [hj]
    simp [Zaz,ha]
    omega
   ·simp (disch:=omega)
    rw [hj]
    simp [Zaz,ha]
  ·have hb:ltB (i:Int) l.length=false:=by rw [Qd];omega
   simp (disch:=omega) [e0,e3,hb]
   rw [hj,List.drop_of_length_le (by omega)]
   rfl
 ·rintro t1 hh hf ⟨rfl,hj⟩
  simp (disch:=omega) [hj]
abbrev CS (u nl:Bool) (l:List (Int×Int)):LV:=.sl u nl 2 (l.map fun c=>[N c.1,N c.2])
theorem Zrb (a b c d:Int):Qe Tryz.prog ZaO [.agg [N a,N b],.agg [N c,N d]] (·=B (eqB a c && eqB b d)):=by
 refine Qe.of_codeOf Zkk Qz (by simp) ⟨_,rfl,by simp⟩ ?_
 simp (disch:=omega) [Zel,Qu,Qo]
 cases h1:eqB a c<;>cases h2:eqB b d<;>simp (disch:=omega) [h1,h2]
theorem Zpl (l:List (Int×Int)) (u nl:Bool) (i:Nat) (h:i < l.length):QS 2 (CS u nl l) (i:Int)=some (.rp [N (l[i]).1,N (l[i]).2]):=by
 simp only [QS]
 rw [if_pos ⟨trivial,by omega,by simpa using h⟩]
 have:(l.map fun c=>[N c.1,N c.2]).getD (i:Int).toNat []=[N (l[i]).1,N (l[i]).2]:=by
  simp [List.getD_eq_getElem?_getD,h]
 rw [this]
 simp
theorem Zid (n1 n2:Bool) (l:List (Int×Int)) (hl:l.length≤1000000):Qe Tryz.prog ZG [CS false n1 l,CS false n2 l] (·=B true):=by
 refine Qe.of_codeOf ZjC Qz (by simp) ⟨_,rfl,by simp⟩ ?_
 have hq:eqB (l.length:Int) l.length=true:=by rw [Qc]
 simp (disch:=omega) [Zdp,hq]
 refine Xf l.length 0 (fun i t h=>h=[]∧t 5=N i) (fun t h=>h=[]) (by simp) (by omega) ?_ ?_
 ·rintro i t1 hh hf hi ⟨rfl,e5⟩
  (have e0:=hf 0 (by kernel_rfl);have e1:=hf 1 (by kernel_rfl);clear hf;simp [] at e0 e1)
  by_cases h6:i < l.length
  ·have hb:ltB (i:Int) l.length=true:=by rw [Qf];omega
   have i1:=Zpl l false n1 i h6
   have i2:=Zpl l false n2 i h6
   have ec:=Zrb (l[i]).1 (l[i]).2 (l[i]).1 (l[i]).2
   have q1:(eqB (l[i]).1 (l[i]).1 && eqB (l[i]).2 (l[i]).2)=true:=by rw [Bool.and_eq_true,Qc,Qc];exact ⟨rfl,rfl⟩
   rw [q1] at ec
   generalize l[i]=c at *
   simp (disch:=omega) [e0,e1,e5,hb,i1,i2]
   refine Qa ec (by simp) ?_
   simp (disch:=omega) [e5,Qg]
   omega
  ·have hb:ltB (i:Int) l.length=false:=by rw [Qd];omega
   simp (disch:=omega) [e0,e1,e5,hb]
 ·rintro t1 hh hf rfl
  simp (disch:=omega)
theorem Zqq:∀ x:LV,share x≠.dead→x.alive=true
 | .sc _,_=>rfl
 | .sl ..,_=>rfl
 | .ha ..,_=>rfl
 | .raw _,h=>by simp [share] at h
 | .ptr ..,_=>rfl
 | .rp _,_=>rfl
 | .fn ..,_=>rfl
 | .fnm ..,_=>rfl
 | .agg _,_=>rfl
 | .tup _,_=>rfl
 | .dead,h=>by simp [share] at h
 | .both u t,h=>by
  simp only [share] at h
  have:=Zqq t h
  simp only [LV.alive,this,Bool.true_and]
  cases t<;>simp_all [share]
theorem ZdZ:∀ xs:List LV,(∀ y∈shareAll xs,y≠.dead)→WD xs=true
 | [],_=>rfl
 | x::xs,h=>by
  simp only [shareAll,List.mem_cons,forall_eq_or_imp] at h
  simp only [WD,Zqq x h.1,ZdZ xs h.2,Bool.and_self]
theorem ZbG {cs:List LV} {w:GTerm} (h:shareAll cs=w.cells):WD cs=true:=by
 refine ZdZ cs fun y hy=>?_
 rw [h] at hy
 obtain ⟨op,n,nl1,ty,nl2,ks⟩:=w
 simp only [GTerm.cells,List.mem_cons,List.not_mem_nil,or_false] at hy
 rcases hy with rfl | rfl | rfl | rfl<;>simp
def SlR (x:LV) (rs:List (List LV)):Prop:=∃ u nl,x=.sl u nl 2 rs∧(u=true∨nl=true)∧(rs=[]∨(u=true∧nl=false))
def Zgu (s:GSys) (g:GTerm):Option (Nat×List PC×GTerm):=match ZQ s [] g with
 | none=>none
 | some x=>if Zaz x.ty=true then (match Xk s 3001 0 [] g [] 1 with
  | .ok l σ v=>some (l,σ,v)
  | _=>none) else none
def ZoH (o:Option (Nat×List PC×GTerm)) (r:LV):Prop:=match o with
 | none=>∃ u u1 u2,r=.tup [.agg [N 0,N 0,.sl u1 true 1 [],.sl u2 true 1 []],.sl u true 2 [],N 0,B false]
 | some (l,σ,v)=>∃ z u nl,r=.tup [z,CS u nl (σ.map fun c=>(c.b,c.k)),N l,B true]∧isTF v z
theorem Zjv (u nl:Bool) (l:List (Int×Int)) (h:l=[]∨(u=true∧nl=false)):QB (CS u nl l):=by
 simp only [QB]
 refine ⟨?_,?_⟩
 ·rcases h with rfl | ⟨rfl,rfl⟩
  ·exact .inl rfl
  ·exact .inr ⟨rfl,rfl,fun r hr=>by obtain ⟨c,_,rfl⟩:=List.mem_map.1 hr;rfl⟩
 ·clear h
  induction l with
  | nil=>simp only [List.map_nil,QL]
  | cons c l ih=>simp only [List.map_cons,QL,QP,QB,and_self,true_and];exact ih
theorem Zfd {s:GSys} {g:GTerm} {x:TT} (a:Arg s [] g) (hx:ZQ s [] g=some x) (hd:Zaz x.ty=true):s.sys=true∧s.G 1∧Xk s 3001 0 [] g [] 1≠.stuck:=by
 obtain ⟨gx,hs,hc1,ht1,_,tx⟩:=Zam a hx
 have ts:=GSys.sys_of hs
 have g1:s.G 1:=⟨by omega,by have:=ts.lo;omega⟩
 refine ⟨hs,g1,?_⟩
 have ht1':=ht1
 unfold GTerm.termB at ht1'
 simp only [Bool.and_eq_true,decide_eq_true_eq] at ht1'
 have w:WT s [] []:=⟨rfl,by simp,fun j c h=>by simp at h⟩
 have ht:HT s [] g [] x.ty:=⟨by simp,⟨by simpa using ht1'.2.2,⟨x,by simpa using tx,rfl⟩,a.gw,a.gf⟩⟩
 rcases Zl3 hs 3001 0 [] g [] 1 [] x.ty w ht g1 (Zlr.1 hd) with h | ⟨l,σ,v,Δ,h,_⟩
 ·rw [h];simp
 ·rw [h];simp
theorem Zk2 {s:GSys} {g:GTerm} (sw:s.wf) (gw:g.wf) (gf:g.fl):Qe Tryz.prog YC [s.lv,g.lv] (fun r=>ZoH (Zgu s g) r∧QB r):=by
 have a:Arg s [] g:=⟨sw,⟨by simp,by simp⟩,gw,by simp,gf⟩
 refine Qe.of_codeOf Ze7 Qz (by simp) ?_ ?_
 ·cases h:Zgu s g with
  | none=>exact ⟨.tup [.agg [N 0,N 0,.sl true true 1 [],.sl true true 1 []],.sl true true 2 [],N 0,B false],⟨⟨_,_,_,rfl⟩,by simp [QB,QP,QL]⟩,by simp⟩
  | some p =>
   obtain ⟨l,σ,v⟩:=p
   exact ⟨.tup [.agg v.ownC,CS true false (σ.map fun c=>(c.b,c.k)),N l,B true],⟨⟨_,true,false,rfl,v.nm,_,rfl,VV v,nm_nm v,nm_fl v⟩,by
    have h1:=Zb8 v
    have h2:=Zjv true false (σ.map fun c=>(c.b,c.k)) (.inr ⟨rfl,rfl⟩)
    simp only [QB,QP] at h1 h2 ⊢
    exact ⟨h1,h2,trivial,trivial,trivial⟩⟩,by simp⟩
 have to:=ZrC a true
 simp (disch:=omega) [Zaw,Qu,Qo]
 refine Qp (Qe.low to) (by simp) ?_
 rintro r ⟨hr,lo⟩
 unfold Zgu
 cases hx:ZQ s [] g with
 | none =>
  rw [hx] at hr
  subst hr
  simp (disch:=omega) [Qo]
  exact ⟨⟨_,_,_,rfl⟩,by simp [QB,QP,QL]⟩
 | some x =>
  rw [hx] at hr
  subst hr
  obtain ⟨gx,hs,hc1,ht1,_,tx⟩:=Zam a hx
  have da:=Zov hs sw false x.ty gx.1
  simp (disch:=omega) [Qo]
  refine Qa da (by simp) ?_
  cases hd:Zaz x.ty
  ·simp (disch:=omega) [Qo]
   exact ⟨⟨_,_,_,rfl⟩,by simp [QB,QP,QL]⟩
  ·obtain ⟨_,g1,hns⟩:=Zfd a hx hd
   have m0:MS s 3 0 [none,none,some [N 0,N 0,.sl true true 1 [],.sl true true 1 []],some (s.cells++[PL true true [],N (0:Nat),B false])] 0 [] [] :=
    ⟨⟨true,fun _=>rfl,rfl⟩,rfl,Nat.le_refl _,fun j c h=>by simp at h,by simp,by simp,by simp,by simp⟩
   have T:=tell_ok hs sw 3001 0 [] g [] 1 true _ [] 3 0 (by omega) (by omega) m0 ⟨by simp,by simp⟩ ⟨by simp,by simp⟩ (by simp) g1 hns
   simp only [GSys.cells,List.cons_append,List.nil_append] at T
   simp (disch:=omega) [Qo,Qu,GSys.cells]
   refine Qk T ?_
   rintro r H1 hr
   cases ht:Xk s 3001 0 [] g [] 1 with
   | stuck=>exact absurd ht hns
   | fail =>
    rw [ht] at hr
    obtain ⟨hf,fr,p,q,y,z,rfl⟩:=hr
    obtain ⟨m1,m2,m3,m4,m5,m6,hbF⟩:=hf
    have l4:4≤H1.length:=by simpa using fr.len
    have g3:∀ k:List Box,(H1++k)[3]?=some (some [m1,m2,m3,m4,m5,N m6,B true]):=fun k=>by rw [Q5 (by omega)];exact hbF
    have g2:∀ k:List Box,(H1++k)[2]?=some (some [N 0,N 0,.sl true true 1 [],.sl true true 1 []]):=fun k=>by rw [Q5 (by omega),fr.same 2 (by simp) (by omega) (by simp)];rfl
    have g2s:∀ (k:List Box) (x:Box),((H1++k).set 2 x)[2]?=some x:=fun k x=>List.getElem?_set_self (by simp;omega)
    clear l4
    simp (disch:=omega) [QN,g3,g2,g2s,Qo]
    exact ⟨⟨_,_,_,rfl⟩,by simp [QB,QP,QL]⟩
   | ok l σ v =>
    rw [ht] at hr
    obtain ⟨new,h1,ms,fr,tv,lo2,hw2⟩:=hr
    rw [List.nil_append] at ms
    obtain ⟨w,cs,rfl,csh,cn,cf⟩:=tv
    have c4:cs.length=4:=by rw [← Wd,csh];simp
    have cal:=ZbG csh
    obtain ⟨nm,hnm,hb⟩:=ms.box
    rw [List.drop_zero] at hb hnm
    simp only [GSys.cells,List.cons_append,List.nil_append] at hb
    have l4:4≤H1.length:=by simpa using fr.len
    have g3:∀ k:List Box,(H1++k)[3]?=some (some [N s.size,L s.n1 s.plus,L s.n2 s.times,LB s.n3 s.below,PL true nm new,N l,B false]):=fun k=>by rw [Q5 (by omega)];exact hb
    have g2:∀ k:List Box,(H1++k)[2]?=some (some [N 0,N 0,.sl true true 1 [],.sl true true 1 []]):=fun k=>by rw [Q5 (by omega),fr.same 2 (by simp) (by omega) (by simp)];rfl
    have g2s:∀ (k:List Box) (x:Box),((H1++k).set 2 x)[2]?=some x:=fun k x=>List.getElem?_set_self (by simp;omega)
    clear l4
    have hnl:new.length=σ.length:=ms.len
    have tl:=(VA (GSys.sys_of hs) _ _ _ _ _ _ _ _ _ ht ⟨by simp,by simp⟩ ⟨by simp,by simp⟩).1
    have hσ:σ.length≤6000:=by have:=tl.many;have:=tl.top;simp at *;omega
    have hmm:WV=1099511627776:=rfl
    simp (disch:=omega) [QN,g3,g2,g2s,Qo,c4,cal,csh,List.take_of_length_le,List.drop_of_length_le]
    refine Xf σ.length 0 (fun i t h'=>h'=H1++[some cs]∧t 48=N i∧SlR (t 13) ((σ.take i).map fun c=>[N c.b,N c.k])) (fun t h'=>h'=H1++[some cs]∧SlR (t 13) (σ.map fun c=>[N c.b,N c.k])) ⟨?_,?_,?_⟩ (Nat.zero_le _) ?_ ?_
    ·simp
    ·simp
    ·exact ⟨false,true,by simp,.inr rfl,.inl rfl⟩
    ·rintro i t1 h1' hf hi ⟨rfl,e48,e13⟩
     have f11:=hf 11 (by kernel_rfl);have f46:=hf 46 (by kernel_rfl);have f47:=hf 47 (by kernel_rfl)
     clear hf
     simp at f11 f46 f47
     by_cases h6:i < σ.length
     ·obtain ⟨un,nl,e13,hu,_⟩:=e13
      have hb6:ltB (i:Int) new.length=true:=by rw [Qf];omega
      have ix:QS 1 (PL false nm new) (i:Int)=some (.rp [.ptr (new.getD i 0) 0]):=by
       rw [Zdn (fun p:Nat=>LV.ptr p 0) (by simp) new false nm i (by omega) (by omega)]
       simp [List.getD_eq_getElem?_getD,show i < new.length by omega]
      have hci:=List.getElem?_eq_getElem h6
      obtain ⟨nlc,hcell⟩:=ms.cell i _ hci
      have hin:new.getD i 0 < H1.length:=ms.lt _ (JO (by omega))
      have gc:∀ k:List Box,(H1++k)[new.getD i 0]?=some (some (K8 new σ[i] nlc)):=fun k=>by rw [Q5 hin];exact hcell
      have et:σ.take (i+1)=σ.take i++[σ[i]]:=List.take_succ_eq_append_getElem h6
      have lt:(σ.take i).length=i:=by simp;omega
      rw [et]
      clear hin
      generalize σ[i]=c at *
      generalize new.getD i 0=pp at *
      obtain ⟨cb,ck,⟨cop,ccn,cnl1,cty,cnl2,cks⟩,ce⟩:=c
      simp only [K8,GTerm.cells,List.cons_append,List.nil_append] at gc
      have ap:∀ u:Bool,WC 2 (.sl un nl 2 ((σ.take i).map fun c=>[N c.b,N c.k])) (.sl u false 2 [[N cb,N ck]])=some (.sl true false 2 (((σ.take i).map fun c=>[N c.b,N c.k])++[[N cb,N ck]])):=fun u=>by
       simp only [WC]
       rw [if_pos ⟨by rcases hu with h | h<;>simp [h],.inl trivial,.inl trivial,by simp;omega⟩]
       simp
      generalize σ.take i=σi at *
      have hi6:∀ _:Unit,i < σ.length:=fun _=>h6
      clear h6
      simp (disch:=omega) [e48,e13,f46,f47,hb6,ix,gc,Ql,ap,Qg]
      exact ⟨hi6 (),true,false,rfl,.inl rfl,.inr ⟨rfl,rfl⟩⟩
     ·have hb6:ltB (i:Int) new.length=false:=by rw [Qd];omega
      simp (disch:=omega) [e48,f47,hb6]
      rw [List.take_of_length_le (by omega)] at e13
      exact e13
    ·rintro t1 h1' hf ⟨rfl,un,nl,e13,hu,hu2⟩
     have f4:=hf 4 (by kernel_rfl);have f11:=hf 11 (by kernel_rfl);have f12:=hf 12 (by kernel_rfl)
     clear hf
     simp at f4 f11 f12
     have cf':cs.take 4=cs:=List.take_of_length_le (by omega)
     have cd:([N 0,N 0,.sl true true 1 [],.sl true true 1 []]:List LV).drop cs.length=[]:=by rw [c4];rfl
     have wl:w.cells.length=4:=by rw [← csh,Wd,c4]
     have wd:([N 0,N 0,.sl true true 1 [],.sl true true 1 []]:List LV).drop w.cells.length=[]:=by rw [wl];rfl
     have wsh:shareAll w.cells=w.cells:=by
      obtain ⟨op,n,nl1,ty,nl2,ks⟩:=w
      simp
     simp (disch:=omega) [f4,f11,f12,e13,g2,g3,g2s,QN,c4,cal,cf',csh,cd,wl,wd,wsh]
     refine ⟨by simpa using lo2,⟨_,un,nl,by simp [CS],w,cs,rfl,csh,cn,cf⟩,?_⟩
     have h2:=Zjv un nl (σ.map fun c=>(c.b,c.k)) (by simpa using hu2)
     simp only [QB,QP,List.map_map,Function.comp_def] at h2 hw2 ⊢
     exact ⟨hw2,h2,trivial,trivial,trivial⟩
theorem RS.all {s:GSys} {M:Nat} {hbs:List Nat} {h:List Box} {l:Nat} {σ:List PC} (m:RS s M hbs h l σ):∃ ch,h[M]?=some (some (s.cells++[ch,N l]))∧Vx (TL.share ch)=some σ.length∧ch.flat=true∧ch.alive=true∧ch.cells=[ch]:=by
 rcases m.main with ⟨z,rfl,rfl,h3⟩ | ⟨b,cap,sl,xs,rfl,h2,h3,h4,h5,h6,h7,h8⟩
 ·exact ⟨_,h3,by simp [Vx],rfl,rfl,rfl⟩
 ·exact ⟨_,h5,by simp [Vx,TL.share],rfl,rfl,rfl⟩
theorem isRun_ex {s:GSys} {g:GTerm} (a:Arg s [] g):∃ r,ZoH (Zgu s g) r∧Low 0 r:=by
 cases h:Zgu s g with
 | none=>exact ⟨.tup [.agg [N 0,N 0,.sl true true 1 [],.sl true true 1 []],.sl true true 2 [],N 0,B false],⟨_,_,_,rfl⟩,by simp⟩
 | some p =>
  obtain ⟨l,σ,v⟩:=p
  have hv:v.fl:=by
   unfold Zgu at h
   split at h
   ·simp at h
   ·rename_i x hx
    split at h
    ·rename_i hd
     obtain ⟨hs,_,_⟩:=Zfd a hx hd
     split at h
     ·rename_i l' σ' v' ht
      simp only [Option.some.injEq,Prod.mk.injEq] at h
      obtain ⟨rfl,rfl,rfl⟩:=h
      exact (VA (GSys.sys_of hs) _ _ _ _ _ _ _ _ _ ht ⟨by simp,by simp⟩ ⟨by simp,by simp⟩).2
     ·simp at h
    ·simp at h
  exact ⟨.tup [.agg v.cells,CS true false (σ.map fun c=>(c.b,c.k)),N l,B true],⟨_,true,false,rfl,v,_,rfl,by simp,rfl,hv⟩,by simp⟩
theorem Zfn {s:GSys} {g:GTerm} (sw:s.wf) (gw:g.wf) (gf:g.fl):Qe Tryz.prog Zy [s.lv,g.lv] (ZoH (Zgu s g)):=by
 have a:Arg s [] g:=⟨sw,⟨by simp,by simp⟩,gw,by simp,gf⟩
 refine Qe.of_codeOf ZfY Qz (by simp) (isRun_ex a) ?_
 have to:=ZkY a true
 simp (disch:=omega) [ZaD,Qu,Qo]
 refine Qp (Qe.low to) (by simp) ?_
 rintro r ⟨hr,lo⟩
 unfold Zgu
 cases hx:ZQ s [] g with
 | none =>
  rw [hx] at hr
  obtain ⟨u1,u2,rfl⟩:=hr
  simp (disch:=omega) [Qo]
  exact ⟨_,_,_,rfl⟩
 | some x =>
  rw [hx] at hr
  obtain ⟨u1,u2,rfl⟩:=hr
  obtain ⟨gx,hs,hc1,ht1,_,tx⟩:=Zam a hx
  have h40:=QV gx.1
  have da:=Zrr false x.ty (by omega)
  simp (disch:=omega) [Qo]
  refine Qa da (by simp) ?_
  cases hd:Zaz x.ty
  ·simp (disch:=omega) [Qo]
   exact ⟨_,_,_,rfl⟩
  ·obtain ⟨_,g1,hns⟩:=Zfd a hx hd
   have m0:RS s 3 [] [none,none,some [N 0,N 0,.sl true true 1 [],.sl true true 1 []],some (s.cells++[.sl true true 1 [],N (0:Nat)])] 0 [] :=
    ⟨by simp,.inl ⟨1,rfl,rfl,rfl⟩⟩
   have T:=tell3_ok hs sw 3001 0 [] g [] 1 true _ [] 3 (by omega) (by omega) m0 ⟨by simp,by simp⟩ ⟨by simp,by simp⟩ (by simp) g1 hns
   simp only [GSys.cells,List.cons_append,List.nil_append] at T
   simp (disch:=omega) [Qo,Qu,GSys.cells]
   refine Qk T ?_
   rintro r H1 hr
   cases ht:Xk s 3001 0 [] g [] 1 with
   | stuck=>exact absurd ht hns
   | fail =>
    rw [ht] at hr
    obtain ⟨fr,p,q,y,z,rfl⟩:=hr
    have l4:4≤H1.length:=by simpa using fr.len
    have g2:∀ k:List Box,(H1++k)[2]?=some (some [N 0,N 0,.sl true true 1 [],.sl true true 1 []]):=fun k=>by rw [Q5 (by omega),fr.same 2 (by simp) (by omega) (by simp)];rfl
    have g2s:∀ (k:List Box) (x:Box),((H1++k).set 2 x)[2]?=some x:=fun k x=>List.getElem?_set_self (by simp;omega)
    clear l4
    simp (disch:=omega) [QN,g2,g2s,Qo]
    exact ⟨_,_,_,rfl⟩
   | ok l σ v =>
    rw [ht] at hr
    obtain ⟨hbs,h1,ms,fr,z,rfl,tv,lo2⟩:=hr
    obtain ⟨w,cs,rfl,csh,cn,cf⟩:=tv
    have c4:cs.length=4:=by rw [← Wd,csh];simp
    have cal:=ZbG csh
    have l4:4≤H1.length:=by simpa using fr.len
    have g2:∀ k:List Box,(H1++k)[2]?=some (some [N 0,N 0,.sl true true 1 [],.sl true true 1 []]):=fun k=>by rw [Q5 (by omega),fr.same 2 (by simp) (by omega) (by simp)];rfl
    have g2s:∀ (k:List Box) (x:Box),((H1++k).set 2 x)[2]?=some x:=fun k x=>List.getElem?_set_self (by simp;omega)
    have tl:=(VA (GSys.sys_of hs) _ _ _ _ _ _ _ _ _ ht ⟨by simp,by simp⟩ ⟨by simp,by simp⟩).1
    have hσ:σ.length≤6000:=by have:=tl.many;have:=tl.top;simp at *;omega
    have hmm:WV=1099511627776:=rfl
    obtain ⟨ch,hb3,hcl,hcf,hca,hcs⟩:=ms.all
    have g3:∀ k:List Box,(H1++k)[3]?=some (some [N s.size,L s.n1 s.plus,L s.n2 s.times,LB s.n3 s.below,ch,N l]):=fun k=>by rw [Q5 (by omega),hb3];rfl
    clear l4
    simp (disch:=omega) [QN,g3,g2,g2s,Qo,c4,cal,csh,hcl,hcf,hca,hcs,List.take_of_length_le,List.drop_of_length_le]
    refine Xf σ.length 0 (fun i t h'=>h'=H1++[none]∧t 14=N i∧SlR (t 13) ((σ.take i).map fun c=>[N c.b,N c.k])) (fun t h'=>h'=H1++[none]∧SlR (t 13) (σ.map fun c=>[N c.b,N c.k])) ⟨?_,?_,?_⟩ (Nat.zero_le _) ?_ ?_
    ·simp
    ·simp
    ·exact ⟨true,false,by simp [Ql],.inl rfl,.inl rfl⟩
    ·rintro i t1 h1' hf hi ⟨rfl,e14,e13⟩
     have f11:=hf 11 (by kernel_rfl)
     clear hf
     simp at f11
     by_cases h6:i < σ.length
     ·obtain ⟨un,nl,e13,hu,_⟩:=e13
      have hb6:ltB (i:Int) σ.length=true:=by rw [Qf];omega
      have hci:=List.getElem?_eq_getElem h6
      obtain ⟨b,cap,nlc,xa,xz,hbs1,hbM,hbl,hM,hB,hlen,hK⟩:=ms.cellAt hci
      have ih7:QS 7 (.ha b 7 0 σ.length cap) (i:Int)=some (.ptr b (i * 7)):=by rw [Jb h6,Nat.zero_add]
      have gc:∀ k:List Box,(H1++k)[b]?=some (some (xa++(ZaS σ[i] nlc++xz))):=fun k=>by rw [Q5 hbl];exact hB
      have gM:∀ k:List Box,(H1++k)[3]?=some (some [N s.size,L s.n1 s.plus,L s.n2 s.times,LB s.n3 s.below,.ha b 7 0 σ.length cap,N l]):=fun k=>by rw [Q5 ms.lM];exact hM
      have et:σ.take (i+1)=σ.take i++[σ[i]]:=List.take_succ_eq_append_getElem h6
      have lt:(σ.take i).length=i:=by simp;omega
      rw [et]
      clear hbl hK
      generalize σ[i]=c at *
      obtain ⟨cb,ck,⟨cop,ccn,cnl1,cty,cnl2,cks⟩,ce⟩:=c
      simp only [ZaS,GTerm.cells,List.cons_append,List.nil_append] at gc
      have g1:∀ (z:List LV) (k m:Nat),((xa++z).drop (i * 7+k)).take m=(z.drop k).take m:=fun z k m=>get_at hlen k m
      have ap:∀ u:Bool,WC 2 (.sl un nl 2 ((σ.take i).map fun c=>[N c.b,N c.k])) (.sl u false 2 [[N cb,N ck]])=some (.sl true false 2 (((σ.take i).map fun c=>[N c.b,N c.k])++[[N cb,N ck]])):=fun u=>by
       simp only [WC]
       rw [if_pos ⟨by rcases hu with h | h<;>simp [h],.inl trivial,.inl trivial,by simp;omega⟩]
       simp
      generalize σ.take i=σi at *
      have hi6:∀ _:Unit,i < σ.length:=fun _=>h6
      clear h6
      simp (disch:=omega) [e14,e13,f11,gM,hb6,ih7,gc,g1,Ql,ap,Qg,Vx]
      exact ⟨by omega,by omega,hi6 (),true,false,rfl,.inl rfl,.inr ⟨rfl,rfl⟩⟩
     ·have hb6:ltB (i:Int) σ.length=false:=by rw [Qd];omega
      simp (disch:=omega) [e14,f11,g3,hcl,hb6]
      rw [List.take_of_length_le (by omega)] at e13
      exact ⟨hca,e13⟩
    ·rintro t1 h1' hf ⟨rfl,un,nl,e13,hu,hu2⟩
     have f4:=hf 4 (by kernel_rfl);have f11:=hf 11 (by kernel_rfl);have f12:=hf 12 (by kernel_rfl)
     clear hf
     simp at f4 f11 f12
     have wl:w.cells.length=4:=by rw [← csh,Wd,c4]
     have wsh:shareAll w.cells=w.cells:=by
      obtain ⟨op,n,nl1,ty,nl2,ks⟩:=w
      simp
     simp (disch:=omega) [f4,f11,f12,e13,g2,g3,g2s,QN,c4,cal,csh,wl,wsh,List.take_of_length_le,List.drop_of_length_le]
     exact ⟨_,un,nl,by simp [CS],w,w.cells,rfl,wsh,cn,cf⟩
def noT:GTerm:=.mk 0 0 true [] true []
theorem nm_size {a b:GTerm} (h:a.nm=b.nm):a.size=b.size:=by rw [← Zmc a,h,Zmc]
theorem ZgS {sz:Nat}:∀ {a b:List (List LV)} {n:Nat} {cells:List LV} {bs:List Box},Xi (a++b) sz n cells bs ↔ ∃ c1 b1 c2 b2,cells=c1++c2∧bs=b1++b2∧Xi a sz n c1 b1∧Xi b sz (n+b1.length) c2 b2
 | [],b,n,cells,bs=>by
  simp only [List.nil_append,Xi]
  constructor
  ·intro h;exact ⟨[],[],cells,bs,by simp,by simp,⟨rfl,rfl⟩,by simpa using h⟩
  ·rintro ⟨c1,b1,c2,b2,rfl,rfl,⟨rfl,rfl⟩,h⟩;simpa using h
 | row::a,b,n,cells,bs=>by
  simp only [List.cons_append,Xi]
  constructor
  ·rintro ⟨c1,b1,c2,b2,h1,h2,h3,rfl,rfl⟩
   obtain ⟨c3,b3,c4,b4,rfl,rfl,h4,h5⟩:=ZgS.1 h3
   exact ⟨c1++c3,b1++b3,c4,b4,by simp,by simp,⟨c1,b1,c3,b3,h1,h2,h4,rfl,rfl⟩,by simpa [Nat.add_assoc] using h5⟩
  ·rintro ⟨c1,b1,c2,b2,rfl,rfl,⟨c3,b3,c4,b4,h1,h2,h3,rfl,rfl⟩,h5⟩
   exact ⟨c3,b3,c4++c2,b4++b2,h1,h2,ZgS.2 ⟨c4,b4,c2,b2,rfl,rfl,h3,by simpa [Nat.add_assoc] using h5⟩,by simp,by simp⟩
theorem ZgD:∀ {xs:List LV} {n:Nat} {ys:List LV} {bs:List Box},WI xs n ys bs→ys.length=xs.length
 | [],n,ys,bs,h=>by simp only [WI] at h;simp [h.1]
 | x::xs,n,ys,bs,h=>by
  simp only [WI] at h
  obtain ⟨y,b1,ys',b2,_,h2,rfl,_⟩:=h
  simp [ZgD h2]
theorem ZlL {sz:Nat}:∀ {Qj:List (List LV)} {n:Nat} {cells:List LV} {bs:List Box},Xi Qj sz n cells bs→cells.length=Qj.length * sz
 | [],n,cells,bs,h=>by simp only [Xi] at h;simp [h.1]
 | row::Qj,n,cells,bs,h=>by
  simp only [Xi] at h
  obtain ⟨c1,b1,c2,b2,h1,h2,h3,rfl,rfl⟩:=h
  rw [List.length_append,ZgD h2,ZlL h3,h1,List.length_cons,Nat.succ_mul];omega
mutual
def GTerm.ownF:GTerm→List LV
 | .mk op n nl1 ty nl2 ks=>[N op,N n,OU (!nl1) nl1 ty,.sl (!nl2) nl2 4 (Xu ks)]
def Xu:List GTerm→List (List LV)
 | []=>[]
 | k::ks=>k.ownF::Xu ks
end
theorem Zl:∀ ks:List GTerm,Xu ks=ks.map GTerm.ownF
 | []=>by simp [Xu]
 | k::ks=>by simp [Xu,Zl ks]
@[simp] theorem JX (ks:List GTerm):(Xu ks).length=ks.length:=by simp [Zl]
@[simp] theorem ownF_length (t:GTerm):t.ownF.length=4:=by cases t;simp [GTerm.ownF]
mutual
theorem ZbE:∀ t:GTerm,shareAll t.ownF=t.cells
 | .mk op n nl1 ty nl2 ks=>by
  simp only [GTerm.ownF,GTerm.cells,shareAll,share,Zg7 ks]
  congr 3
  simp
theorem Zg7:∀ ks:List GTerm,Qv (Xu ks)=Wp ks
 | []=>by simp [Xu,Wp,Qv]
 | k::ks=>by simp only [Xu,Wp,Qv,ZbE k,Zg7 ks]
end
mutual
theorem ZoD:∀ t:GTerm,t.own=t.norm.ownF
 | .mk op n nl1 ty nl2 ks=>by simp [GTerm.own,GTerm.norm,GTerm.ownF,Zir ks]
theorem Zir:∀ ks:List GTerm,ZbK ks=Xu (Jq ks)
 | []=>by simp [ZbK,Jq,Xu]
 | k::ks=>by simp [ZbK,Jq,Xu,ZoD k,Zir ks]
end
mutual
def GTerm.cnt:GTerm→Nat
 | .mk _ _ _ ty _ ks=>2+ty.length+YK ks
def YK:List GTerm→Nat
 | []=>0
 | k::ks=>k.cnt+YK ks
end
mutual
def mkT (k:Int):GTerm→GTerm
 | .mk _ _ nl1 ty nl2 ks=>.mk k (k+1) nl1 (Wu mI (k+2) ty.length) nl2 (Kc (k+2+ty.length) ks)
def Kc (k:Int):List GTerm→List GTerm
 | []=>[]
 | t::ks=>mkT k t::Kc (k+t.cnt) ks
end
theorem Zie:∀ a b:List GTerm,YK (a++b)=YK a+YK b
 | [],b=>by simp [YK]
 | k::a,b=>by simp [YK,Zie a b];omega
theorem ZlS:∀ (a:List GTerm) (b:GTerm) (k:Int),Kc k (a++[b])=Kc k a++[mkT (k+YK a) b]
 | [],b,k=>by simp [Kc,YK]
 | t::a,b,k=>by
  simp only [List.cons_append,Kc,ZlS a b,YK]
  congr 4
  push_cast;omega
@[simp] theorem K7:∀ (a:List GTerm) (k:Int),(Kc k a).length=a.length
 | [],k=>by simp [Kc]
 | t::a,k=>by simp [Kc,K7 a]
theorem ZnH:∀ (a:List GTerm) (k:Int) (i:Nat) (h:i < a.length),(Kc k a)[i]'(by simpa using h)=mkT (k+YK (a.take i)) a[i]
 | [],k,i,h=>by simp at h
 | t::a,k,0,h=>by simp [Kc,YK]
 | t::a,k,i+1,h=>by
  simp only [Kc,List.getElem_cons_succ,List.take_succ_cons,YK]
  rw [ZnH a _ i (by simpa using h)]
  congr 1
  push_cast;omega
theorem ZgO {ks:List GTerm} {i:Nat} (h:i < ks.length):YK (ks.take (i+1))=YK (ks.take i)+(ks[i]).cnt:=by
 rw [List.take_succ_eq_append_getElem h,Zie];simp [YK]
theorem cnts_le (ks:List GTerm) (i:Nat):YK (ks.take i)≤YK ks:=by
 have:=Zie (ks.take i) (ks.drop i)
 rw [List.take_append_drop] at this;omega
theorem Zqu {ks:List GTerm} {i:Nat} (h:i < ks.length):YK (ks.take i)+(ks[i]).cnt≤YK ks:=by
 rw [← ZgO h];exact cnts_le _ _
theorem thT {op n:Int} {T K:LV} {m:Nat} {cs:List LV} {bs:List Box}:WI [N op,N n,T,K] m cs bs ↔ ∃ yT bT yK bK,cs=[N op,N n,yT,yK]∧bs=bT++bK∧Th T m yT bT∧Th K (m+bT.length) yK bK:=by
 simp only [WI,Th]
 constructor
 ·rintro ⟨_,_,_,_,⟨rfl,rfl⟩,⟨_,_,_,_,⟨rfl,rfl⟩,⟨yT,bT,_,_,h1,⟨yK,bK,_,_,h2,⟨rfl,rfl⟩,rfl,rfl⟩,rfl,rfl⟩,rfl,rfl⟩,rfl,rfl⟩
  exact ⟨yT,bT,yK,bK,rfl,by simp,by simpa using h1,by simpa using h2⟩
 ·rintro ⟨yT,bT,yK,bK,rfl,rfl,h1,h2⟩
  exact ⟨_,[],_,_,⟨rfl,rfl⟩,⟨_,[],_,_,⟨rfl,rfl⟩,⟨yT,bT,_,_,by simpa using h1,⟨yK,bK,_,[],by simpa using h2,⟨rfl,rfl⟩,rfl,rfl⟩,rfl,rfl⟩,rfl,rfl⟩,rfl,by simp⟩
end Go.Proofs.YtbmepminmpjlcaaGreat