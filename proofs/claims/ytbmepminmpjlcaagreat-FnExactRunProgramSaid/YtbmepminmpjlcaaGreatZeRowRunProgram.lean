/- Part 5 of the proof of the row of the text YtbmepminmpjlcaaGreatZRowRunProgram: texts joined. No conditions. -/
import Derived.ProofKit
import Derived.RowKit
import Derived.ChangeArms
import Derived.Test.YtbmepminmpjlcaaGreatZdRowRunProgram
set_option linter.unusedSimpArgs false
set_option linter.unusedVariables false
set_option linter.unusedSectionVars false
namespace Go.Proofs.YtbmepminmpjlcaaGreat
open Go Go.TL
set_option linter.unusedSimpArgs false
set_option linter.unusedVariables false
set_option maxRecDepth 20000
set_option maxHeartbeats 4000000
def XG (sz:Nat) (left:Int):Int:=if (sz:Int)≤left then left - sz else -1
theorem VK {a b:Nat} {m:Int} (h:0≤m):XG (a+b) m=XG b (XG a m):=by
 unfold XG;repeat' split
 all_goals omega
theorem YX {a:Nat} {m:Int} (h:0≤m):-1≤XG a m∧XG a m≤m:=by
 unfold XG;split<;>omega
theorem ZdA {a:Nat} {m:Int} (h:m < 0):XG a m=-1:=by
 unfold XG;split<;>omega
theorem Zp1 {m:Int} (h:0≤m):XG 0 m=m:=by
 unfold XG;split<;>omega
def fill {α:Type} (e:α→List LV) (z:List LV) (l:List α) (i:Nat):List LV:=((l.take i).map e).flatten++(List.replicate (l.length - i) z).flatten
section
variable {α:Type} {e:α→List LV} {z:List LV} {l:List α} {sz:Nat} (he:∀ x,(e x).length=sz) (hz:z.length=sz)
include he
theorem ZiF (k:List α):((k.map e).flatten).length=k.length * sz:=by
 induction k with
 | nil=>simp
 | cons x k ih=>simp [ih,he,Nat.add_mul,Nat.add_comm]
include hz
theorem Zdc {i:Nat} (h:i≤l.length):(fill e z l i).length=l.length * sz:=by
 simp only [fill,List.length_append,ZiF he,List.length_take,Nat.min_eq_left h]
 rw [List.length_flatten]
 simp only [List.map_replicate,hz,List.sum_replicate_nat]
 rw [← Nat.add_mul];congr 1;omega
theorem ZbC {i:Nat} (h:i < l.length):splice (fill e z l i) (i * sz) (e l[i])=fill e z l (i+1):=by
 have h1:(((l.take i).map e).flatten).length=i * sz:=by rw [ZiF he];simp [Nat.min_eq_left (Nat.le_of_lt h)]
 have h2:l.length - i=(l.length - (i+1))+1:=by omega
 unfold splice
 rw [fill,h2,List.replicate_succ,List.flatten_cons,fill,List.take_append_of_le_length (by omega),List.take_of_length_le (by omega),List.take_succ_eq_append_getElem h,List.map_append,List.flatten_append]
 simp only [List.map_cons,List.map_nil,List.flatten_cons,List.flatten_nil,List.append_nil]
 congr 1
 rw [List.drop_append,List.drop_of_length_le (by omega),he,h1,List.nil_append,List.drop_append,List.drop_of_length_le (by omega)]
 simp [hz]
end
theorem Zfu {α:Type} {e:α→List LV} {z:List LV} {l:List α}:fill e z l l.length=(l.map e).flatten:=by simp [fill]
theorem ZbD {α:Type} {e:α→List LV} {z:List LV} {l:List α}:fill e z l 0=(List.replicate l.length z).flatten:=by simp [fill]
theorem ZgK (nl:Bool) (l:List Int) (hl:l.length≤9223372036854775807) (left:Int) (h0:0≤left) (h1:left≤1099511627776):Qe Tryz.prog Jl [L nl l,N left] (·=N (XG l.length left)):=by
 refine Qe.of_codeOf ZkR Qz (by simp) ⟨_,rfl,by simp⟩ ?_
 simp (disch:=omega) [Zd5,Qg]
 repeat' (first
  | (with_reducible (first | refine Qm (fun hb_=>?_) (fun hb_=>?_) | refine Qn (fun hb_=>?_) (fun hb_=>?_))<;>simp (disch:=omega) [hb_])
  | simp (disch:=omega))
 all_goals simp only [Qf,Qd,Qi,Qh,Qc,Qb,Bool.not_true,Bool.not_false,XG] at *
 all_goals (split<;>omega)
theorem ZpM (nl:Bool) (l:List Bool) (hl:l.length≤9223372036854775807) (left:Int) (h0:0≤left) (h1:left≤1099511627776):Qe Tryz.prog VW [LB nl l,N left] (·=N (XG l.length left)):=by
 refine Qe.of_codeOf Zia Qz (by simp) ⟨_,rfl,by simp⟩ ?_
 simp (disch:=omega) [Zdd,Qg]
 repeat' (first
  | (with_reducible (first | refine Qm (fun hb_=>?_) (fun hb_=>?_) | refine Qn (fun hb_=>?_) (fun hb_=>?_))<;>simp (disch:=omega) [hb_])
  | simp (disch:=omega))
 all_goals simp only [Qf,Qd,Qi,Qh,Qc,Qb,Bool.not_true,Bool.not_false,XG] at *
 all_goals (split<;>omega)
theorem Zju {α:Type} {e:α→List LV} {sz:Nat} (he:∀ x,(e x).length=sz) (l:List α):Qo [some (l.map e).flatten] (.ha 0 sz 0 l.length l.length)=some (.sl true false sz (l.map e),[none]):=by
 have:=frz_ha (h:=[some (l.map e).flatten]) (l:=0) (sz:=sz) (n:=l.length) rfl (ZiF he l)
 rw [Zhb e sz l (fun x _=>he x)] at this
 simpa using this
theorem Zgs (nl:Bool) (l:List Int) (hl:l.length≤1099511627776):Qe Tryz.prog Js [L nl l] (·=OU true false l):=by
 refine Qe.of_codeOf Zkj Qz (by simp) ⟨_,rfl,by simp⟩ ?_
 have hm:(l.length:Int)≤(WV:Nat):=by unfold WV;omega
 have he:∀ x:Int,([N x]:List LV).length=1:=by simp
 simp (disch:=omega) [ZdW,hm]
 refine Wc l.length 0 (fun i t h=>t 4=N i∧h=[some (fill (fun x=>[N x]) [N 0] l i)]) (by simp [ZbD]) (by omega) ?_
 rintro i t1 hh hf hi ⟨e4,rfl⟩
 (have e0:=hf 0 (by kernel_rfl);have e3:=hf 3 (by kernel_rfl);clear hf;simp [] at e0 e3)
 simp (disch:=omega) [e0,e3,e4]
 (with_reducible first | refine Qm (fun h6=>?_) (fun h6=>?_) | refine Qn (fun h6=>?_) (fun h6=>?_))
 ·simp only [Qf,Qd,Qi,Qh,Qc,Qb,Bool.not_true,Bool.not_false] at h6
  have hlen:=Zdc (z:=[N 0]) (l:=l) he rfl hi
  have hst:=ZbC (z:=[N 0]) (l:=l) he rfl (i:=i) (by omega)
  simp (disch:=omega) [e0,e3,e4,Xq,Jb,Qg,hlen,hst]
  exact ⟨by omega,by omega,by simpa [splice] using hst⟩
 ·simp only [Qf,Qd,Qi,Qh,Qc,Qb,Bool.not_true,Bool.not_false] at h6
  rw [show i=l.length by omega,Zfu]
  simp (disch:=omega) [e0,e3,e4]
  rw [Zju he]
  simp
theorem Zp3 (nl:Bool) (l:List Bool) (hl:l.length≤1099511627776):Qe Tryz.prog Zak [LB nl l] (·=OB true false l):=by
 refine Qe.of_codeOf ZiH Qz (by simp) ⟨_,rfl,by simp⟩ ?_
 have hm:(l.length:Int)≤(WV:Nat):=by unfold WV;omega
 have he:∀ x:Bool,([B x]:List LV).length=1:=by simp
 simp (disch:=omega) [ZcZ,hm]
 refine Wc l.length 0 (fun i t h=>t 4=N i∧h=[some (fill (fun x=>[B x]) [B false] l i)]) (by simp [ZbD]) (by omega) ?_
 rintro i t1 hh hf hi ⟨e4,rfl⟩
 (have e0:=hf 0 (by kernel_rfl);have e3:=hf 3 (by kernel_rfl);clear hf;simp [] at e0 e3)
 simp (disch:=omega) [e0,e3,e4]
 (with_reducible first | refine Qm (fun h6=>?_) (fun h6=>?_) | refine Qn (fun h6=>?_) (fun h6=>?_))
 ·simp only [Qf,Qd,Qi,Qh,Qc,Qb,Bool.not_true,Bool.not_false] at h6
  have hlen:=Zdc (z:=[B false]) (l:=l) he rfl hi
  have hst:=ZbC (z:=[B false]) (l:=l) he rfl (i:=i) (by omega)
  simp (disch:=omega) [e0,e3,e4,Zmy,Jb,Qg,hlen,hst]
  exact ⟨by omega,by omega,by simpa [splice] using hst⟩
 ·simp only [Qf,Qd,Qi,Qh,Qc,Qb,Bool.not_true,Bool.not_false] at h6
  rw [show i=l.length by omega,Zfu]
  simp (disch:=omega) [e0,e3,e4]
  rw [Zju he]
  simp
abbrev WZ:=List (Bool×List Int)
abbrev eC (c:Bool×List Int):LV:=L c.1 c.2
abbrev LC (nl:Bool) (ctx:WZ):LV:=.sl false nl 1 (ctx.map fun c=>[eC c])
theorem Zdf (ctx:WZ) (nl:Bool) (i:Nat) (h:i < ctx.length):QS 1 (LC nl ctx) (i:Int)=some (.rp [eC (ctx[i]'h)]):=by
 have:=Zdn eC (by simp) ctx false nl i (by omega) (by omega)
 rw [this]
 simp
def WZ.raw (ctx:WZ):Prop:=ctx.length≤9223372036854775807∧∀ c∈ctx,c.2.length≤9223372036854775807∧∀ n∈c.2,I64 n
def WZ.wf (ctx:WZ):Prop:=ctx.length≤1099511627776∧∀ c∈ctx,Lok c.2
def WZ.norm (ctx:WZ):WZ:=ctx.map fun c=>(false,c.2)
abbrev WZ.own (ctx:WZ):LV:=.sl true false 1 (ctx.map fun c=>[OU true false c.2])
theorem share_own (ctx:WZ):share ctx.own=LC false ctx.norm:=by
 simp [WZ.own,WZ.norm]
theorem low_own (k:Nat) (ctx:WZ):Low k ctx.own:=by simp [WZ.own]
def cws:WZ→Nat
 | []=>0
 | c::cs=>c.2.length+cws cs
theorem Znk:∀ {ctx:WZ} {c:Bool×List Int},c∈ctx→c.2.length≤cws ctx
 | d::ctx,c,h=>by
  simp only [List.mem_cons] at h
  simp only [cws]
  rcases h with rfl | h
  ·omega
  ·have:=Znk h;omega
theorem Zge (n1 n2:Bool) (a b:List Int) (ha:a.length≤1099511627776):Qe Tryz.prog Ji [L n1 a,L n2 b] (·=B (a == b)):=by
 generalize hq:(a == b)=q
 refine Qe.of_codeOf Zkc Qz (by simp) ⟨_,rfl,by simp⟩ ?_
 simp (disch:=omega) [Zd9]
 (with_reducible first | refine Qm (fun h1=>?_) (fun h1=>?_) | refine Qn (fun h1=>?_) (fun h1=>?_))
 ·simp (disch:=omega) [h1]
  simp only [Qf,Qd,Qi,Qh,Qc,Qb,Bool.not_true,Bool.not_false] at h1
  refine Wc a.length 0 (fun i t _=>t 5=N i∧q=(a.drop i == b.drop i)) (by simp [hq]) (by omega) ?_
  rintro i t1 hh hf hi ⟨e5,hj⟩
  (have e0:=hf 0 (by kernel_rfl);have e1:=hf 1 (by kernel_rfl);clear hf;simp [] at e0 e1)
  simp (disch:=omega) [e0,e1,e5]
  (with_reducible first | refine Qm (fun h6=>?_) (fun h6=>?_) | refine Qn (fun h6=>?_) (fun h6=>?_))
  ·simp only [Qf,Qd,Qi,Qh,Qc,Qb,Bool.not_true,Bool.not_false] at h6
   have hd1:=List.drop_eq_getElem_cons (l:=a) (i:=i) (by omega)
   have hd2:=List.drop_eq_getElem_cons (l:=b) (i:=i) (by omega)
   have hq2:q=(a[i]'(by omega) == b[i]'(by omega) && (a.drop (i+1) == b.drop (i+1))):=by rw [hj,hd1,hd2];rfl
   clear hd1 hd2 hj
   simp (disch:=omega) [e0,e1,e5,Xq]
   repeat' (first
  | (with_reducible (first | refine Qm (fun hb_=>?_) (fun hb_=>?_) | refine Qn (fun hb_=>?_) (fun hb_=>?_))<;>simp (disch:=omega) [hb_,e0,e1,e5,Qg])
  | simp (disch:=omega) [e0,e1,e5,Qg])
   all_goals simp only [Qf,Qd,Qi,Qh,Qc,Qb,Bool.not_true,Bool.not_false] at hb_
   ·exact ⟨by omega,by simp [hq2,hb_]⟩
   ·simp [hq2,hb_]
  ·simp only [Qf,Qd,Qi,Qh,Qc,Qb,Bool.not_true,Bool.not_false] at h6
   simp (disch:=omega)
   rw [hj,List.drop_of_length_le (by omega),List.drop_of_length_le (by omega)];simp
 ·simp (disch:=omega) [h1]
  simp only [Qf,Qd,Qi,Qh,Qc,Qb,Bool.not_true,Bool.not_false] at h1
  rw [← hq];simp;intro h;exact h1 (by rw [h])
theorem Zp7 (n1 n2:Bool) (a b:List Bool) (ha:a.length≤1099511627776):Qe Tryz.prog V5 [LB n1 a,LB n2 b] (·=B (a == b)):=by
 generalize hq:(a == b)=q
 refine Qe.of_codeOf ZjI Qz (by simp) ⟨_,rfl,by simp⟩ ?_
 simp (disch:=omega) [Zds]
 (with_reducible first | refine Qm (fun h1=>?_) (fun h1=>?_) | refine Qn (fun h1=>?_) (fun h1=>?_))
 ·simp (disch:=omega) [h1]
  simp only [Qf,Qd,Qi,Qh,Qc,Qb,Bool.not_true,Bool.not_false] at h1
  refine Wc a.length 0 (fun i t _=>t 5=N i∧q=(a.drop i == b.drop i)) (by simp [hq]) (by omega) ?_
  rintro i t1 hh hf hi ⟨e5,hj⟩
  (have e0:=hf 0 (by kernel_rfl);have e1:=hf 1 (by kernel_rfl);clear hf;simp [] at e0 e1)
  simp (disch:=omega) [e0,e1,e5]
  (with_reducible first | refine Qm (fun h6=>?_) (fun h6=>?_) | refine Qn (fun h6=>?_) (fun h6=>?_))
  ·simp only [Qf,Qd,Qi,Qh,Qc,Qb,Bool.not_true,Bool.not_false] at h6
   have hd1:=List.drop_eq_getElem_cons (l:=a) (i:=i) (by omega)
   have hd2:=List.drop_eq_getElem_cons (l:=b) (i:=i) (by omega)
   have hq2:q=(a[i]'(by omega) == b[i]'(by omega) && (a.drop (i+1) == b.drop (i+1))):=by rw [hj,hd1,hd2];rfl
   clear hd1 hd2 hj
   simp (disch:=omega) [e0,e1,e5,Zmy]
   repeat' (first
  | (with_reducible (first | refine Qm (fun hb_=>?_) (fun hb_=>?_) | refine Qn (fun hb_=>?_) (fun hb_=>?_))<;>simp (disch:=omega) [hb_,e0,e1,e5,Qg])
  | simp (disch:=omega) [e0,e1,e5,Qg])
   ·exact ⟨by omega,by rw [hq2,hb_,Bool.true_and]⟩
   ·rw [hq2,hb_,Bool.false_and]
  ·simp only [Qf,Qd,Qi,Qh,Qc,Qb,Bool.not_true,Bool.not_false] at h6
   simp (disch:=omega)
   rw [hj,List.drop_of_length_le (by omega),List.drop_of_length_le (by omega)];simp
 ·simp (disch:=omega) [h1]
  simp only [Qf,Qd,Qi,Qh,Qc,Qb,Bool.not_true,Bool.not_false] at h1
  rw [← hq];simp;intro h;exact h1 (by rw [h])
def sameC:WZ→WZ→Bool
 | [],[]=>true
 | a::a',b::b'=>(a.2 == b.2) && sameC a' b'
 | _,_=>false
theorem Zjn:∀ a:WZ,sameC a a=true
 | []=>rfl
 | a::a'=>by simp [sameC,Zjn a']
end Go.Proofs.YtbmepminmpjlcaaGreat
namespace Go.Proofs.YtbmepminmpjlcaaGreat.Ty
def QW (c:Int):Bool:=(decide (3≤c) && decide (c≤18)) || c == 35
def WW (c:Int):Bool:=(decide (19≤c) && decide (c≤34)) || c == 36
def W2 (c:Int):Option Nat :=
 if c=0 then some 0 else if c=1∨c=2∨QW c=true then some 2 else if WW c=true then some 1 else none
def skip:Nat→List Int→Option (List Int)
 | 0,l=>some l
 | _+1,[]=>none
 | n+1,c::l=>match W2 c with
  | none=>none
  | some k=>skip (n+k) l
def Ve (n:Nat) (l:List Int) (len:Nat):Int:=match skip n l with
 | some r=>(len:Int) - r.length
 | none=>-1
def wty (l:List Int):Bool:=decide (1≤l.length) && decide (l.length≤40) && (skip 1 l == some [])
theorem ZoR {c:Int} {k:Nat} (h:W2 c=some k):k≤2:=by
 unfold W2 at h
 split at h
 ·simp at h;omega
 ·split at h
  ·simp at h;omega
  ·split at h
   ·simp at h;omega
   ·simp at h
theorem Zjt (b:Nat):∀ (l:List Int) (a:Nat),skip (a+b) l=(skip a l).bind (skip b)
 | [],0=>by simp [skip]
 | [],a+1=>by rw [show a+1+b=(a+b)+1 by omega];simp [skip]
 | c::l,0=>by simp [skip]
 | c::l,a+1=>by
  rw [show a+1+b=(a+b)+1 by omega]
  simp only [skip]
  cases h:W2 c with
  | none=>simp
  | some k =>
   simp only
   rw [show a+b+k=(a+k)+b by omega]
   exact Zjt b l (a+k)
theorem skip_drop:∀ (l:List Int) (n:Nat) (r:List Int),skip n l=some r→∃ m,r=l.drop m∧n≤m∧m≤l.length
 | l,0,r,h=>⟨0,by simp [skip] at h;simp [h],by omega,by omega⟩
 | [],n+1,r,h=>by simp [skip] at h
 | c::l,n+1,r,h=>by
  simp only [skip] at h
  cases hk:W2 c with
  | none=>simp [hk] at h
  | some k =>
   simp only [hk] at h
   obtain ⟨m,hm,h1,h2⟩:=skip_drop l (n+k) r h
   exact ⟨m+1,by simpa using hm,by omega,by simp;omega⟩
theorem Zhi {l r:List Int} {n:Nat} (h:skip n l=some r):r.length+n≤l.length:=by
 obtain ⟨m,rfl,h1,h2⟩:=skip_drop l n r h
 simp;omega
end Go.Proofs.YtbmepminmpjlcaaGreat.Ty
namespace Go.Proofs.YtbmepminmpjlcaaGreat
open Go Go.TL
open Go.Proofs.YtbmepminmpjlcaaGreat.Ty
set_option linter.unusedSimpArgs false
set_option linter.unusedVariables false
set_option maxRecDepth 20000
set_option maxHeartbeats 4000000
def QH (k:Int):Int×Int :=
 if Wh k 0 2=true then (k,-1) else if Wh k 3 18=true then (3,k - 3) else if Wh k 19 34=true then (4,k - 19)
 else if eqB k 35=true then (3,-1) else if eqB k 36=true then (4,-1) else (5,-1)
theorem Zac (k:Int) (h:I64 k):Qe Tryz.prog Yy [N k] (·=.tup [N (QH k).1,N (QH k).2]):=by
 obtain ⟨ha,hb⟩:=h
 refine Qe.of_codeOf Zmm Qz (by simp) ⟨_,rfl,by simp⟩ ?_
 simp (disch:=omega) [Zfq]
 repeat' (first
  | with_reducible refine Qa (JR _ _ _) (by simp) ?_
  | (with_reducible (first | refine Qm (fun hb_=>?_) (fun hb_=>?_) | refine Qn (fun hb_=>?_) (fun hb_=>?_))<;>simp (disch:=omega) [hb_])
  | simp (disch:=omega))
 all_goals unfold QH
 ·simp_all
 ·rename_i h0
  rw [Wv] at hb_
  rw [if_neg (by simp_all),if_pos (by rw [Wv];exact hb_)]
  simp (disch:=omega) [Qg]
 ·rename_i h0 h1
  rw [Wv] at hb_
  rw [if_neg (by simp_all),if_neg (by simp_all),if_pos (by rw [Wv];exact hb_)]
  simp (disch:=omega) [Qg]
 all_goals simp_all
def ZK (l:List Int) (i:Int):Int:=if 0≤i then Ve 1 (l.drop i.toNat) l.length else -1
theorem Zn9 {l:List Int} {i:Int} (h:i < 0∨l.length≤i):ZK l i=-1:=by
 unfold ZK
 split
 ·rw [List.drop_eq_nil_of_le (by omega)];simp [Ve,Ty.skip]
 ·rfl
theorem ZpC {l:List Int} {i:Int} (h:0≤i):ZK l i=-1∨(i < ZK l i∧ZK l i≤l.length):=by
 unfold ZK Ve
 rw [if_pos h]
 cases hs:Ty.skip 1 (l.drop i.toNat) with
 | none=>exact .inl rfl
 | some r =>
  have:=Zhi hs
  simp only [List.length_drop] at this ⊢
  right;omega
theorem kidsN' (c:Int):W2 c=if c=0 then some 0 else if (1≤c∧c≤18)∨c=35 then some 2 else if (19≤c∧c≤34)∨c=36 then some 1 else none:=by
 have e1:(c=1∨c=2∨QW c=true) ↔ ((1≤c∧c≤18)∨c=35):=by simp [QW];omega
 have e2:(WW c=true) ↔ ((19≤c∧c≤34)∨c=36):=by simp [WW]
 unfold W2
 simp only [e1,e2]
theorem ZpT (c:Int):((QH c).1=0∧W2 c=some 0)∨((QH c).1=4∧W2 c=some 1)∨((QH c).1=5∧W2 c=none)∨((QH c).1≠0∧(QH c).1≠4∧(QH c).1≠5∧W2 c=some 2):=by
 rw [kidsN']
 unfold QH
 simp only [Wv,Qc]
 by_cases h0:0≤c∧c≤2
 ·rw [if_pos h0]
  by_cases h:c=0
  ·simp [h]
  ·rw [if_neg h,if_pos (by omega)];simp;omega
 rw [if_neg h0,if_neg (show ¬ c=0 by omega)]
 by_cases h1:3≤c∧c≤18
 ·rw [if_pos h1,if_pos (by omega)];simp
 rw [if_neg h1]
 by_cases h2:19≤c∧c≤34
 ·rw [if_pos h2,if_neg (by omega),if_pos (by omega)];simp
 rw [if_neg h2]
 by_cases h3:c=35
 ·simp [h3]
 rw [if_neg h3]
 by_cases h4:c=36
 ·simp [h4]
 rw [if_neg h4,if_neg (by omega),if_neg (by omega)]
 simp
theorem tEnd_in {l:List Int} {i:Int} (h0:0≤i) (h1:i < l.length) (c:Int) (hc:c=l[i.toNat]'(by omega)) :
  ((QH c).1=0→ZK l i=i+1)∧((QH c).1=4→ZK l i=ZK l (i+1))∧((QH c).1=5→ZK l i=-1) ∧
  ((QH c).1≠0→(QH c).1≠4→(QH c).1≠5→ZK l i=ZK l (ZK l (i+1))):=by
 have hd:l.drop i.toNat=c::l.drop (i.toNat+1):=by rw [hc];exact List.drop_eq_getElem_cons (by omega)
 have e1:(i+1).toNat=i.toNat+1:=by omega
 have key:ZK l i=match W2 c with
   | none=>-1
   | some k=>Ve (0+k) (l.drop (i.toNat+1)) l.length:=by
  unfold ZK Ve
  rw [if_pos h0,hd]
  simp only [Ty.skip]
  cases W2 c<;>rfl
 rcases ZpT c with ⟨a,b⟩ | ⟨a,b⟩ | ⟨a,b⟩ | ⟨a1,a2,a3,b⟩
 ·rw [b] at key
  refine ⟨fun _=>?_,fun h=>by omega,fun h=>by omega,fun h=>absurd a h⟩
  rw [key];simp [Ve,Ty.skip];omega
 ·rw [b] at key
  refine ⟨fun h=>by omega,fun _=>?_,fun h=>by omega,fun _ h=>absurd a h⟩
  rw [key];unfold ZK;rw [if_pos (by omega),e1]
 ·rw [b] at key
  exact ⟨fun h=>by omega,fun h=>by omega,fun _=>key,fun _ _ h=>absurd a h⟩
 ·rw [b] at key
  refine ⟨fun h=>absurd h a1,fun h=>absurd h a2,fun h=>absurd h a3,fun _ _ _=>?_⟩
  rw [key]
  show Ve (1+1) _ _=_
  unfold ZK
  rw [if_pos (show 0≤i+1 by omega),e1]
  unfold Ve
  rw [Zjt]
  cases hs:Ty.skip 1 (l.drop (i.toNat+1)) with
  | none=>simp
  | some r =>
   obtain ⟨m,hm,h2,h3⟩:=skip_drop _ _ _ hs
   have hr:r.length≤l.length:=by rw [hm];simp
   simp only [Option.bind_some]
   rw [if_pos (by omega)]
   have:l.drop ((l.length:Int) - r.length).toNat=r:=by
    rw [hm,List.drop_drop]
    simp only [List.length_drop] at h3 ⊢
    congr 1;omega
   rw [this]
def meas (l:List Int) (i:Int):Nat:=if i < 0 then 0 else (l.length+1 - i).toNat
theorem ZjK (nl:Bool) (l:List Int) (hl:Lok l) (i:Int) (hi:I64 i):Qe Tryz.prog Xd [L nl l,N i] (·=N (ZK l i)):=by
 have hlen:=hl.1
 generalize hd:meas l i=d
 induction d using Nat.strongRecOn generalizing i with
 | _ d ih =>
  obtain ⟨ha,hb⟩:=hi
  refine Qe.of_codeOf ZiB Qz (by simp) ⟨_,rfl,by simp⟩ ?_
  simp (disch:=omega) [Zdg,Qg]
  (with_reducible first | refine Qm (fun h1=>?_) (fun h1=>?_) | refine Qn (fun h1=>?_) (fun h1=>?_))
  ·simp (disch:=omega) [h1]
   simp only [Qf,Qd,Qi,Qh,Qc,Qb,Bool.not_true,Bool.not_false] at h1
   exact (Zn9 (.inl h1)).symm
  simp (disch:=omega) [h1]
  (with_reducible first | refine Qm (fun h2=>?_) (fun h2=>?_) | refine Qn (fun h2=>?_) (fun h2=>?_))
  ·simp (disch:=omega) [h2]
   simp only [Qf,Qd,Qi,Qh,Qc,Qb,Bool.not_true,Bool.not_false] at h2
   exact (Zn9 (.inr h2)).symm
  simp only [Qf,Qd,Qi,Qh,Qc,Qb,Bool.not_true,Bool.not_false] at h1 h2
  simp (disch:=omega) [Xq]
  have hci:I64 (l[i.toNat]'(by omega)):=hl.2 _ (List.getElem_mem _)
  generalize hc:l[i.toNat]'(by omega)=c at *
  obtain ⟨g0,g4,g5,g2⟩:=tEnd_in h1 h2 c hc.symm
  have i1:Qe Tryz.prog Xd [L nl l,N (i+1)] (·=N (ZK l (i+1))):=ih _ (by rw [← hd];unfold meas;rw [if_neg (by omega),if_neg (by omega)];omega) (i+1) ⟨by omega,by omega⟩ rfl
  have hr:=ZpC (l:=l) (i:=i+1) (by omega)
  have i2:Qe Tryz.prog Xd [L nl l,N (ZK l (i+1))] (·=N (ZK l (ZK l (i+1)))):=ih _ (by rw [← hd];unfold meas;split<;>(rw [if_neg (by omega)];omega)) _ ⟨by omega,by omega⟩ rfl
  repeat' (first
  | with_reducible refine Qa (Zac _ hci) (by simp) ?_
  | with_reducible refine Qa (i1) (by simp) ?_
  | with_reducible refine Qa (i2) (by simp) ?_
  | (with_reducible (first | refine Qm (fun hb_=>?_) (fun hb_=>?_) | refine Qn (fun hb_=>?_) (fun hb_=>?_))<;>simp (disch:=omega) [hb_,Qg])
  | simp (disch:=omega) [Qg])
  all_goals simp only [Qf,Qd,Qi,Qh,Qc,Qb,Bool.not_true,Bool.not_false] at *
  ·exact (g0 (by omega)).symm
  ·exact (g4 (by omega)).symm
  ·exact (g5 (by omega)).symm
  ·exact (g2 (by omega) (by omega) (by omega)).symm
theorem Zmu (l:List Int):wty l=(Wh l.length 1 40 && eqB (ZK l 0) l.length):=by
 have:(Ty.skip 1 l == some [])=eqB (ZK l 0) l.length:=by
  unfold ZK Ve eqB
  simp only [Int.le_refl,if_true,Int.toNat_zero,List.drop_zero]
  cases h:Ty.skip 1 l with
  | none=>simp
  | some r =>
   have:=Zhi h
   cases r with
   | nil=>simp
   | cons a r=>simp;omega
 rw [← this,wty]
 congr 1
 rw [Bool.eq_iff_iff];simp [Wh,leB];omega
theorem Zgv (nl:Bool) (l:List Int) (hl:Lok l):Qe Tryz.prog ZS [L nl l] (·=B (wty l)):=by
 refine Qe.of_codeOf Zdi Qz (by simp) ⟨_,rfl,by simp⟩ ?_
 have h0:I64 0:=⟨by omega,by omega⟩
 have hl1:=hl.1
 simp (disch:=omega) [KV]
 repeat' (first
  | with_reducible refine Qa (JR _ _ _) (by simp) ?_
  | with_reducible refine Qa (ZjK nl l hl 0 h0) (by simp) ?_
  | (with_reducible (first | refine Qm (fun hb_=>?_) (fun hb_=>?_) | refine Qn (fun hb_=>?_) (fun hb_=>?_))<;>simp (disch:=omega) [hb_])
  | simp (disch:=omega))
 all_goals simp_all [Zmu]
theorem Zjl (c:Int):QW c=(Wh c 3 18 || eqB c 35):=by
 unfold QW Wh leB eqB
 by_cases h:c=35<;>simp [h]
theorem Zl7 (c:Int):WW c=(Wh c 19 34 || eqB c 36):=by
 unfold WW Wh leB eqB
 by_cases h:c=36<;>simp [h]
theorem Zm (c:Int):QW c=true ↔ (3≤c∧c≤18)∨c=35:=by simp [QW]
theorem V0 (c:Int):WW c=true ↔ (19≤c∧c≤34)∨c=36:=by simp [WW]
theorem Zi9 (c:Int):Qe Tryz.prog ZM [N c] (·=B (QW c)):=by
 refine Qe.of_codeOf Zjg Qz (by simp) ⟨_,rfl,by simp⟩ ?_
 simp (disch:=omega) [Zc2]
 repeat' (first
  | with_reducible refine Qa (ZiU _ _ _) (by simp) ?_
  | (with_reducible (first | refine Qm (fun hb_=>?_) (fun hb_=>?_) | refine Qn (fun hb_=>?_) (fun hb_=>?_))<;>simp (disch:=omega) [hb_])
  | simp (disch:=omega))
 all_goals simp_all [Zjl]
theorem Zpq (c:Int):Qe Tryz.prog Vz [N c] (·=B (WW c)):=by
 refine Qe.of_codeOf ZmU Qz (by simp) ⟨_,rfl,by simp⟩ ?_
 simp (disch:=omega) [ZfE]
 repeat' (first
  | with_reducible refine Qa (ZiU _ _ _) (by simp) ?_
  | (with_reducible (first | refine Qm (fun hb_=>?_) (fun hb_=>?_) | refine Qn (fun hb_=>?_) (fun hb_=>?_))<;>simp (disch:=omega) [hb_])
  | simp (disch:=omega))
 all_goals simp_all [Zl7]
def Zg3 (c:Int):Int:=match W2 c with
 | some n=>n
 | none=>-1
theorem kidsI' (c:Int):Zg3 c=if c=0 then 0 else if c=1∨c=2∨QW c=true then 2 else if WW c=true then 1 else -1:=by
 unfold Zg3 W2
 split<;>rename_i h<;>(repeat' split at h)<;>simp_all
 all_goals omega
theorem ZqC (c:Int):Qe Tryz.prog KM [N c] (·=N (Zg3 c)):=by
 refine Qe.of_codeOf Zkn Qz (by simp) ⟨_,rfl,by simp⟩ ?_
 simp (disch:=omega) [Zey]
 repeat' (first
  | with_reducible refine Qa (Zi9 _) (by simp) ?_
  | with_reducible refine Qa (Zpq _) (by simp) ?_
  | (with_reducible (first | refine Qm (fun hb_=>?_) (fun hb_=>?_) | refine Qn (fun hb_=>?_) (fun hb_=>?_))<;>simp (disch:=omega) [hb_])
  | simp (disch:=omega))
 all_goals simp_all [kidsI',Qf,Qd,Qi,Qh,Qc,Qb,Bool.not_true,Bool.not_false]
def XO (c:Int):Int:=if 35≤c then -1 else if 19≤c then c - 19 else c - 3
theorem ZiP (c:Int) (h:I64 c) (hg:0≤c):Qe Tryz.prog ZR [N c] (·=N (XO c)):=by
 refine Qe.of_codeOf Zio Qz (by simp) ⟨_,rfl,by simp⟩ ?_
 obtain ⟨h1,h2⟩:=h
 simp (disch:=omega) [ZcQ,Qg]
 repeat' (first
  | (with_reducible (first | refine Qm (fun hb_=>?_) (fun hb_=>?_) | refine Qn (fun hb_=>?_) (fun hb_=>?_))<;>simp (disch:=omega) [hb_,Qg])
  | simp (disch:=omega) [Qg])
 all_goals simp only [Qf,Qd,Qi,Qh,Qc,Qb,Bool.not_true,Bool.not_false,XO] at *
 ·rw [if_pos hb_]
 ·rename_i h
  rw [if_neg (by omega),if_pos hb_]
 ·rename_i h
  rw [if_neg (by omega),if_neg (by omega)]
theorem ZnR (nl:Bool) (l:List Int) (hl:Lok l) (i:Nat) (hi:i≤l.length):Qe Tryz.prog VC [L nl l,N i] (·=N (ZK l i)):=by
 have hlen:=hl.1
 refine Qe.of_codeOf Znc Qz (by simp) ⟨_,rfl,by simp⟩ ?_
 simp (disch:=omega) [ZfX]
 refine Wc l.length i (fun j t _=>∃ m:Nat,t 6=N j∧t 5=N (m+1)∧m≤j∧ZK l i=Ve (m+1) (l.drop j) l.length) ⟨0,by simp,by simp,by omega,by unfold ZK;rw [if_pos (by omega)];simp⟩ hi ?_
 rintro j t1 hh hf hj ⟨m,e6,e5,hm,he⟩
 (have e0:=hf 0 (by kernel_rfl);clear hf;simp [] at e0)
 simp (disch:=omega) [e0,e5,e6]
 (with_reducible first | refine Qm (fun h6=>?_) (fun h6=>?_) | refine Qn (fun h6=>?_) (fun h6=>?_))
 ·simp only [Qf,Qd,Qi,Qh,Qc,Qb,Bool.not_true,Bool.not_false] at h6
  simp (disch:=omega) [e0,e5,e6,Xq]
  have hd:l.drop j=l[j]::l.drop (j+1):=List.drop_eq_getElem_cons (by omega)
  generalize l[j]'(by omega)=c at *
  have key:ZK l i=match W2 c with
    | none=>-1
    | some q=>Ve (m+q) (l.drop (j+1)) l.length:=by
   rw [he,hd]
   unfold Ve
   simp only [Ty.skip]
   cases W2 c<;>rfl
  refine Qa (ZqC c) (by simp) ?_
  cases hq:W2 c with
  | none =>
   rw [hq] at key
   have hk1:Zg3 c=-1:=by simp [Zg3,hq]
   rw [hk1]
   have hn1:ltB (-1) 0=true:=by simp [Qf,Qd,Qi,Qh,Qc,Qb,Bool.not_true,Bool.not_false]
   repeat' (first
  | (with_reducible (first | refine Qm (fun hb_=>?_) (fun hb_=>?_) | refine Qn (fun hb_=>?_) (fun hb_=>?_))<;>simp (disch:=omega) [hb_,e0,e5,e6,hn1])
  | simp (disch:=omega) [e0,e5,e6,hn1])
   exact key.symm
  | some q =>
   rw [hq] at key
   have hk1:Zg3 c=q:=by simp [Zg3,hq]
   have hq2:=ZoR hq
   rw [hk1]
   simp (disch:=omega) [e0,e5,e6,Qg]
   repeat' (first
  | (with_reducible (first | refine Qm (fun hb_=>?_) (fun hb_=>?_) | refine Qn (fun hb_=>?_) (fun hb_=>?_))<;>simp (disch:=omega) [hb_,e0,e5,e6,Qg])
  | simp (disch:=omega) [e0,e5,e6,Qg])
   all_goals simp only [Qf,Qd,Qi,Qh,Qc,Qb,Bool.not_true,Bool.not_false] at *
   ·omega
   ·rw [key]
    show _=Ve (m+q) _ _
    rw [show m+q=0 by omega];simp [Ve,Ty.skip];omega
   ·refine ⟨by omega,m+q - 1,by omega,by omega,?_⟩
    rw [key,show m+q - 1+1=m+q by omega]
 ·simp only [Qf,Qd,Qi,Qh,Qc,Qb,Bool.not_true,Bool.not_false] at h6
  simp (disch:=omega)
  rw [he,List.drop_eq_nil_of_le (by omega)];simp [Ve,Ty.skip]
theorem Zlq (nl:Bool) (l:List Int) (hl:Lok l):Qe Tryz.prog KO [L nl l] (·=B (wty l)):=by
 refine Qe.of_codeOf Zk4 Qz (by simp) ⟨_,rfl,by simp⟩ ?_
 have hl1:=hl.1
 have hE:=ZnR nl l hl 0 (by omega)
 simp (disch:=omega) [Zeg]
 repeat' (first
  | with_reducible refine Qa (hE) (by simp) ?_
  | (with_reducible (first | refine Qm (fun hb_=>?_) (fun hb_=>?_) | refine Qn (fun hb_=>?_) (fun hb_=>?_))<;>simp (disch:=omega) [hb_])
  | simp (disch:=omega))
 ·rw [Zmu,hb_]
  simp_all [Wh,ltB,leB]
  omega
 all_goals simp_all [Zmu,Wh]
def okC (size:Int) (closed:Bool) (c:Int):Bool:=!(QW c || WW c) || (ltB (XO c) size && (!closed || leB 0 (XO c)))
def YP (size:Int) (closed:Bool) (l:List Int) (i:Nat):Bool:=okC size closed (l.getD i 0)
def ZY (size:Int) (closed:Bool) (l:List Int):Bool:=YW (YP size closed l) l.length
theorem Zpy (c:Int):(ltB 0 (Zg3 c) && ltB 2 c)=(QW c || WW c):=by
 rw [Bool.eq_iff_iff]
 simp only [kidsI',Bool.and_eq_true,Bool.or_eq_true,Qf,Qd,Qi,Qh,Qc,Qb,Bool.not_true,Bool.not_false,Zm,V0]
 repeat' split
 all_goals omega
theorem ZgY (nl:Bool) (l:List Int) (hl:Lok l) (size:Int) (hs:I64 size) (closed:Bool):Qe Tryz.prog Jy [L nl l,N size,B closed] (·=B (ZY size closed l)):=by
 have hlen:=hl.1
 refine Qe.of_codeOf Zht Qz (by simp) ⟨_,rfl,by simp⟩ ?_
 simp (disch:=omega) [Zcd]
 refine Wc l.length 0 (fun i t _=>t 7=N i∧YW (YP size closed l) i=true) (by simp) (by omega) ?_
 rintro i t1 hh hf hi ⟨e7,hj⟩
 (have e0:=hf 0 (by kernel_rfl);have e1:=hf 1 (by kernel_rfl);have e2:=hf 2 (by kernel_rfl);clear hf;simp [] at e0 e1 e2)
 simp (disch:=omega) [e0,e1,e2,e7]
 (with_reducible first | refine Qm (fun h6=>?_) (fun h6=>?_) | refine Qn (fun h6=>?_) (fun h6=>?_))
 ·simp only [Qf,Qd,Qi,Qh,Qc,Qb,Bool.not_true,Bool.not_false] at h6
  have hc:=hl.at (i:=i) (by omega)
  have hget:YP size closed l i=okC size closed (l[i]'(by omega)):=by simp [YP,show i < l.length by omega]
  obtain ⟨c,hce⟩:∃ c,l[i]'(by omega)=c:=⟨_,rfl⟩
  rw [hce] at hc hget
  have hkg:=Zpy c
  simp (disch:=omega) [e0,e1,e2,e7,Xq,hce]
  refine Qa (ZqC c) (by simp) ?_
  refine Zfp (fun t h=>t 27=B (QW c || WW c)) ?_ ?_
  ·repeat' (first
  | (with_reducible (first | refine Qm (fun hb_=>?_) (fun hb_=>?_) | refine Qn (fun hb_=>?_) (fun hb_=>?_))<;>simp (disch:=omega) [hb_,e0,e1,e2,e7,Xq,hce])
  | simp (disch:=omega) [e0,e1,e2,e7,Xq,hce])
   all_goals simp_all
  ·rintro t2 hh hf h27
   (have f0:=hf 0 (by kernel_rfl);have f1:=hf 1 (by kernel_rfl);have f2:=hf 2 (by kernel_rfl);have f7:=hf 7 (by kernel_rfl);clear hf;simp [e0,e1,e2,e7] at f0 f1 f2 f7)
   simp (disch:=omega) [h27]
   (with_reducible first | refine Qm (fun h8=>?_) (fun h8=>?_) | refine Qn (fun h8=>?_) (fun h8=>?_))
   ·have hc0:0≤c:=by simp only [Bool.or_eq_true,Zm,V0] at h8;omega
    rw [okC,h8,ZbN] at hget
    cases closed<;>repeat' (first
  | with_reducible refine Qa (ZiP c hc hc0) (by simp) ?_
  | (with_reducible (first | refine Qm (fun hb_=>?_) (fun hb_=>?_) | refine Qn (fun hb_=>?_) (fun hb_=>?_))<;>simp (disch:=omega) [hb_,f0,f1,f2,f7,Xq,hce])
  | simp (disch:=omega) [f0,f1,f2,f7,Xq,hce])
    ·exact XH (p:=YP size false l) (i:=i) (by omega) (by simp [hget,hb_])
    ·exact ⟨by omega,Qg (by omega),by simp [WA,hj,hget,hb_]⟩
    ·exact XH (p:=YP size true l) (i:=i) (by omega) (by simp [hget,hb_])
    ·exact XH (p:=YP size true l) (i:=i) (by omega) (by rw [ZbN] at hb_;simp at hb_;simp [hget,hb_])
    ·refine ⟨by omega,Qg (by omega),?_⟩
     rw [ZbN] at hb_
     simp_all [WA]
   ·simp (disch:=omega) [f0,f1,f2,f7]
    exact ⟨by omega,Qg (by omega),by simp [WA,hj,hget,okC,h8]⟩
 ·simp only [Qf,Qd,Qi,Qh,Qc,Qb,Bool.not_true,Bool.not_false] at h6
  simp (disch:=omega)
  rw [← hj,show i=l.length by omega,ZY]
theorem ZoI {c:Int} (h:0≤c∧c≤36):((eqB (QH c).1 3 || eqB (QH c).1 4)=(QW c || WW c))∧((QW c || WW c)=true→(QH c).2=XO c):=by
 unfold QH XO
 simp only [Wv,Qc]
 refine ⟨?_,fun h1=>?_⟩
 ·rw [Bool.eq_iff_iff]
  simp only [Bool.or_eq_true,Zm,V0,Qc]
  repeat' split
  all_goals (simp;try omega)
 ·simp only [Bool.or_eq_true,Zm,V0] at h1
  repeat' split
  all_goals (simp;try omega)
theorem Zdo {c:Int} {k:Nat} (h:W2 c=some k):0≤c∧c≤36:=by
 rw [kidsN'] at h
 repeat' split at h
 all_goals first | omega | simp at h
theorem Zix:∀ (l:List Int) (n:Nat) (r:List Int),Ty.skip n l=some r→∀ i,i+r.length < l.length→0≤l.getD i 0∧l.getD i 0≤36
 | l,0,r,h,i,hi=>by simp [Ty.skip] at h;subst h;omega
 | [],n+1,r,h,i,hi=>by simp [Ty.skip] at h
 | c::l,n+1,r,h,i,hi=>by
  simp only [Ty.skip] at h
  cases hk:W2 c with
  | none=>simp [hk] at h
  | some k =>
   simp only [hk] at h
   cases i with
   | zero=>simpa using Zdo hk
   | succ i =>
    have:=Zix l (n+k) r h i (by simp at hi;omega)
    simpa using this
theorem Zlt {l:List Int} (h:wty l=true) (i:Nat) (hi:i < l.length):0≤l.getD i 0∧l.getD i 0≤36:=by
 simp [wty] at h
 exact Zix l 1 [] h.2 i (by simpa using hi)
theorem Zdz {s:GSys} (t:s.Tab) (nl:Bool) (l:List Int) (hl:Lok l):Qe Tryz.prog Zn [s.lv,L nl l] (·=B (wty l && ZY s.size true l)):=by
 have hlen:=hl.1
 have h2:=t.lo;have h16:=t.hi
 refine Qe.of_codeOf ZhN Qz (by simp) ⟨_,rfl,by simp⟩ ?_
 simp (disch:=omega) [Zct,Qu,Qo]
 refine Qa (Zgv nl l hl) (by simp) ?_
 simp (disch:=omega)
 (with_reducible first | refine Qm (fun h1=>?_) (fun h1=>?_) | refine Qn (fun h1=>?_) (fun h1=>?_))
 ·rw [h1,Bool.true_and]
  simp (disch:=omega)
  refine Wc l.length 0 (fun i t _=>t 14=N i∧YW (YP s.size true l) i=true) (by simp) (by omega) ?_
  rintro i t1 hh hf hi ⟨e14,hj⟩
  (have e2:=hf 2 (by kernel_rfl);have e12:=hf 12 (by kernel_rfl);have e13:=hf 13 (by kernel_rfl);clear hf;simp [] at e2 e12 e13)
  simp (disch:=omega) [e2,e12,e13,e14]
  (with_reducible first | refine Qm (fun h6=>?_) (fun h6=>?_) | refine Qn (fun h6=>?_) (fun h6=>?_))
  ·simp only [Qf,Qd,Qi,Qh,Qc,Qb,Bool.not_true,Bool.not_false] at h6
   have hc:=hl.at (i:=i) (by omega)
   have hcr:=Zlt h1 i (by omega)
   have hget:YP s.size true l i=okC s.size true (l[i]'(by omega)):=by simp [YP,show i < l.length by omega]
   simp only [List.getD_eq_getElem?_getD,List.getElem?_eq_getElem (show i < l.length by omega),Option.getD_some] at hcr
   obtain ⟨c,hce⟩:∃ c,l[i]'(by omega)=c:=⟨_,rfl⟩
   rw [hce] at hc hget hcr
   obtain ⟨hs1,hs2⟩:=ZoI hcr
   simp (disch:=omega) [e2,e12,e13,e14,Xq,hce]
   refine Qa (Zac c hc) (by simp) ?_
   simp (disch:=omega) [e2,e12,e13,e14]
   rw [okC] at hget
   have hI:I64 s.size:=⟨by omega,by omega⟩
   have hlo:-9223372036854775808 < s.size:=by omega
   have hwb:Wh (QH c).2 0 (s.size - 1)=(leB 0 (QH c).2 && ltB (QH c).2 s.size):=by
    rw [Bool.eq_iff_iff];simp [Wh,Qf,Qd,Qi,Qh,Qc,Qb,Bool.not_true,Bool.not_false];omega
   simp only [Bool.not_true,Bool.false_or] at hget
   repeat' (first
  | with_reducible refine Qa (ZpW s hI hlo _) (by simp) ?_
  | (with_reducible (first | refine Qm (fun hb_=>?_) (fun hb_=>?_) | refine Qn (fun hb_=>?_) (fun hb_=>?_))<;>simp (disch:=omega) [hb_,e2,e12,e13,e14])
  | simp (disch:=omega) [e2,e12,e13,e14])
   all_goals first
    | exact ⟨by omega,Qg (by omega),by simp_all [WA]⟩
    | exact XH (p:=YP s.size true l) (i:=i) (by omega) (by cases hB:leB 0 (XO c)<;>cases hC:QW c<;>cases hD:WW c<;>simp_all)
  ·simp only [Qf,Qd,Qi,Qh,Qc,Qb,Bool.not_true,Bool.not_false] at h6
   simp (disch:=omega)
   rw [show i=l.length by omega] at hj
   rw [ZY,hj]
 ·simp_all
inductive GTerm where
 | mk (op n:Int) (nl1:Bool) (ty:List Int) (nl2:Bool) (ks:List GTerm)
mutual
def GTerm.cells:GTerm→List LV
 | .mk op n nl1 ty nl2 ks=>[N op,N n,L nl1 ty,.sl false nl2 4 (Wp ks)]
def Wp:List GTerm→List (List LV)
 | []=>[]
 | k::ks=>k.cells::Wp ks
end
abbrev GTerm.lv (t:GTerm):LV:=.agg t.cells
mutual
def GTerm.size:GTerm→Nat
 | .mk _ _ _ _ _ ks=>Xb ks+1
def Xb:List GTerm→Nat
 | []=>0
 | k::ks=>k.size+Xb ks
end
mutual
def GTerm.wf:GTerm→Prop
 | .mk op n _ ty _ ks=>I64 op∧I64 n∧Lok ty∧ks.length≤1099511627776∧wfs ks
def wfs:List GTerm→Prop
 | []=>True
 | k::ks=>k.wf∧wfs ks
end
theorem Zbb:∀ ks:List GTerm,Wp ks=ks.map GTerm.cells
 | []=>by simp [Wp]
 | k::ks=>by simp [Wp,Zbb ks]
@[simp] theorem rowsOf_length (ks:List GTerm):(Wp ks).length=ks.length:=by simp [Zbb]
theorem ZaC:∀ {ks:List GTerm},wfs ks ↔ ∀ k∈ks,k.wf
 | []=>by simp [wfs]
 | k::ks=>by simp [wfs,ZaC (ks:=ks)]
theorem GTerm.size_pos (t:GTerm):0 < t.size:=by cases t;simp [GTerm.size]
theorem Zl4:∀ a b:List GTerm,Xb (a++b)=Xb a+Xb b
 | [],b=>by simp [Xb]
 | k::a,b=>by simp [Xb,Zl4 a b];omega
theorem ZeH {ks:List GTerm} {i:Nat} (h:i < ks.length):Xb (ks.drop i)=ks[i].size+Xb (ks.drop (i+1)):=by
 rw [List.drop_eq_getElem_cons h,Xb]
theorem Yx {ks:List GTerm} {i:Nat} (h:i < ks.length):ks[i].size≤Xb ks:=by
 have:=ZeH h
 have h2:=Zl4 (ks.take i) (ks.drop i)
 rw [List.take_append_drop] at h2
 omega
mutual
theorem Zg0:∀ t:GTerm,shareAll t.cells=t.cells
 | .mk op n nl1 ty nl2 ks=>by
  simp only [GTerm.cells,shareAll,share,Zb4 ks]
  congr 3
  simp
theorem Zb4:∀ ks:List GTerm,Qv (Wp ks)=Wp ks
 | []=>by simp [Wp,Qv]
 | k::ks=>by simp only [Wp,Qv,Zg0 k,Zb4 ks]
end
attribute [simp] Zg0 Zb4
@[simp] theorem cells_length (t:GTerm):t.cells.length=4:=by cases t;simp [GTerm.cells]
@[simp] theorem take_cells (t:GTerm):t.cells.take 4=t.cells:=List.take_of_length_le (by simp)
mutual
theorem low_cells (k:Nat):∀ t:GTerm,QG k t.cells
 | .mk op n nl1 ty nl2 ks=>by
  have:=ZeV k ks
  simp [GTerm.cells,this]
theorem ZeV (k:Nat):∀ ks:List GTerm,WF k (Wp ks)
 | []=>by simp [Wp]
 | t::ks=>by simp [Wp,low_cells k t,ZeV k ks]
end
attribute [simp] low_cells ZeV
@[simp] theorem alive_cells (t:GTerm):WD t.cells=true:=by
 cases t;simp [GTerm.cells]
theorem WO (ks:List GTerm) (u nl:Bool) (i:Nat) (h:i < ks.length):QS 4 (.sl u nl 4 (Wp ks)) (i:Int)=some (.rp (ks[i]'h).cells):=by
 simp only [QS]
 rw [if_pos ⟨trivial,by omega,by simpa using h⟩]
 have:(Wp ks).getD (i:Int).toNat []=(ks[i]'h).cells:=by
  simp [List.getD_eq_getElem?_getD,Zbb,h]
 rw [this]
 simp
def Xp (op:Int):Int:=if op=0∨op=1 then 0 else if op=2∨op=4∨op=5∨op=10∨op=12 then 2 else if op=3∨op=8 then 3 else if op=6∨op=7∨op=9∨op=11 then 1 else -1
def Yd (op:Int):Bool:=eqB op 5 || eqB op 8 || eqB op 9 || eqB op 11 || eqB op 12
def XC (op:Int):Bool:=eqB op 6 || eqB op 7 || eqB op 9
def Qy (op k:Int):Int:=if op=5∧k=1 then 2 else if (op=8∧0 < k)∨op=9∨(op=12∧k=1) then 1 else 0
theorem Zm5 (op k:Int):Qe Tryz.prog Zat [N op,N k] (·=N (Qy op k)):=by
 refine Qe.of_codeOf Zo1 Qz (by simp) ⟨_,rfl,by simp⟩ ?_
 simp (disch:=omega) [Zg9]
 repeat' (first
  | (with_reducible (first | refine Qm (fun hb_=>?_) (fun hb_=>?_) | refine Qn (fun hb_=>?_) (fun hb_=>?_))<;>simp (disch:=omega) [hb_])
  | simp (disch:=omega))
 all_goals simp only [Qf,Qd,Qi,Qh,Qc,Qb,Bool.not_true,Bool.not_false] at *
 all_goals simp_all [Qy]
theorem Zrd (op k:Int):Qe Tryz.prog ZaZ [N op,N k] (·=N (Qy op k)):=by
 refine Qe.of_codeOf ZkH Qz (by simp) ⟨_,rfl,by simp⟩ ?_
 simp (disch:=omega) [Zed]
 repeat' (first
  | (with_reducible (first | refine Qm (fun hb_=>?_) (fun hb_=>?_) | refine Qn (fun hb_=>?_) (fun hb_=>?_))<;>simp (disch:=omega) [hb_])
  | simp (disch:=omega))
 all_goals simp only [Qf,Qd,Qi,Qh,Qc,Qb,Bool.not_true,Bool.not_false] at *
 all_goals simp_all [Qy]
theorem Zoy (op:Int):Qe Tryz.prog VF [N op] (·=B (Yd op)):=by
 refine Qe.of_codeOf Zmh Qz (by simp) ⟨_,rfl,by simp⟩ ?_
 simp (disch:=omega) [ZfR]
 repeat' (first
  | (with_reducible (first | refine Qm (fun hb_=>?_) (fun hb_=>?_) | refine Qn (fun hb_=>?_) (fun hb_=>?_))<;>simp (disch:=omega) [hb_])
  | simp (disch:=omega))
 all_goals simp_all [Yd]
theorem Zpn (op:Int):Qe Tryz.prog V9 [N op] (·=B (XC op)):=by
 refine Qe.of_codeOf Zjo Qz (by simp) ⟨_,rfl,by simp⟩ ?_
 simp (disch:=omega) [Zdr]
 repeat' (first
  | (with_reducible (first | refine Qm (fun hb_=>?_) (fun hb_=>?_) | refine Qn (fun hb_=>?_) (fun hb_=>?_))<;>simp (disch:=omega) [hb_])
  | simp (disch:=omega))
 all_goals simp_all [XC]
theorem ops13 {op:Int} (h:Wh op 0 12=true):op=0∨op=1∨op=2∨op=3∨op=4∨op=5∨op=6∨op=7∨op=8∨op=9∨op=10∨op=11∨op=12:=by
 rw [Wv] at h;omega
theorem Zrn (op:Int):Qe Tryz.prog ZaN [N op] (·=N (Xp op)):=by
 refine Qe.of_codeOf ZkB Qz (by simp) ⟨_,rfl,by simp⟩ ?_
 simp (disch:=omega) [Zes]
 refine Qa (ZiU _ _ _) (by simp) ?_
 simp (disch:=omega)
 (with_reducible first | refine Qm (fun h1=>?_) (fun h1=>?_) | refine Qn (fun h1=>?_) (fun h1=>?_))
 ·rcases ops13 h1 with h | h | h | h | h | h | h | h | h | h | h | h | h<;>subst h<;>simp [QS,Xp,Ql]
 ·rw [ZfB] at h1
  simp [Xp]
  repeat' split
  all_goals omega
def wordS (op:Int):Value:=if op=0 then .string ⟨#[120]⟩ else if op=2 then .string ⟨#[97,100,100]⟩ else if op=3 then .string ⟨#[105,102]⟩ else if op=4 then .string ⟨#[112,97,105,114]⟩ else if op=5 then .string ⟨#[115,112,108,105,116]⟩
 else if op=6 then .string ⟨#[108,101,102,116]⟩ else if op=7 then .string ⟨#[114,105,103,104,116]⟩ else if op=8 then .string ⟨#[99,97,115,101]⟩ else if op=9 then .string ⟨#[102,117,110]⟩
 else if op=10 then .string ⟨#[97,112,112]⟩ else if op=11 then .string ⟨#[98,111,120]⟩ else if op=12 then .string ⟨#[111,112,101,110]⟩ else .string ⟨#[]⟩
abbrev wordV (op:Int):LV:=.sc (wordS op)
def Zii (op:Int):LV:=if Wh op 0 12=true then .tup [.agg [wordV op,N (Xp op),B (Yd op),B (XC op)],B true] else .tup [.agg [.sc (.string ⟨#[]⟩),N 0,B false,B false],B false]
@[simp] theorem low_formV (op:Int) (k:Nat):Low k (Zii op):=by
 unfold Zii;split<;>simp
theorem Zq8 (op:Int):Qe Tryz.prog Za3 [N op] (·=Zii op):=by
 refine Qe.of_codeOf Zla Qz (by simp) ⟨_,rfl,by simp⟩ ?_
 simp (disch:=omega) [Zej]
 refine Qa (JR _ _ _) (by simp) ?_
 simp (disch:=omega)
 (with_reducible first | refine Qm (fun h1=>?_) (fun h1=>?_) | refine Qn (fun h1=>?_) (fun h1=>?_))
 ·rcases ops13 h1 with h | h | h | h | h | h | h | h | h | h | h | h | h<;>subst h<;>simp [QS,Ql,Xp,Zii,wordS,Yd,XC,Wh,leB,eqB]
 ·simp [Zii,h1]
mutual
def GTerm.raw:GTerm→Prop
 | .mk op n _ ty _ ks=>I64 op∧I64 n∧(ty.length≤9223372036854775807∧∀ c∈ty,I64 c)∧ks.length≤9223372036854775807∧raws ks
def raws:List GTerm→Prop
 | []=>True
 | k::ks=>k.raw∧raws ks
end
theorem ZiT:∀ {ks:List GTerm},raws ks ↔ ∀ k∈ks,k.raw
 | []=>by simp [raws]
 | k::ks=>by simp [raws,ZiT (ks:=ks)]
mutual
def GTerm.w:GTerm→Nat
 | .mk _ _ _ ty _ ks=>ty.length+(ks.length+tws ks)
def tws:List GTerm→Nat
 | []=>0
 | k::ks=>k.w+tws ks
end
theorem ZoX {ks:List GTerm} {i:Nat} (h:i < ks.length):tws (ks.drop i)=ks[i].w+tws (ks.drop (i+1)):=by
 rw [List.drop_eq_getElem_cons h,tws]
mutual
theorem wf_of:∀ (t:GTerm),t.raw→t.w≤1099511627776→t.wf
 | .mk op n nl1 ty nl2 ks,h,hw=>by
  simp only [GTerm.raw,GTerm.w,GTerm.wf] at *
  exact ⟨h.1,h.2.1,⟨by omega,h.2.2.1.2⟩,by omega,wfs_of ks h.2.2.2.2 (by omega)⟩
theorem wfs_of:∀ (ks:List GTerm),raws ks→tws ks≤1099511627776→wfs ks
 | [],_,_=>by simp [wfs]
 | k::ks,h,hw=>by
  simp only [raws,tws,wfs] at *
  exact ⟨wf_of k h.1 (by omega),wfs_of ks h.2 (by omega)⟩
end
mutual
def GTerm.norm:GTerm→GTerm
 | .mk op n _ ty _ ks=>.mk op n false ty false (Jq ks)
def Jq:List GTerm→List GTerm
 | []=>[]
 | k::ks=>k.norm::Jq ks
end
mutual
def GTerm.own:GTerm→List LV
 | .mk op n _ ty _ ks=>[N op,N n,OU true false ty,.sl true false 4 (ZbK ks)]
def ZbK:List GTerm→List (List LV)
 | []=>[]
 | k::ks=>k.own::ZbK ks
end
theorem Zmk:∀ ks:List GTerm,ZbK ks=ks.map GTerm.own
 | []=>by simp [ZbK]
 | k::ks=>by simp [ZbK,Zmk ks]
mutual
theorem Ze3:∀ t:GTerm,shareAll t.own=t.norm.cells
 | .mk op n nl1 ty nl2 ks=>by
  simp only [GTerm.own,GTerm.norm,GTerm.cells,shareAll,share,Ze4 ks]
  congr 3
  simp
theorem Ze4:∀ ks:List GTerm,Qv (ZbK ks)=Wp (Jq ks)
 | []=>by simp [ZbK,Jq,Wp,Qv]
 | k::ks=>by simp only [ZbK,Jq,Wp,Qv,Ze3 k,Ze4 ks]
end
attribute [simp] Ze3 Ze4
@[simp] theorem own_length (t:GTerm):t.own.length=4:=by cases t;simp [GTerm.own]
@[simp] theorem take_own (t:GTerm):t.own.take 4=t.own:=List.take_of_length_le (by simp)
@[simp] theorem alive_own (t:GTerm):WD t.own=true:=by cases t;simp [GTerm.own]
mutual
theorem ZnY (k:Nat):∀ t:GTerm,QG k t.own
 | .mk op n nl1 ty nl2 ks=>by
  have:=Zi2 k ks
  simp [GTerm.own,this]
theorem Zi2 (k:Nat):∀ ks:List GTerm,WF k (ZbK ks)
 | []=>by simp [ZbK]
 | t::ks=>by simp [ZbK,ZnY k t,Zi2 k ks]
end
attribute [simp] ZnY Zi2
mutual
def GTerm.same:GTerm→GTerm→Bool
 | .mk op n _ ty _ ks,.mk op' n' _ ty' _ ks'=>eqB op op' && (eqB n n' && ((ty == ty') && JW ks ks'))
def JW:List GTerm→List GTerm→Bool
 | [],[]=>true
 | a::a',b::b'=>a.same b && JW a' b'
 | _,_=>false
end
theorem Zlw:∀ {a b:List GTerm},a.length≠b.length→JW a b=false
 | [],[],h=>by simp at h
 | [],_::_,_=>by simp [JW]
 | _::_,[],_=>by simp [JW]
 | a::a',b::b',h=>by simp only [JW,Zlw (a:=a') (b:=b') (by simpa using h),Bool.and_false]
mutual
theorem same_refl:∀ a:GTerm,a.same a=true
 | .mk op n nl1 ty nl2 ks=>by simp [GTerm.same,Zjx ks]
theorem Zjx:∀ a:List GTerm,JW a a=true
 | []=>by simp [JW]
 | a::a'=>by simp [JW,same_refl a,Zjx a']
end
mutual
theorem norm_wf:∀ t:GTerm,t.wf→t.norm.wf
 | .mk op n nl1 ty nl2 ks,h=>by
  simp only [GTerm.wf,GTerm.norm] at *
  exact ⟨h.1,h.2.1,h.2.2.1,by rw [Zfm];exact h.2.2.2.1,Zo2 ks h.2.2.2.2⟩
theorem Zo2:∀ ks:List GTerm,wfs ks→wfs (Jq ks)
 | [],_=>by simp [Jq,wfs]
 | k::ks,h=>by
  simp only [wfs,Jq] at *
  exact ⟨norm_wf k h.1,Zo2 ks h.2⟩
theorem Zfm:∀ ks:List GTerm,(Jq ks).length=ks.length
 | []=>by simp [Jq]
 | k::ks=>by simp [Jq,Zfm ks]
end
theorem Zp4 (nl:Bool) (ks:List GTerm) (hl:ks.length≤9223372036854775807) (left:Int) (h0:0≤left) (h1:left≤1099511627776)
  (hk:∀ k∈ks,∀ m:Int,0≤m→m≤1099511627776→Qe Tryz.prog Jt [k.lv,N m] (·=N (XG k.w m))) :
  Qe Tryz.prog V4 [.sl false nl 4 (Wp ks),N left] (·=N (XG (ks.length+tws ks) left)):=by
 refine Qe.of_codeOf Zi7 Qz (by simp) ⟨_,rfl,by simp⟩ ?_
 simp (disch:=omega) [ZcM,Qg]
 (with_reducible first | refine Qm (fun h2=>?_) (fun h2=>?_) | refine Qn (fun h2=>?_) (fun h2=>?_))
 ·simp (disch:=omega) [h2]
  simp only [Qf,Qd,Qi,Qh,Qc,Qb,Bool.not_true,Bool.not_false] at h2
  unfold XG;rw [if_neg (by omega)]
 ·simp (disch:=omega) [h2]
  simp only [Qf,Qd,Qi,Qh,Qc,Qb,Bool.not_true,Bool.not_false] at h2
  have e1:XG (ks.length+tws ks) left=XG (tws ks) (left - ks.length):=by
   rw [VK h0];congr 1;unfold XG;rw [if_pos (by omega)]
  rw [e1]
  refine Wc ks.length 0 (fun i t _=>∃ m:Int,t 5=N i∧t 1=N m∧0≤m∧m≤left∧XG (tws ks) (left - ks.length)=XG (tws (ks.drop i)) m) ⟨left - ks.length,by simp,by simp,by omega,by omega,by simp⟩ (by omega) ?_
  rintro i t1 hh hf hi ⟨m,e5,e1',hm,hm2,he⟩
  (have e0:=hf 0 (by kernel_rfl);clear hf;simp [] at e0)
  simp (disch:=omega) [e0,e1',e5]
  (with_reducible first | refine Qm (fun h6=>?_) (fun h6=>?_) | refine Qn (fun h6=>?_) (fun h6=>?_))
  ·simp only [Qf,Qd,Qi,Qh,Qc,Qb,Bool.not_true,Bool.not_false] at h6
   have hs:=hk (ks[i]'(by omega)) (List.getElem_mem _) m hm (by omega)
   simp (disch:=omega) [e0,e1',e5,WO]
   repeat' (first
  | with_reducible refine Qa (hs) (by simp) ?_
  | (with_reducible (first | refine Qm (fun hb_=>?_) (fun hb_=>?_) | refine Qn (fun hb_=>?_) (fun hb_=>?_))<;>simp (disch:=omega) [hb_,e0,e1',e5,Qg])
  | simp (disch:=omega) [e0,e1',e5,Qg])
   all_goals simp only [Qf,Qd,Qi,Qh,Qc,Qb,Bool.not_true,Bool.not_false] at hb_
   ·rw [he,ZoX (by omega),VK hm,ZdA hb_]
   ·refine ⟨by omega,hb_,?_,?_⟩
    ·have:=YX (a:=(ks[i]'(by omega)).w) hm;omega
    ·rw [he,ZoX (by omega),VK hm]
  ·simp only [Qf,Qd,Qi,Qh,Qc,Qb,Bool.not_true,Bool.not_false] at h6
   simp (disch:=omega) [e1']
   rw [he,show i=ks.length by omega,List.drop_length,tws,Zp1 hm]
theorem Zrv:∀ (d:Nat) (t:GTerm),t.size≤d→t.raw→∀ left:Int,0≤left→left≤1099511627776→Qe Tryz.prog Jt [t.lv,N left] (·=N (XG t.w left)):=by
 intro d
 induction d with
 | zero=>intro t h;have:=t.size_pos;omega
 | succ d ih =>
  rintro ⟨op,n,nl1,ty,nl2,ks⟩ hd hw left h0 h1
  simp only [GTerm.raw] at hw
  obtain ⟨hop,hn,hty,hk,hks⟩:=hw
  simp only [GTerm.size,GTerm.lv,GTerm.cells,GTerm.w] at hd ⊢
  refine Qe.of_codeOf ZkP Qz (by simp) ⟨_,rfl,by simp⟩ ?_
  have hi:=ZgK nl1 ty hty.1 left h0 h1
  simp (disch:=omega) [Zem,Qu,Qo]
  refine Qa hi (by simp) ?_
  simp (disch:=omega)
  rw [VK h0]
  (with_reducible first | refine Qm (fun h2=>?_) (fun h2=>?_) | refine Qn (fun h2=>?_) (fun h2=>?_))
  ·simp only [Qf,Qd,Qi,Qh,Qc,Qb,Bool.not_true,Bool.not_false] at h2
   simp (disch:=omega)
   rw [ZdA h2]
  ·simp only [Qf,Qd,Qi,Qh,Qc,Qb,Bool.not_true,Bool.not_false] at h2
   have hr:=YX (a:=ty.length) h0
   have ht:=Zp4 nl2 ks hk (XG ty.length left) h2 (by omega) (fun k hk' m hm hm2=>ih k (by
    obtain ⟨i,hi,rfl⟩:=List.getElem_of_mem hk'
    have:=Yx hi;omega) (ZiT.1 hks k hk') m hm hm2)
   simp (disch:=omega)
   repeat' (first
  | with_reducible refine Qa (ht) (by simp) ?_
  | (with_reducible (first | refine Qm (fun hb_=>?_) (fun hb_=>?_) | refine Qn (fun hb_=>?_) (fun hb_=>?_))<;>simp (disch:=omega) [hb_])
  | simp (disch:=omega))
   all_goals simp only [Qf,Qd,Qi,Qh,Qc,Qb,Bool.not_true,Bool.not_false] at hb_
   all_goals have:=YX (a:=ks.length+tws ks) h2
   all_goals omega
theorem Zpb (nl:Bool) (ks:List GTerm) (hl:ks.length≤1099511627776) (hk:∀ k∈ks,Qe Tryz.prog X7 [k.lv] (·=.agg k.own)) :
  Qe Tryz.prog VZ [.sl false nl 4 (Wp ks)] (·=.sl true false 4 (ZbK ks)):=by
 refine Qe.of_codeOf Zij Qz (by simp) ⟨_,rfl,by simp⟩ ?_
 have hm:(ks.length:Int)≤(WV:Nat):=by unfold WV;omega
 have he:∀ x:GTerm,x.own.length=4:=by simp
 simp (disch:=omega) [Zdv,hm]
 refine Wc ks.length 0 (fun i t h=>t 4=N i∧h=[some (fill GTerm.own [N 0,N 0,.sl true true 1 [],.sl true true 1 []] ks i)]) (by simp [ZbD]) (by omega) ?_
 rintro i t1 hh hf hi ⟨e4,rfl⟩
 (have e0:=hf 0 (by kernel_rfl);have e3:=hf 3 (by kernel_rfl);clear hf;simp [] at e0 e3)
 simp (disch:=omega) [e0,e3,e4]
 (with_reducible first | refine Qm (fun h6=>?_) (fun h6=>?_) | refine Qn (fun h6=>?_) (fun h6=>?_))
 ·simp only [Qf,Qd,Qi,Qh,Qc,Qb,Bool.not_true,Bool.not_false] at h6
  have hlen:=Zdc (z:=[N 0,N 0,.sl true true 1 [],.sl true true 1 []]) (l:=ks) he rfl hi
  have hst:=ZbC (z:=[N 0,N 0,.sl true true 1 [],.sl true true 1 []]) (l:=ks) he rfl (i:=i) (by omega)
  have hto:=hk (ks[i]'(by omega)) (List.getElem_mem _)
  simp (disch:=omega) [e0,e3,e4,WO,Jb,Qg,hlen,hst]
  repeat' (first
  | with_reducible refine Qa (hto) (by simp) ?_
  | (with_reducible (first | refine Qm (fun hb_=>?_) (fun hb_=>?_) | refine Qn (fun hb_=>?_) (fun hb_=>?_))<;>simp (disch:=omega) [hb_,e0,e3,e4,WO,Jb,Qg,hlen,hst])
  | simp (disch:=omega) [e0,e3,e4,WO,Jb,Qg,hlen,hst])
  exact ⟨by omega,by omega,by simpa [splice] using hst⟩
 ·simp only [Qf,Qd,Qi,Qh,Qc,Qb,Bool.not_true,Bool.not_false] at h6
  rw [show i=ks.length by omega,Zfu]
  simp (disch:=omega) [e0,e3,e4]
  rw [Zju he]
  simp [Zmk]
theorem Zq3:∀ (d:Nat) (t:GTerm),t.size≤d→t.wf→Qe Tryz.prog X7 [t.lv] (·=.agg t.own):=by
 intro d
 induction d with
 | zero=>intro t h;have:=t.size_pos;omega
 | succ d ih =>
  rintro ⟨op,n,nl1,ty,nl2,ks⟩ hd hw
  simp only [GTerm.wf] at hw
  obtain ⟨hop,hn,hty,hk,hks⟩:=hw
  simp only [GTerm.size,GTerm.lv,GTerm.cells,GTerm.own] at hd ⊢
  have h1:=Zgs nl1 ty hty.1
  have h2:=Zpb nl2 ks hk (fun k hk'=>ih k (by
    obtain ⟨i,hi,rfl⟩:=List.getElem_of_mem hk'
    have:=Yx hi;omega) (ZaC.1 hks k hk'))
  refine Qe.of_codeOf ZkO Qz (by simp) ⟨_,rfl,by simp⟩ ?_
  simp (disch:=omega) [Zev,Qu,Qo]
  repeat' (first
  | with_reducible refine Qa (h1) (by simp) ?_
  | with_reducible refine Qa (h2) (by simp) ?_
  | (with_reducible (first | refine Qm (fun hb_=>?_) (fun hb_=>?_) | refine Qn (fun hb_=>?_) (fun hb_=>?_))<;>simp (disch:=omega) [hb_])
  | simp (disch:=omega))
theorem Zp6 (n1 n2:Bool) (a b:List GTerm) (ha:a.length≤1099511627776) (hk:∀ x∈a,∀ y:GTerm,Qe Tryz.prog Ya [x.lv,y.lv] (·=B (x.same y))) :
  Qe Tryz.prog VX [.sl false n1 4 (Wp a),.sl false n2 4 (Wp b)] (·=B (JW a b)):=by
 refine Qe.of_codeOf ZjA Qz (by simp) ⟨_,rfl,by simp⟩ ?_
 simp (disch:=omega) [ZcV]
 (with_reducible first | refine Qm (fun h1=>?_) (fun h1=>?_) | refine Qn (fun h1=>?_) (fun h1=>?_))
 ·simp (disch:=omega) [h1]
  simp only [Qf,Qd,Qi,Qh,Qc,Qb,Bool.not_true,Bool.not_false] at h1
  refine Wc a.length 0 (fun i t _=>t 5=N i∧JW a b=JW (a.drop i) (b.drop i)) (by simp) (by omega) ?_
  rintro i t1 hh hf hi ⟨e5,hj⟩
  (have e0:=hf 0 (by kernel_rfl);have e1:=hf 1 (by kernel_rfl);clear hf;simp [] at e0 e1)
  simp (disch:=omega) [e0,e1,e5]
  (with_reducible first | refine Qm (fun h6=>?_) (fun h6=>?_) | refine Qn (fun h6=>?_) (fun h6=>?_))
  ·simp only [Qf,Qd,Qi,Qh,Qc,Qb,Bool.not_true,Bool.not_false] at h6
   have hd1:=List.drop_eq_getElem_cons (l:=a) (i:=i) (by omega)
   have hd2:=List.drop_eq_getElem_cons (l:=b) (i:=i) (by omega)
   have hq2:JW a b=((a[i]'(by omega)).same (b[i]'(by omega)) && JW (a.drop (i+1)) (b.drop (i+1))):=by rw [hj,hd1,hd2,JW]
   clear hd1 hd2 hj
   have hc:=hk (a[i]'(by omega)) (List.getElem_mem _) (b[i]'(by omega))
   simp (disch:=omega) [e0,e1,e5,WO]
   repeat' (first
  | with_reducible refine Qa (hc) (by simp) ?_
  | (with_reducible (first | refine Qm (fun hb_=>?_) (fun hb_=>?_) | refine Qn (fun hb_=>?_) (fun hb_=>?_))<;>simp (disch:=omega) [hb_,e0,e1,e5,WO,Qg])
  | simp (disch:=omega) [e0,e1,e5,WO,Qg])
   ·exact ⟨by omega,by rw [hq2,hb_,Bool.true_and]⟩
   ·rw [hq2,hb_,Bool.false_and]
  ·simp only [Qf,Qd,Qi,Qh,Qc,Qb,Bool.not_true,Bool.not_false] at h6
   simp (disch:=omega)
   rw [hj,List.drop_of_length_le (by omega),List.drop_of_length_le (by omega),JW]
 ·simp (disch:=omega) [h1]
  simp only [Qf,Qd,Qi,Qh,Qc,Qb,Bool.not_true,Bool.not_false] at h1
  exact Zlw (by omega)
theorem Zgw:∀ (d:Nat) (a:GTerm),a.size≤d→a.wf→∀ b:GTerm,Qe Tryz.prog Ya [a.lv,b.lv] (·=B (a.same b)):=by
 intro d
 induction d with
 | zero=>intro t h;have:=t.size_pos;omega
 | succ d ih =>
  rintro ⟨op,n,nl1,ty,nl2,ks⟩ hd hw ⟨op',n',nl1',ty',nl2',ks'⟩
  simp only [GTerm.wf] at hw
  obtain ⟨hop,hn,hty,hk,hks⟩:=hw
  simp only [GTerm.size,GTerm.lv,GTerm.cells] at hd ⊢
  have h1:=Zge nl1 nl1' ty ty' hty.1
  have h2:=Zp6 nl2 nl2' ks ks' hk (fun k hk'=>ih k (by
    obtain ⟨i,hi,rfl⟩:=List.getElem_of_mem hk'
    have:=Yx hi;omega) (ZaC.1 hks k hk'))
  refine Qe.of_codeOf ZkA Qz (by simp) ⟨_,rfl,by simp⟩ ?_
  rw [GTerm.same]
  generalize (ty == ty')=q1 at *
  simp (disch:=omega) [Zeb,Qu,Qo]
  repeat' (first
  | with_reducible refine Qa (h1) (by simp) ?_
  | with_reducible refine Qa (h2) (by simp) ?_
  | (with_reducible (first | refine Qm (fun hb_=>?_) (fun hb_=>?_) | refine Qn (fun hb_=>?_) (fun hb_=>?_))<;>simp (disch:=omega) [hb_])
  | simp (disch:=omega))
  all_goals simp_all
theorem GSys.isJoin_n {s:GSys} {n:Nat} (hn:s.size=n) (a b g:Int):s.isJoin a b g=(s.le a g && s.le b g && YW (fun h=>s.jn a b g h) n):=by
 simp [GSys.isJoin,hn]
section
variable {s:GSys} (t:s.Tab) {a b:Int} (ha:s.G a) (hb:s.G b)
include t ha hb
theorem ZlY:Qe Tryz.prog KK [s.lv,N a,N b] (·=N (s.join a b)):=by
 refine Qe.of_codeOf Zke Qz (by simp) ⟨_,rfl,by simp⟩ ?_
 have h2:=t.lo;have h16:=t.hi
 obtain ⟨n,hn⟩:∃ n:Nat,s.size=n:=⟨s.size.toNat,by omega⟩
 simp (disch:=omega) [Zee,Qu,Qo]
 refine Wc n 0 (fun g t _=>t 7=N g∧s.join a b=Yk (s.isJoin a b) g (n - g)) (by simp [GSys.join,hn]) (by omega) ?_
 rintro g t1 hh hf hg ⟨e7,hj⟩
 (have e1:=hf 1 (by kernel_rfl);have e2:=hf 2 (by kernel_rfl);have e3:=hf 3 (by kernel_rfl);clear hf;simp [] at e1 e2 e3)
 simp (disch:=omega) [e1,e2,e3,e7]
 (with_reducible first | refine Qm (fun h1=>?_) (fun h1=>?_) | refine Qn (fun h1=>?_) (fun h1=>?_))
 ·have hGg:=GSys.Glt h1
  simp (disch:=omega) [e1,e2,e3,e7]
  refine Qa (Zb t ha hGg) (by simp) ?_
  refine Zfp (fun t h=>t 8=B (s.le a g && s.le b g)) ?_ ?_
  ·repeat' (first
  | with_reducible refine Qa (Zb t (by first | assumption | exact GSys.Gpl t _ _ | exact GSys.Gtm t _ _ | exact GSys.Glt (by assumption) | exact GSys.G0 t | exact GSys.G1 t) (by first | assumption | exact GSys.Gpl t _ _ | exact GSys.Gtm t _ _ | exact GSys.Glt (by assumption) | exact GSys.G0 t | exact GSys.G1 t)) (by simp) ?_
  | (with_reducible (first | refine Qm (fun hb_=>?_) (fun hb_=>?_) | refine Qn (fun hb_=>?_) (fun hb_=>?_))<;>simp (disch:=omega) [hb_,e1,e2,e3,e7])
  | simp (disch:=omega) [e1,e2,e3,e7])
  ·rintro t2 hh hf2 e8
   (have f1:=hf2 1 (by kernel_rfl);have f2:=hf2 2 (by kernel_rfl);have f3:=hf2 3 (by kernel_rfl);have f7:=hf2 7 (by kernel_rfl);clear hf2;simp [e1,e2,e3,e7] at f1 f2 f3 f7)
   simp (disch:=omega)
   refine Xf n 0 (fun i t _=>t 9=N i∧t 8=B (s.le a g && s.le b g && YW (fun h=>s.jn a b g h) i)) (fun t h=>t 8=B (s.isJoin a b g)) (by simp [e8]) (by omega) ?_ ?_
   ·rintro i t3 hh hf3 hi ⟨g9,g8⟩
    (have q1:=hf3 1 (by kernel_rfl);have q2:=hf3 2 (by kernel_rfl);have q3:=hf3 3 (by kernel_rfl);have q7:=hf3 7 (by kernel_rfl);clear hf3;simp [f1,f2,f3,f7] at q1 q2 q3 q7)
    simp (disch:=omega) [q1,q2,q3,q7,g8,g9]
    repeat' (first
  | with_reducible refine Qa (Zb t (by first | assumption | exact GSys.Gpl t _ _ | exact GSys.Gtm t _ _ | exact GSys.Glt (by assumption) | exact GSys.G0 t | exact GSys.G1 t) (by first | assumption | exact GSys.Gpl t _ _ | exact GSys.Gtm t _ _ | exact GSys.Glt (by assumption) | exact GSys.G0 t | exact GSys.G1 t)) (by simp) ?_
  | (with_reducible (first | refine Qm (fun hb_=>?_) (fun hb_=>?_) | refine Qn (fun hb_=>?_) (fun hb_=>?_))<;>simp (disch:=omega) [hb_,q1,q2,q3,q7,g8,g9])
  | simp (disch:=omega) [q1,q2,q3,q7,g8,g9])
    all_goals (try simp only [Qf,Qd,Qi,Qh,Qc,Qb,Bool.not_true,Bool.not_false] at *)
    ·refine ⟨by omega,Qg (by omega),?_⟩
     simp_all [WA,GSys.jn]
    ·refine ⟨by omega,Qg (by omega),?_⟩
     simp_all [WA,GSys.jn]
    ·refine ⟨by omega,Qg (by omega),?_⟩
     simp_all [WA,GSys.jn]
    ·rw [GSys.isJoin_n hn]
     cases h:YW (fun h=>s.jn a b g h) i with
     | false=>simp [Zi3 hi h]
     | true=>simp_all
    ·rw [GSys.isJoin_n hn,show i=n by omega]
   ·rintro t4 hh hf4 g8
    (have q1:=hf4 1 (by kernel_rfl);have q2:=hf4 2 (by kernel_rfl);have q3:=hf4 3 (by kernel_rfl);have q7:=hf4 7 (by kernel_rfl);clear hf4;simp [f1,f2,f3,f7] at q1 q2 q3 q7)
    repeat' (first
  | (with_reducible (first | refine Qm (fun hb_=>?_) (fun hb_=>?_) | refine Qn (fun hb_=>?_) (fun hb_=>?_))<;>simp (disch:=omega) [hb_,q1,q2,q3,q7,g8])
  | simp (disch:=omega) [q1,q2,q3,q7,g8])
    all_goals (try simp only [Qf,Qd,Qi,Qh,Qc,Qb,Bool.not_true,Bool.not_false] at *)
    ·rw [hj,show n - g=(n - (g+1))+1 by omega,Yk,if_pos hb_]
    ·rw [hj,show n - g=(n - (g+1))+1 by omega,Yk,if_neg (by simp [hb_])]
     exact ⟨by omega,Qg (by omega),by simp⟩
 ·all_goals (try simp only [Qf,Qd,Qi,Qh,Qc,Qb,Bool.not_true,Bool.not_false] at *)
  have:g=n:=by omega
  simp_all [Yk]
theorem ZqM : Qe Tryz.prog W0 [s.lv, N a, N b] (· = N (s.join a b)) := by
  refine Qe.of_codeOf ZcO Qz (by simp) ⟨_, rfl, by simp⟩ ?_
  have h2 := t.lo; have h16 := t.hi
  obtain ⟨n, hn⟩ : ∃ n : Nat, s.size = n := ⟨s.size.toNat, by omega⟩
  simp (disch := omega) [Va, Qu, Qo]
  refine Wc n 0 (fun g t _ => t 7 = N g ∧ s.join a b = Yk (s.isJoin a b) g (n - g)) (by simp [GSys.join, hn]) (by omega) ?_
  rintro g t1 hh hf hg ⟨e7, hj⟩
  (have e1 := hf 1 (by kernel_rfl); have e2 := hf 2 (by kernel_rfl); have e3 := hf 3 (by kernel_rfl); clear hf; simp [] at e1 e2 e3)
  simp (disch := omega) [e1, e2, e3, e7]
  (with_reducible first | refine Qm (fun h1 => ?_) (fun h1 => ?_) | refine Qn (fun h1 => ?_) (fun h1 => ?_))
  · have hGg := GSys.Glt h1
    simp (disch := omega) [e1, e2, e3, e7]
    refine Qa (KY t ha hGg) (by simp) ?_
    refine Zfp (fun t h => t 27 = B (!s.le a g || !s.le b g)) ?_ ?_
    · repeat' (first
    | with_reducible refine Qa (KY t (by first | assumption | exact GSys.Gpl t _ _ | exact GSys.Gtm t _ _ | exact GSys.Glt (by assumption) | exact GSys.G0 t | exact GSys.G1 t) (by first | assumption | exact GSys.Gpl t _ _ | exact GSys.Gtm t _ _ | exact GSys.Glt (by assumption) | exact GSys.G0 t | exact GSys.G1 t)) (by simp) ?_
    | (with_reducible (first | refine Qm (fun hb_ => ?_) (fun hb_ => ?_) | refine Qn (fun hb_ => ?_) (fun hb_ => ?_)) <;> simp (disch := omega) [hb_, e1, e2, e3, e7])
    | simp (disch := omega) [e1, e2, e3, e7])
    · rintro t2 hh hf2 e8
      (have f1 := hf2 1 (by kernel_rfl); have f2 := hf2 2 (by kernel_rfl); have f3 := hf2 3 (by kernel_rfl); have f7 := hf2 7 (by kernel_rfl); clear hf2; simp [e1, e2, e3, e7] at f1 f2 f3 f7)
      simp (disch := omega) [e8]
      (with_reducible first | refine Qm (fun h3 => ?_) (fun h3 => ?_) | refine Qn (fun h3 => ?_) (fun h3 => ?_))
      · simp (disch := omega) [f7]
        all_goals (try simp only [Qf, Qd, Qi, Qh, Qc, Qb, Bool.not_true, Bool.not_false] at *)
        rw [hj, show n - g = (n - (g + 1)) + 1 by omega, Yk, if_neg (by rw [GSys.isJoin_n hn]; simp at h3; rcases h3 with h3 | h3 <;> simp [h3])]
        exact ⟨by omega, Qg (by omega), by simp⟩
      · simp (disch := omega) [f1, f2, f3, f7]
        refine Xf n 0 (fun i t _ => t 9 = N i ∧ t 8 = B (YW (fun h => s.jn a b g h) i)) (fun t h => t 8 = B (s.isJoin a b g)) (by simp) (by omega) ?_ ?_
        · rintro i t3 hh hf3 hi ⟨g9, g8⟩
          (have q1 := hf3 1 (by kernel_rfl); have q2 := hf3 2 (by kernel_rfl); have q3 := hf3 3 (by kernel_rfl); have q7 := hf3 7 (by kernel_rfl); clear hf3; simp [f1, f2, f3, f7] at q1 q2 q3 q7)
          simp (disch := omega) [q1, q2, q3, q7, g8, g9]
          repeat' (first
    | with_reducible refine Qa (KY t (by first | assumption | exact GSys.Gpl t _ _ | exact GSys.Gtm t _ _ | exact GSys.Glt (by assumption) | exact GSys.G0 t | exact GSys.G1 t) (by first | assumption | exact GSys.Gpl t _ _ | exact GSys.Gtm t _ _ | exact GSys.Glt (by assumption) | exact GSys.G0 t | exact GSys.G1 t)) (by simp) ?_
    | (with_reducible (first | refine Qm (fun hb_ => ?_) (fun hb_ => ?_) | refine Qn (fun hb_ => ?_) (fun hb_ => ?_)) <;> simp (disch := omega) [hb_, q1, q2, q3, q7, g8, g9])
    | simp (disch := omega) [q1, q2, q3, q7, g8, g9])
          all_goals (try simp only [Qf, Qd, Qi, Qh, Qc, Qb, Bool.not_true, Bool.not_false] at *)
          · refine ⟨by omega, Qg (by omega), ?_⟩
            simp_all [WA, GSys.jn]
          · refine ⟨by omega, Qg (by omega), ?_⟩
            simp_all [WA, GSys.jn]
          · refine ⟨by omega, Qg (by omega), ?_⟩
            simp_all [WA, GSys.jn]
          · refine ⟨by omega, Qg (by omega), ?_⟩
            simp_all [WA]
          · rw [GSys.isJoin_n hn, show i = n by omega]
            simp_all
        · rintro t4 hh hf4 g8
          (have q1 := hf4 1 (by kernel_rfl); have q2 := hf4 2 (by kernel_rfl); have q3 := hf4 3 (by kernel_rfl); have q7 := hf4 7 (by kernel_rfl); clear hf4; simp [f1, f2, f3, f7] at q1 q2 q3 q7)
          repeat' (first
    | (with_reducible (first | refine Qm (fun hb_ => ?_) (fun hb_ => ?_) | refine Qn (fun hb_ => ?_) (fun hb_ => ?_)) <;> simp (disch := omega) [hb_, q1, q2, q3, q7, g8])
    | simp (disch := omega) [q1, q2, q3, q7, g8])
          all_goals (try simp only [Qf, Qd, Qi, Qh, Qc, Qb, Bool.not_true, Bool.not_false] at *)
          · rw [hj, show n - g = (n - (g + 1)) + 1 by omega, Yk, if_pos hb_]
          · rw [hj, show n - g = (n - (g + 1)) + 1 by omega, Yk, if_neg (by simp [hb_])]
            exact ⟨by omega, Qg (by omega), by simp⟩
  · all_goals (try simp only [Qf, Qd, Qi, Qh, Qc, Qb, Bool.not_true, Bool.not_false] at *)
    have : g = n := by omega
    simp_all [Yk]
end
def GSys.one (s:GSys) (a:Int):Bool:=eqB (s.pl 0 a) a && eqB (s.tm 1 a) a && eqB (s.tm a 1) a && eqB (s.tm 0 a) 0 && eqB (s.tm a 0) 0 && s.le a a
def GSys.two (s:GSys) (a b:Int):Bool:=eqB (s.pl a b) (s.pl b a) && (eqB a b || !s.le a b || !s.le b a) && leB 0 (s.join a b)
section
variable {s:GSys} (t:s.Tab) {a b:Int} (ha:s.G a) (hb:s.G b)
include t ha
theorem l1One_ok:Qe Tryz.prog ZbV [s.lv,N a] (·=B (s.one a)):=by
 refine Qe.of_codeOf ZmH Qz (by simp) ⟨_,rfl,by simp⟩ ?_
 simp (disch:=omega) [Zfa,Qu,Qo]
 repeat' (first
  | with_reducible refine Qa (Zdk t (by first | assumption | exact GSys.Gpl t _ _ | exact GSys.Gtm t _ _ | exact GSys.Glt (by assumption) | exact GSys.G0 t | exact GSys.G1 t) (by first | assumption | exact GSys.Gpl t _ _ | exact GSys.Gtm t _ _ | exact GSys.Glt (by assumption) | exact GSys.G0 t | exact GSys.G1 t)) (by simp) ?_
  | with_reducible refine Qa (Kf t (by first | assumption | exact GSys.Gpl t _ _ | exact GSys.Gtm t _ _ | exact GSys.Glt (by assumption) | exact GSys.G0 t | exact GSys.G1 t) (by first | assumption | exact GSys.Gpl t _ _ | exact GSys.Gtm t _ _ | exact GSys.Glt (by assumption) | exact GSys.G0 t | exact GSys.G1 t)) (by simp) ?_
  | with_reducible refine Qa (Zb t (by first | assumption | exact GSys.Gpl t _ _ | exact GSys.Gtm t _ _ | exact GSys.Glt (by assumption) | exact GSys.G0 t | exact GSys.G1 t) (by first | assumption | exact GSys.Gpl t _ _ | exact GSys.Gtm t _ _ | exact GSys.Glt (by assumption) | exact GSys.G0 t | exact GSys.G1 t)) (by simp) ?_
  | (with_reducible (first | refine Qm (fun hb_=>?_) (fun hb_=>?_) | refine Qn (fun hb_=>?_) (fun hb_=>?_))<;>simp (disch:=omega) [hb_])
  | simp (disch:=omega))
 all_goals simp_all [GSys.one]
include hb
theorem l1Two_ok:Qe Tryz.prog Zb9 [s.lv,N a,N b] (·=B (s.two a b)):=by
 refine Qe.of_codeOf ZmI Qz (by simp) ⟨_,rfl,by simp⟩ ?_
 simp (disch:=omega) [Zf3,Qu,Qo]
 repeat' (first
  | with_reducible refine Qa (Zdk t (by first | assumption | exact GSys.Gpl t _ _ | exact GSys.Gtm t _ _ | exact GSys.Glt (by assumption) | exact GSys.G0 t | exact GSys.G1 t) (by first | assumption | exact GSys.Gpl t _ _ | exact GSys.Gtm t _ _ | exact GSys.Glt (by assumption) | exact GSys.G0 t | exact GSys.G1 t)) (by simp) ?_
  | with_reducible refine Qa (Zb t (by first | assumption | exact GSys.Gpl t _ _ | exact GSys.Gtm t _ _ | exact GSys.Glt (by assumption) | exact GSys.G0 t | exact GSys.G1 t) (by first | assumption | exact GSys.Gpl t _ _ | exact GSys.Gtm t _ _ | exact GSys.Glt (by assumption) | exact GSys.G0 t | exact GSys.G1 t)) (by simp) ?_
  | with_reducible refine Qa (ZlY t (by first | assumption | exact GSys.Gpl t _ _ | exact GSys.Gtm t _ _ | exact GSys.Glt (by assumption) | exact GSys.G0 t | exact GSys.G1 t) (by first | assumption | exact GSys.Gpl t _ _ | exact GSys.Gtm t _ _ | exact GSys.Glt (by assumption) | exact GSys.G0 t | exact GSys.G1 t)) (by simp) ?_
  | (with_reducible (first | refine Qm (fun hb_=>?_) (fun hb_=>?_) | refine Qn (fun hb_=>?_) (fun hb_=>?_))<;>simp (disch:=omega) [hb_])
  | simp (disch:=omega))
 all_goals simp_all [GSys.two]
end
def GSys.cell (s:GSys) (i:Nat):Bool:=Wh (s.plus.getD i 0) 0 (s.size - 1) && Wh (s.times.getD i 0) 0 (s.size - 1)
def GSys.tabB (s:GSys):Bool:=Wh s.size 2 16 && eqB s.plus.length (s.size * s.size) && eqB s.times.length (s.size * s.size) && eqB s.below.length (s.size * s.size) && YW s.cell s.plus.length
theorem GSys.tab_iff {s:GSys}:s.tabB=true ↔ s.Tab:=by
 simp only [GSys.tabB,Bool.and_eq_true,Wv,Qc,YV,GSys.cell]
 constructor
 ·rintro ⟨⟨⟨⟨h1,h2⟩,h3⟩,h4⟩,h5⟩
  refine ⟨h1.1,h1.2,h2,h3,h4,fun i=>?_,fun i=>?_⟩
  ·by_cases hi:i < s.plus.length
   ·have:=(h5 i hi).1;omega
   ·rw [List.getD_eq_getElem?_getD,List.getElem?_eq_none (by omega)];simp;omega
  ·by_cases hi:i < s.plus.length
   ·have:=(h5 i hi).2;omega
   ·rw [List.getD_eq_getElem?_getD,List.getElem?_eq_none (by omega)];simp;omega
 ·intro t
  refine ⟨⟨⟨⟨⟨t.lo,t.hi⟩,t.lp⟩,t.lt⟩,t.lb⟩,fun i _=>?_⟩
  have:=t.rp i;have:=t.rt i
  omega
theorem GSys.sq {s:GSys} (h:Wh s.size 2 16=true):0≤s.size * s.size∧s.size * s.size≤256∧2≤s.size∧s.size≤16:=by
 rw [Wv] at h
 have h4:s.size * s.size≤16 * 16:=Int.mul_le_mul h.2 h.2 (by omega) (by omega)
 exact ⟨Int.mul_nonneg (by omega) (by omega),by omega,h⟩
theorem ZoZ (s:GSys) (hw:s.wf):Qe Tryz.prog Vk [s.lv] (·=B s.tabB):=by
 refine Qe.of_codeOf ZhL Qz (by simp) ⟨_,rfl,by simp⟩ ?_
 simp (disch:=omega) [Zcr,Qu,Qo]
 refine Qa (ZiU _ _ _) (by simp) ?_
 simp (disch:=omega)
 (with_reducible first | refine Qm (fun h1=>?_) (fun h1=>?_) | refine Qn (fun h1=>?_) (fun h1=>?_))
 ·obtain ⟨h2,h3,h4,h5⟩:=GSys.sq (s:=s) h1
  simp (disch:=omega) [h1,Qg]
  repeat' (first
  | (with_reducible (first | refine Qm (fun hb_=>?_) (fun hb_=>?_) | refine Qn (fun hb_=>?_) (fun hb_=>?_))<;>simp (disch:=omega) [hb_,h1,Qg])
  | simp (disch:=omega) [h1,Qg])
  all_goals try (simp_all [GSys.tabB];done)
  ·rename_i g1 g2
   have e0:s.tabB=YW s.cell s.plus.length:=by simp [GSys.tabB,h1,g1,g2,hb_]
   rw [e0]
   all_goals (try simp only [Qf,Qd,Qi,Qh,Qc,Qb,Bool.not_true,Bool.not_false] at *)
   refine Wc s.plus.length 0 (fun i t _=>t 3=N i∧YW s.cell i=true) (by simp) (by omega) ?_
   rintro i t1 hh hf hi ⟨e3,hj⟩
   (have e1:=hf 1 (by kernel_rfl);clear hf;simp [] at e1)
   simp (disch:=omega) [e1,e3]
   (with_reducible first | refine Qm (fun h6=>?_) (fun h6=>?_) | refine Qn (fun h6=>?_) (fun h6=>?_))
   ·simp only [Qf,Qd,Qi,Qh,Qc,Qb,Bool.not_true,Bool.not_false] at h6
    simp (disch:=omega) [e1,e3,Qg,Xq]
    have ec:s.cell i=(Wh (s.plus[i]'(by omega)) 0 (s.size - 1) && Wh (s.times[i]'(by omega)) 0 (s.size - 1)):=by
     simp [GSys.cell,show i < s.plus.length by omega,show i < s.times.length by omega]
    repeat' (first
  | with_reducible refine Qa (ZiU _ _ _) (by simp) ?_
  | (with_reducible (first | refine Qm (fun hb_=>?_) (fun hb_=>?_) | refine Qn (fun hb_=>?_) (fun hb_=>?_))<;>simp (disch:=omega) [hb_,e1,e3,Qg,Xq])
  | simp (disch:=omega) [e1,e3,Qg,Xq])
    ·refine ⟨by omega,by simp_all [WA]⟩
    ·exact XH (p:=s.cell) (i:=i) (by omega) (by simp_all)
    ·exact XH (p:=s.cell) (i:=i) (by omega) (by simp_all)
   ·simp only [Qf,Qd,Qi,Qh,Qc,Qb,Bool.not_true,Bool.not_false] at h6
    simp (disch:=omega) [e1,e3]
    rw [← hj,show i=s.plus.length by omega]
 ·simp_all [GSys.tabB]
def GSys.sysC (s:GSys) (n:Nat) (a b:Int):Bool:=s.two a b && YW (fun c=>s.three a b c) n
def GSys.sysB (s:GSys) (n:Nat) (a:Int):Bool:=s.one a && YW (fun b=>s.sysC n a b) n
def GSys.sys (s:GSys):Bool:=s.tabB && YW (fun a=>s.sysB s.size.toNat a) s.size.toNat
theorem GSys.sys_n {s:GSys} {n:Nat} (hn:s.size=n):s.sys=(s.tabB && YW (fun a=>s.sysB n a) n):=by simp [GSys.sys,hn]
theorem GSys.sys_of {s:GSys} (h:s.sys=true):s.Tab:=GSys.tab_iff.1 (by simp [GSys.sys] at h;exact h.1)
theorem Zcn (s : GSys) (hw : s.wf) : Qe Tryz.prog JA [s.lv] (· = B s.sys) := by
  refine Qe.of_codeOf ZhJ Qz (by simp) ⟨_, rfl, by simp⟩ ?_
  simp (disch := omega) [Zcl, Qu, Qo]
  refine Qa (ZoZ s hw) (by simp) ?_
  simp (disch := omega)
  (with_reducible first | refine Qm (fun h1 => ?_) (fun h1 => ?_) | refine Qn (fun h1 => ?_) (fun h1 => ?_))
  · have t := GSys.tab_iff.1 h1
    have h2 := t.lo; have h16 := t.hi
    obtain ⟨n, hn⟩ : ∃ n : Nat, s.size = n := ⟨s.size.toNat, by omega⟩
    rw [GSys.sys_n hn, h1, Bool.true_and]
    simp (disch := omega) [h1]
    refine Wc n 0 (fun a t _ => t 3 = N a ∧ YW (fun a => s.sysB n a) a = true) (by simp) (by omega) ?_
    rintro a t1 hh hf ha ⟨e3, hj⟩
    (have e1 := hf 1 (by kernel_rfl); clear hf; simp [] at e1)
    simp (disch := omega) [e1, e3]
    (with_reducible first | refine Qm (fun h3 => ?_) (fun h3 => ?_) | refine Qn (fun h3 => ?_) (fun h3 => ?_))
    · have hGa := GSys.Glt h3
      simp only [Qf, Qd, Qi, Qh, Qc, Qb, Bool.not_true, Bool.not_false] at h3
      simp (disch := omega) [e1, e3]
      refine Qa (l1One_ok t hGa) (by simp) ?_
      simp (disch := omega) [e1, e3]
      (with_reducible first | refine Qm (fun h4 => ?_) (fun h4 => ?_) | refine Qn (fun h4 => ?_) (fun h4 => ?_))
      · simp (disch := omega) [e1, e3]
        refine Xf n 0 (fun b t _ => t 4 = N b ∧ YW (fun b => s.sysC n a b) b = true) (fun t h => YW (fun b => s.sysC n a b) n = true) (by simp) (by omega) ?_ ?_
        · rintro b t2 hh hf2 hb ⟨e4, hj2⟩
          (have f1 := hf2 1 (by kernel_rfl); have f3 := hf2 3 (by kernel_rfl); clear hf2; simp [e1, e3] at f1 f3)
          simp (disch := omega) [f1, f3, e4]
          (with_reducible first | refine Qm (fun h5 => ?_) (fun h5 => ?_) | refine Qn (fun h5 => ?_) (fun h5 => ?_))
          · have hGb := GSys.Glt h5
            simp only [Qf, Qd, Qi, Qh, Qc, Qb, Bool.not_true, Bool.not_false] at h5
            simp (disch := omega) [f1, f3, e4]
            refine Qa (l1Two_ok t hGa hGb) (by simp) ?_
            simp (disch := omega) [f1, f3, e4]
            (with_reducible first | refine Qm (fun h6 => ?_) (fun h6 => ?_) | refine Qn (fun h6 => ?_) (fun h6 => ?_))
            · simp (disch := omega) [f1, f3, e4]
              refine Xf n 0 (fun c t _ => t 5 = N c ∧ YW (fun c => s.three a b c) c = true) (fun t h => YW (fun c => s.three a b c) n = true) (by simp) (by omega) ?_ ?_
              · rintro c t3 hh hf3 hc ⟨e5, hj3⟩
                (have g1 := hf3 1 (by kernel_rfl); have g3 := hf3 3 (by kernel_rfl); have g4 := hf3 4 (by kernel_rfl); clear hf3; simp [f1, f3, e4] at g1 g3 g4)
                simp (disch := omega) [g1, g3, g4, e5]
                (with_reducible first | refine Qm (fun h7 => ?_) (fun h7 => ?_) | refine Qn (fun h7 => ?_) (fun h7 => ?_))
                · have hGc := GSys.Glt h7
                  simp only [Qf, Qd, Qi, Qh, Qc, Qb, Bool.not_true, Bool.not_false] at h7
                  simp (disch := omega) [g1, g3, g4, e5]
                  repeat' (first
    | with_reducible refine Qa (Zo5 t hGa hGb hGc) (by simp) ?_
    | (with_reducible (first | refine Qm (fun hb_ => ?_) (fun hb_ => ?_) | refine Qn (fun hb_ => ?_) (fun hb_ => ?_)) <;> simp (disch := omega) [hb_, g1, g3, g4, e5])
    | simp (disch := omega) [g1, g3, g4, e5])
                  · refine ⟨by omega, Qg (by omega), by simp [WA, hj3, hb_]⟩
                  · exact XH (i := a) (by omega) (by simp [GSys.sysB, h4, XH (p := fun b => s.sysC n a b) (i := b) (n := n) (by omega) (by simp [GSys.sysC, h6, XH (p := fun c => s.three a b c) (i := c) (n := n) (by omega) (by simpa using hb_)])])
                · simp only [Qf, Qd, Qi, Qh, Qc, Qb, Bool.not_true, Bool.not_false] at h7
                  simp (disch := omega) [g1, g3, g4, e5]
                  rw [← hj3, show c = n by omega]
              · rintro t4 hh hf4 hj3
                (have g1 := hf4 1 (by kernel_rfl); have g3 := hf4 3 (by kernel_rfl); have g4 := hf4 4 (by kernel_rfl); clear hf4; simp [f1, f3, e4] at g1 g3 g4)
                simp (disch := omega) [g1, g3, g4]
                exact ⟨by omega, Qg (by omega), by simp [WA, hj2, show s.sysC n a b = true by simp [GSys.sysC, h6, hj3]]⟩
            · simp (disch := omega)
              exact XH (i := a) (by omega) (by simp [GSys.sysB, h4, XH (p := fun b => s.sysC n a b) (i := b) (n := n) (by omega) (by simp_all [GSys.sysC])])
          · simp only [Qf, Qd, Qi, Qh, Qc, Qb, Bool.not_true, Bool.not_false] at h5
            simp (disch := omega) [f1, f3, e4]
            rw [← hj2, show b = n by omega]
        · rintro t2 hh hf2 hj2
          (have f1 := hf2 1 (by kernel_rfl); have f3 := hf2 3 (by kernel_rfl); clear hf2; simp [e1, e3] at f1 f3)
          simp (disch := omega) [f1, f3]
          exact ⟨by omega, Qg (by omega), by simp [WA, hj, show s.sysB n a = true by simp [GSys.sysB, h4, hj2]]⟩
      · simp (disch := omega)
        exact XH (i := a) (by omega) (by simp_all [GSys.sysB])
    · simp only [Qf, Qd, Qi, Qh, Qc, Qb, Bool.not_true, Bool.not_false] at h3
      simp (disch := omega) [e1, e3]
      rw [← hj, show a = n by omega]
  · simp_all [GSys.sys]
theorem ZhD (s : GSys) (hw : s.wf) : Qe Tryz.prog Vg [s.lv] (· = B s.sys) := by
  refine Qe.of_codeOf ZhQ Qz (by simp) ⟨_, rfl, by simp⟩ ?_
  simp (disch := omega) [Zci, Qu, Qo]
  refine Qa (JR _ _ _) (by simp) ?_
  simp (disch := omega)
  (with_reducible first | refine Qm (fun h1 => ?_) (fun h1 => ?_) | refine Qn (fun h1 => ?_) (fun h1 => ?_))
  · obtain ⟨h2, h3, h4, h5⟩ := GSys.sq (s := s) h1
    simp (disch := omega) [h1, Qg]
    repeat' (first
    | (with_reducible (first | refine Qm (fun hb_ => ?_) (fun hb_ => ?_) | refine Qn (fun hb_ => ?_) (fun hb_ => ?_)) <;> simp (disch := omega) [hb_, h1, Qg])
    | simp (disch := omega) [h1, Qg])
    all_goals try (simp_all [GSys.tabB, GSys.sys]; done)
    · rename_i g1 g2
      have e0 : s.tabB = YW s.cell s.plus.length := by simp [GSys.tabB, h1, g1, g2, hb_]
      all_goals (try simp only [Qf, Qd, Qi, Qh, Qc, Qb, Bool.not_true, Bool.not_false] at *)
      refine Xf s.plus.length 0 (fun i t _ => t 43 = N i ∧ YW s.cell i = true) (fun _ _ => s.tabB = true) (by simp) (by omega) ?_ ?_
      · rintro i t1 hh hf hi ⟨e3, hj⟩
        (have e1 := hf 1 (by kernel_rfl); have e42 := hf 42 (by kernel_rfl); clear hf; simp [] at e1 e42)
        simp (disch := omega) [e1, e42, e3]
        (with_reducible first | refine Qm (fun h6 => ?_) (fun h6 => ?_) | refine Qn (fun h6 => ?_) (fun h6 => ?_))
        · simp only [Qf, Qd, Qi, Qh, Qc, Qb, Bool.not_true, Bool.not_false] at h6
          simp (disch := omega) [e1, e3, e42, Qg, Xq]
          have ec : s.cell i = (Wh (s.plus[i]'(by omega)) 0 (s.size - 1) && Wh (s.times[i]'(by omega)) 0 (s.size - 1)) := by
            simp [GSys.cell, show i < s.plus.length by omega, show i < s.times.length by omega]
          have hlo : -9223372036854775808 < s.size := by omega
          have hI : I64 s.size := hw.1
          repeat' (first
    | with_reducible refine Qa (ZpW s hI hlo _) (by simp) ?_
    | (with_reducible (first | refine Qm (fun hb_ => ?_) (fun hb_ => ?_) | refine Qn (fun hb_ => ?_) (fun hb_ => ?_)) <;> simp (disch := omega) [hb_, e1, e3, e42, Qg, Xq])
    | simp (disch := omega) [e1, e3, e42, Qg, Xq])
          · refine ⟨by omega, by simp_all [WA]⟩
          · simp only [GSys.sys, e0, XH (p := s.cell) (i := i) (n := s.plus.length) (by omega) (by simp_all)]; simp
          · simp only [GSys.sys, e0, XH (p := s.cell) (i := i) (n := s.plus.length) (by omega) (by simp_all)]; simp
        · simp only [Qf, Qd, Qi, Qh, Qc, Qb, Bool.not_true, Bool.not_false] at h6
          simp (disch := omega) [e1, e3, e42]
          rw [e0, ← hj, show i = s.plus.length by omega]
      · rintro t0 hh hf0 ht
        (have d1 := hf0 1 (by kernel_rfl); have d3 := hf0 3 (by kernel_rfl); clear hf0; simp [] at d1 d3)
        simp (disch := omega) [d1, d3]
        have t := GSys.tab_iff.1 ht
        obtain ⟨n, hn⟩ : ∃ n : Nat, s.size = n := ⟨s.size.toNat, by omega⟩
        rw [GSys.sys_n hn, ht, Bool.true_and]
        refine Wc n 0 (fun a t _ => t 5 = N a ∧ YW (fun a => s.sysB n a) a = true) (by simp) (by omega) ?_
        rintro a t1 hh hf ha ⟨e5, hj⟩
        (have e1 := hf 1 (by kernel_rfl); have e3 := hf 3 (by kernel_rfl); clear hf; simp [d1, d3] at e1 e3)
        simp (disch := omega) [e1, e3, e5]
        (with_reducible first | refine Qm (fun h6 => ?_) (fun h6 => ?_) | refine Qn (fun h6 => ?_) (fun h6 => ?_))
        · have hGa := GSys.Glt h6
          simp only [Qf, Qd, Qi, Qh, Qc, Qb, Bool.not_true, Bool.not_false] at h6
          simp (disch := omega) [e1, e3, e5]
          refine Qa (ZdB t (GSys.G0 t) hGa) (by simp) ?_
          refine Zfp (fun t h => t 107 = B (!s.one a)) ?_ ?_
          · repeat' (first
    | with_reducible refine Qa (Jr t (by first | assumption | exact GSys.Gpl t _ _ | exact GSys.Gtm t _ _ | exact GSys.Glt (by assumption) | exact GSys.G0 t | exact GSys.G1 t) (by first | assumption | exact GSys.Gpl t _ _ | exact GSys.Gtm t _ _ | exact GSys.Glt (by assumption) | exact GSys.G0 t | exact GSys.G1 t)) (by simp) ?_
    | with_reducible refine Qa (KY t (by first | assumption | exact GSys.Gpl t _ _ | exact GSys.Gtm t _ _ | exact GSys.Glt (by assumption) | exact GSys.G0 t | exact GSys.G1 t) (by first | assumption | exact GSys.Gpl t _ _ | exact GSys.Gtm t _ _ | exact GSys.Glt (by assumption) | exact GSys.G0 t | exact GSys.G1 t)) (by simp) ?_
    | (with_reducible (first | refine Qm (fun hb_ => ?_) (fun hb_ => ?_) | refine Qn (fun hb_ => ?_) (fun hb_ => ?_)) <;> simp (disch := omega) [hb_, e1, e3, e5])
    | simp (disch := omega) [e1, e3, e5])
            all_goals simp_all [GSys.one]
          · rintro t2 hh hf e107
            (have f1 := hf 1 (by kernel_rfl); have f3 := hf 3 (by kernel_rfl); have f5 := hf 5 (by kernel_rfl); clear hf; simp [e1, e3, e5] at f1 f3 f5)
            simp (disch := omega) [e107]
            (with_reducible first | refine Qm (fun h7 => ?_) (fun h7 => ?_) | refine Qn (fun h7 => ?_) (fun h7 => ?_))
            · simp (disch := omega)
              refine Xf n 0 (fun b t _ => t 6 = N b ∧ YW (fun b => s.sysC n a b) b = true) (fun t h => YW (fun b => s.sysC n a b) n = true) (by simp) (by omega) ?_ ?_
              · rintro b t3 hh hf hb ⟨g6, hj2⟩
                (have g1 := hf 1 (by kernel_rfl); have g3 := hf 3 (by kernel_rfl); have g5 := hf 5 (by kernel_rfl); clear hf; simp [f1, f3, f5] at g1 g3 g5)
                simp (disch := omega) [g1, g3, g5, g6]
                (with_reducible first | refine Qm (fun h8 => ?_) (fun h8 => ?_) | refine Qn (fun h8 => ?_) (fun h8 => ?_))
                · have hGb := GSys.Glt h8
                  simp only [Qf, Qd, Qi, Qh, Qc, Qb, Bool.not_true, Bool.not_false] at h8
                  simp (disch := omega) [g1, g3, g5, g6]
                  refine Qa (ZdB t hGa hGb) (by simp) ?_
                  refine Zfp (fun t h => t 145 = B (!s.two a b)) ?_ ?_
                  · repeat' (first
    | with_reducible refine Qa (ZdB t (by first | assumption | exact GSys.Gpl t _ _ | exact GSys.Gtm t _ _ | exact GSys.Glt (by assumption) | exact GSys.G0 t | exact GSys.G1 t) (by first | assumption | exact GSys.Gpl t _ _ | exact GSys.Gtm t _ _ | exact GSys.Glt (by assumption) | exact GSys.G0 t | exact GSys.G1 t)) (by simp) ?_
    | with_reducible refine Qa (KY t (by first | assumption | exact GSys.Gpl t _ _ | exact GSys.Gtm t _ _ | exact GSys.Glt (by assumption) | exact GSys.G0 t | exact GSys.G1 t) (by first | assumption | exact GSys.Gpl t _ _ | exact GSys.Gtm t _ _ | exact GSys.Glt (by assumption) | exact GSys.G0 t | exact GSys.G1 t)) (by simp) ?_
    | with_reducible refine Qa (ZqM t (by first | assumption | exact GSys.Gpl t _ _ | exact GSys.Gtm t _ _ | exact GSys.Glt (by assumption) | exact GSys.G0 t | exact GSys.G1 t) (by first | assumption | exact GSys.Gpl t _ _ | exact GSys.Gtm t _ _ | exact GSys.Glt (by assumption) | exact GSys.G0 t | exact GSys.G1 t)) (by simp) ?_
    | (with_reducible (first | refine Qm (fun hb_ => ?_) (fun hb_ => ?_) | refine Qn (fun hb_ => ?_) (fun hb_ => ?_)) <;> simp (disch := omega) [hb_, g1, g3, g5, g6])
    | simp (disch := omega) [g1, g3, g5, g6])
                    all_goals simp_all [GSys.two, ZbN]
                  · rintro t4 hh hf e145
                    (have q1 := hf 1 (by kernel_rfl); have q3 := hf 3 (by kernel_rfl); have q5 := hf 5 (by kernel_rfl); have q6 := hf 6 (by kernel_rfl); clear hf; simp [g1, g3, g5, g6] at q1 q3 q5 q6)
                    simp (disch := omega) [e145]
                    (with_reducible first | refine Qm (fun h9 => ?_) (fun h9 => ?_) | refine Qn (fun h9 => ?_) (fun h9 => ?_))
                    · simp (disch := omega)
                      refine Xf n 0 (fun c t _ => t 7 = N c ∧ YW (fun c => s.three a b c) c = true) (fun t h => YW (fun c => s.three a b c) n = true) (by simp) (by omega) ?_ ?_
                      · rintro c t3 hh hf hc ⟨r7, hj3⟩
                        (have r1 := hf 1 (by kernel_rfl); have r3 := hf 3 (by kernel_rfl); have r5 := hf 5 (by kernel_rfl); have r6 := hf 6 (by kernel_rfl); clear hf; simp [q1, q3, q5, q6] at r1 r3 r5 r6)
                        simp (disch := omega) [r1, r3, r5, r6, r7]
                        (with_reducible first | refine Qm (fun h10 => ?_) (fun h10 => ?_) | refine Qn (fun h10 => ?_) (fun h10 => ?_))
                        · have hGc := GSys.Glt h10
                          simp only [Qf, Qd, Qi, Qh, Qc, Qb, Bool.not_true, Bool.not_false] at h10
                          simp (disch := omega) [r1, r3, r5, r6, r7]
                          repeat' (first
    | with_reducible refine Qa (ZqP t hGa hGb hGc) (by simp) ?_
    | (with_reducible (first | refine Qm (fun hb_ => ?_) (fun hb_ => ?_) | refine Qn (fun hb_ => ?_) (fun hb_ => ?_)) <;> simp (disch := omega) [hb_, r1, r3, r5, r6, r7])
    | simp (disch := omega) [r1, r3, r5, r6, r7])
                          · refine ⟨by omega, Qg (by omega), by simp [WA, hj3, hb_]⟩
                          · exact XH (i := a) (by omega) (by simp [GSys.sysB, h7, XH (p := fun b => s.sysC n a b) (i := b) (n := n) (by omega) (by simp [GSys.sysC, h9, XH (p := fun c => s.three a b c) (i := c) (n := n) (by omega) (by simpa using hb_)])])
                        · simp only [Qf, Qd, Qi, Qh, Qc, Qb, Bool.not_true, Bool.not_false] at h10
                          simp (disch := omega)
                          rw [← hj3, show c = n by omega]
                      · rintro t4 hh hf hj3
                        (have r1 := hf 1 (by kernel_rfl); have r3 := hf 3 (by kernel_rfl); have r5 := hf 5 (by kernel_rfl); have r6 := hf 6 (by kernel_rfl); clear hf; simp [q1, q3, q5, q6] at r1 r3 r5 r6)
                        simp (disch := omega) [r1, r3, r5, r6]
                        exact ⟨by omega, Qg (by omega), by simp [WA, hj2, show s.sysC n a b = true by simp [GSys.sysC, h9, hj3]]⟩
                    · simp (disch := omega)
                      exact XH (i := a) (by omega) (by simp [GSys.sysB, h7, XH (p := fun b => s.sysC n a b) (i := b) (n := n) (by omega) (by simp_all [GSys.sysC])])
                · simp only [Qf, Qd, Qi, Qh, Qc, Qb, Bool.not_true, Bool.not_false] at h8
                  simp (disch := omega)
                  rw [← hj2, show b = n by omega]
              · rintro t4 hh hf hj2
                (have r1 := hf 1 (by kernel_rfl); have r3 := hf 3 (by kernel_rfl); have r5 := hf 5 (by kernel_rfl); clear hf; simp [f1, f3, f5] at r1 r3 r5)
                simp (disch := omega) [r1, r3, r5]
                exact ⟨by omega, Qg (by omega), by simp [WA, hj, show s.sysB n a = true by simp [GSys.sysB, h7, hj2]]⟩
            · simp (disch := omega)
              exact XH (i := a) (by omega) (by simp_all [GSys.sysB])
        · simp only [Qf, Qd, Qi, Qh, Qc, Qb, Bool.not_true, Bool.not_false] at h6
          simp (disch := omega)
          rw [← hj, show a = n by omega]
  · simp_all [GSys.tabB, GSys.sys]
def numB (nv size:Int) (closed:Bool) (op n:Int):Bool :=
 if eqB op 0=true then Wh n 0 (nv - 1) else if eqB op 1=true then Wh n 0 2 else if Yd op=true then ltB n size && (leB (-1) n && (!closed || leB 0 n)) else eqB n 0
def tyB (size:Int) (closed:Bool) (op:Int) (ty:List Int):Bool:=if XC op=true then wty ty && ZY size closed ty else eqB ty.length 0
def Zeq (nv size:Int) (closed:Bool) (op n:Int) (ty:List Int) (len:Nat):Bool:=eqB len (Xp op) && (numB nv size closed op n && tyB size closed op ty)
mutual
def Zk (nv size:Int) (closed:Bool):GTerm→Bool
 | .mk op n _ ty _ ks=>Zeq nv size closed op n ty ks.length && Z9 nv size closed op 0 ks
def Z9 (nv size:Int) (closed:Bool) (op:Int) (k:Nat):List GTerm→Bool
 | []=>true
 | t::ts=>Zk (nv+Qy op k) size closed t && Z9 nv size closed op (k+1) ts
end
theorem ZrE (nv size:Int) (closed:Bool) (t:GTerm) (hw:t.wf) (hs:I64 size) (hv:0≤nv∧nv≤1000000) :
  Qe Tryz.prog ZaK [t.lv,N nv,N size,B closed] (·=B (match t with | .mk op n _ ty _ ks=>Zeq nv size closed op n ty ks.length)):=by
 obtain ⟨op,n,nl1,ty,nl2,ks⟩:=t
 simp only [GTerm.wf] at hw
 obtain ⟨hop,hn,hty,hk,hks⟩:=hw
 refine Qe.of_codeOf Zkr Qz (by simp) ⟨_,rfl,by simp⟩ ?_
 simp (disch:=omega) [Zei,Qu,Qo,GTerm.cells]
 repeat' (first
  | with_reducible refine Qa (Zrn op) (by simp) ?_
  | with_reducible refine Qa (ZiU _ _ _) (by simp) ?_
  | with_reducible refine Qa (Zoy op) (by simp) ?_
  | with_reducible refine Qa (Zpn op) (by simp) ?_
  | with_reducible refine Qa (Zlq nl1 ty hty) (by simp) ?_
  | with_reducible refine Qa (ZgY nl1 ty hty size hs _) (by simp) ?_
  | (with_reducible (first | refine Qm (fun hb_=>?_) (fun hb_=>?_) | refine Qn (fun hb_=>?_) (fun hb_=>?_))<;>simp (disch:=omega) [hb_,Qg])
  | simp (disch:=omega) [Qg])
 all_goals simp_all [Zeq,numB,tyB,ZbN]
theorem Zrm:∀ (d:Nat) (t:GTerm),t.size≤d→t.wf→∀ left:Int,0≤left→left≤1000000→Qe Tryz.prog KN [t.lv,N left] (·=N (XG t.size left)):=by
 intro d
 induction d with
 | zero=>intro t h;have:=t.size_pos;omega
 | succ d ih =>
  rintro ⟨op,n,nl1,ty,nl2,ks⟩ hd hw left h0 h1
  simp only [GTerm.wf] at hw
  obtain ⟨hop,hn,hty,hk,hks⟩:=hw
  simp only [GTerm.size,GTerm.lv,GTerm.cells] at hd ⊢
  refine Qe.of_codeOf Zkh Qz (by simp) ⟨_,rfl,by simp⟩ ?_
  simp (disch:=omega) [Zd1,Qu,Qo,GTerm.cells,Qg]
  refine Wc ks.length 0 (fun i t _=>∃ m:Int,t 5=N i∧t 1=N m∧-1≤m∧m≤left∧XG (Xb ks+1) left=XG (Xb (ks.drop i)) m) ⟨left - 1,by simp,by simp,by omega,by omega,by unfold XG;simp;split<;>split<;>omega⟩ (by omega) ?_
  rintro i t1 hh hf hi ⟨m,e5,e1,hm,hml,he⟩
  (have e2:=hf 2 (by kernel_rfl);clear hf;simp [] at e2)
  simp (disch:=omega) [e1,e2,e5]
  (with_reducible first | refine Qm (fun h6=>?_) (fun h6=>?_) | refine Qn (fun h6=>?_) (fun h6=>?_))
  ·simp (disch:=omega) [e1,e2,e5,h6]
   simp only [Qf,Qd,Qi,Qh,Qc,Qb,Bool.not_true,Bool.not_false] at h6
   have hsd:=ZeH (ks:=ks) (i:=i) (by omega)
   have hsk:=Yx (ks:=ks) (i:=i) (by omega)
   have hwk:(ks[i]'(by omega)).wf:=ZaC.1 hks _ (List.getElem_mem _)
   (with_reducible first | refine Qm (fun h7=>?_) (fun h7=>?_) | refine Qn (fun h7=>?_) (fun h7=>?_))
   ·simp only [Qf,Qd,Qi,Qh,Qc,Qb,Bool.not_true,Bool.not_false] at h7
    have hc:=ih (ks[i]'(by omega)) (by omega) hwk m h7 (by omega)
    simp (disch:=omega) [e1,e2,e5,WO]
    repeat' (first
  | with_reducible refine Qa (hc) (by simp) ?_
  | (with_reducible (first | refine Qm (fun hb_=>?_) (fun hb_=>?_) | refine Qn (fun hb_=>?_) (fun hb_=>?_))<;>simp (disch:=omega) [hb_,e1,e2,e5])
  | simp (disch:=omega) [e1,e2,e5])
    rw [he,hsd]
    refine ⟨by omega,Qg (by omega),?_⟩
    unfold XG;repeat' split
    all_goals omega
   ·simp only [Qf,Qd,Qi,Qh,Qc,Qb,Bool.not_true,Bool.not_false] at h7
    simp (disch:=omega) [e1,e2,e5]
    rw [he,show m=-1 by omega];unfold XG;split<;>omega
  ·simp (disch:=omega) [e1,e2,e5,h6]
   simp only [Qf,Qd,Qi,Qh,Qc,Qb,Bool.not_true,Bool.not_false] at h6
   rw [he,show i=ks.length by omega,List.drop_length];simp [Xb,XG];try omega
theorem Zq9 (size:Int) (closed:Bool) (hs:I64 size):∀ (d:Nat) (t:GTerm),t.size≤d→t.wf→∀ nv:Int,0≤nv→nv+2 * t.size≤1000000→Qe Tryz.prog KP [t.lv,N nv,N size,B closed] (·=B (Zk nv size closed t)):=by
 intro d
 induction d with
 | zero=>intro t h;have:=t.size_pos;omega
 | succ d ih =>
  rintro ⟨op,n,nl1,ty,nl2,ks⟩ hd hw nv h0 h1
  have hN:=ZrE nv size closed (.mk op n nl1 ty nl2 ks) hw hs ⟨h0,by omega⟩
  simp only [GTerm.wf] at hw
  obtain ⟨hop,hn,hty,hk,hks⟩:=hw
  simp only [GTerm.size,GTerm.lv,GTerm.cells] at hd h1 hN ⊢
  refine Qe.of_codeOf ZkK Qz (by simp) ⟨_,rfl,by simp⟩ ?_
  simp (disch:=omega) [Zer,Qu,Qo,GTerm.cells]
  refine Qa hN (by simp) ?_
  simp (disch:=omega)
  (with_reducible first | refine Qm (fun h3=>?_) (fun h3=>?_) | refine Qn (fun h3=>?_) (fun h3=>?_))
  ·simp (disch:=omega)
   refine Wc ks.length 0 (fun i t _=>t 9=N i∧Zk nv size closed (.mk op n nl1 ty nl2 ks)=Z9 nv size closed op i (ks.drop i)) (by simp [Zk,h3]) (by omega) ?_
   rintro i t1 hh hf hi ⟨e9,he⟩
   (have e1:=hf 1 (by kernel_rfl);have e2:=hf 2 (by kernel_rfl);have e3:=hf 3 (by kernel_rfl);have e4:=hf 4 (by kernel_rfl);clear hf;simp [] at e1 e2 e3 e4)
   simp (disch:=omega) [e1,e2,e3,e4,e9]
   (with_reducible first | refine Qm (fun h6=>?_) (fun h6=>?_) | refine Qn (fun h6=>?_) (fun h6=>?_))
   ·simp only [Qf,Qd,Qi,Qh,Qc,Qb,Bool.not_true,Bool.not_false] at h6
    have hsk:=Yx (ks:=ks) (i:=i) (by omega)
    have hwk:(ks[i]'(by omega)).wf:=ZaC.1 hks _ (List.getElem_mem _)
    have hA:0≤Qy op i∧Qy op i≤2:=by (unfold Qy;repeat' split)<;>omega
    have hc:=ih (ks[i]'(by omega)) (by omega) hwk (nv+Qy op i) (by omega) (by omega)
    have hfd:Z9 nv size closed op i (ks.drop i)=(Zk (nv+Qy op i) size closed (ks[i]'(by omega)) && Z9 nv size closed op (i+1) (ks.drop (i+1))):=by
     rw [List.drop_eq_getElem_cons (by omega),Z9]
    simp (disch:=omega) [e1,e2,e3,e4,e9,WO]
    repeat' (first
  | with_reducible refine Qa (Zrd op i) (by simp) ?_
  | with_reducible refine Qa (hc) (by simp) ?_
  | (with_reducible (first | refine Qm (fun hb_=>?_) (fun hb_=>?_) | refine Qn (fun hb_=>?_) (fun hb_=>?_))<;>simp (disch:=omega) [hb_,e1,e2,e3,e4,e9,Qg])
  | simp (disch:=omega) [e1,e2,e3,e4,e9,Qg])
    ·exact ⟨by omega,by rw [he,hfd,hb_,Bool.true_and]⟩
    ·rw [he,hfd,hb_,Bool.false_and]
   ·simp only [Qf,Qd,Qi,Qh,Qc,Qb,Bool.not_true,Bool.not_false] at h6
    simp (disch:=omega) [e1,e2]
    rw [he,show i=ks.length by omega,List.drop_length];simp [Z9]
  ·simp (disch:=omega)
   simp [Zk,h3]
set_option linter.unusedSectionVars false
def FnB (P:Program) (f v:LV) (b:Bool):Prop:=∃ fid vals,ZD f [v]=some (fid,vals)∧QG 0 vals∧Qe P fid vals (·=B b)
theorem Zjc {P:Program} {f v:LV} {b:Bool} {d:Nat} {K:St→Prop} {s:St} (h:FnB P f v b) (hk:K { t:=upd s.t d (B b),h:=s.h }):onFn P .no f [v] (some d) K s:=by
 obtain ⟨fid,vals,h1,h2,h3⟩:=h
 exact ⟨fid,vals,h1,Qa (rw:=.no) h3 h2 hk⟩
def numG (pg:Int→Bool) (nv:Int) (op n:Int):Bool :=
 if eqB op 0=true then Wh n 0 (nv - 1) else if eqB op 1=true then Wh n 0 2 else if Yd op=true then pg n else eqB n 0
def tyG (pt:List Int→Bool) (op:Int) (ty:List Int):Bool:=if XC op=true then pt ty else eqB ty.length 0
def ZjD (pg:Int→Bool) (pt:List Int→Bool) (nv:Int) (op n:Int) (ty:List Int) (len:Nat):Bool:=eqB len (Xp op) && (numG pg nv op n && tyG pt op ty)
mutual
def Zd6 (pg:Int→Bool) (pt:List Int→Bool) (nv:Int):GTerm→Bool
 | .mk op n _ ty _ ks=>ZjD pg pt nv op n ty ks.length && Za4 pg pt nv op 0 ks
def Za4 (pg:Int→Bool) (pt:List Int→Bool) (nv:Int) (op:Int) (k:Nat):List GTerm→Bool
 | []=>true
 | t::ts=>Zd6 pg pt (nv+Qy op k) t && Za4 pg pt nv op (k+1) ts
end
section
variable {pg:Int→Bool} {pt:List Int→Bool} {size:Int} {closed:Bool} (hg:∀ n,pg n=(ltB n size && (leB (-1) n && (!closed || leB 0 n)))) (ht:∀ ty,pt ty=(wty ty && ZY size closed ty))
include hg ht
mutual
theorem Zor:∀ (t:GTerm) (nv:Int),Zd6 pg pt nv t=Zk nv size closed t
 | .mk op n nl1 ty nl2 ks,nv=>by
  simp only [Zd6,Zk,Zly ks,ZjD,Zeq,numG,numB,tyG,tyB,hg,ht]
theorem Zly:∀ (ks:List GTerm) (nv op:Int) (k:Nat),Za4 pg pt nv op k ks=Z9 nv size closed op k ks
 | [],_,_,_=>by simp [Za4,Z9]
 | t::ts,nv,op,k=>by simp only [Za4,Z9,Zor t,Zly ts]
end
end
def Zgo (f:Bool) (nodes:Int) (sz:Nat):Int:=if f=true∧nodes+sz≤400 then nodes+sz else 401
theorem ZlF {op:Int} (h:Wh op 0 12=false):Xp op=-1:=by
 rw [ZfB] at h
 unfold Xp;repeat' split
 all_goals omega
theorem ZpE {op:Int} {n:Nat} (h:eqB n (Xp op)=true):Wh op 0 12=true:=by
 cases hc:Wh op 0 12 with
 | true=>rfl
 | false=>rw [ZlF hc,Qc] at h;omega
theorem check_ok (fg ft : LV) (pg : Int → Bool) (pt : List Int → Bool) (sg : share fg = fg) (st : share ft = ft) (lg : Low 0 fg) (lt : Low 0 ft)
    (hg : ∀ n, I64 n → FnB Tryz.prog fg (N n) (pg n)) (ht : ∀ nl ty, Lok ty → FnB Tryz.prog ft (L nl ty) (pt ty)) : ∀ (d : Nat) (t : GTerm), t.size ≤ d → t.wf → ∀ nv nodes : Int, 0 ≤ nodes → nodes ≤ 400 → 0 ≤ nv → nv ≤ 8 + 2 * nodes →
    Qe Tryz.prog VG [t.lv, N nv, fg, ft, N nodes] (· = N (Zgo (Zd6 pg pt nv t) nodes t.size)) := by
  intro d
  induction d with
  | zero => intro t h; have := t.size_pos; omega
  | succ d ih =>
    rintro ⟨op, n, nl1, ty, nl2, ks⟩ hd hw nv nodes h0 h1 h2 h3
    simp only [GTerm.wf] at hw
    obtain ⟨hop, hn, hty, hk, hks⟩ := hw
    simp only [GTerm.size, GTerm.lv, GTerm.cells] at hd ⊢
    refine Qe.of_codeOf ZmK Qz (by simp) ⟨_, rfl, by simp⟩ ?_
    simp (disch := omega) [ZfH, Qu, Qo, GTerm.cells, Qg, sg, st]
    refine Qa (Zq8 op) (by simp) ?_
    by_cases hf : Wh op 0 12 = true
    · rw [Zii, if_pos hf]
      simp (disch := omega) [sg, st]
      (with_reducible first | refine Qm (fun h4 => ?_) (fun h4 => ?_) | refine Qn (fun h4 => ?_) (fun h4 => ?_))
      · simp (disch := omega) [h4]
        simp only [Qf, Qd, Qi, Qh, Qc, Qb, Bool.not_true, Bool.not_false] at h4
        unfold Zgo; rw [if_neg (by omega)]
      · simp (disch := omega) [h4]
        simp only [Qf, Qd, Qi, Qh, Qc, Qb, Bool.not_true, Bool.not_false] at h4
        (with_reducible first | refine Qm (fun h5 => ?_) (fun h5 => ?_) | refine Qn (fun h5 => ?_) (fun h5 => ?_))
        · simp only [wpC_skip, Zmd]
          refine Zb7 (fun t h => t 12 = B (numG pg nv op n) ∧ h[1]? = some (some [wordV op, N (Xp op), B (Yd op), B (XC op)])) ?_ ?_
          · repeat' (first
    | with_reducible refine Qa (JR _ _ _) (by simp) ?_
    | with_reducible refine Zjc (hg n hn) ?_
    | (with_reducible (first | refine Qm (fun hb_ => ?_) (fun hb_ => ?_) | refine Qn (fun hb_ => ?_) (fun hb_ => ?_)) <;> simp (disch := omega) [hb_, sg, st, Qg])
    | simp (disch := omega) [sg, st, Qg])
            all_goals simp_all [numG]
          · rintro t1 hh hf1 ⟨e12, eh⟩
            (have e1 := hf1 1 (by kernel_rfl); have e2 := hf1 2 (by kernel_rfl); have e3 := hf1 3 (by kernel_rfl); have e4 := hf1 4 (by kernel_rfl); have e5 := hf1 5 (by kernel_rfl); have e11 := hf1 11 (by kernel_rfl); clear hf1; simp [sg, st] at e1 e2 e3 e4 e5 e11)
            obtain ⟨q, hq⟩ : ∃ q, (numG pg nv op n && tyG pt op ty) = q := ⟨_, rfl⟩
            refine Zb7 (fun t h => t 12 = B q) ?_ ?_
            · repeat' (first
    | with_reducible refine Zjc (ht nl1 ty hty) ?_
    | (with_reducible (first | refine Qm (fun hb_ => ?_) (fun hb_ => ?_) | refine Qn (fun hb_ => ?_) (fun hb_ => ?_)) <;> simp (disch := omega) [hb_, sg, st, e1, e2, e3, e4, e5, e11, e12, eh])
    | simp (disch := omega) [sg, st, e1, e2, e3, e4, e5, e11, e12, eh])
              all_goals rw [← hq]
              all_goals simp_all [tyG]
            · rintro t2 hh hf1 f12
              (have f1 := hf1 1 (by kernel_rfl); have f2 := hf1 2 (by kernel_rfl); have f3 := hf1 3 (by kernel_rfl); have f4 := hf1 4 (by kernel_rfl); have f5 := hf1 5 (by kernel_rfl); clear hf1; simp [e1, e2, e3, e4, e5] at f1 f2 f3 f4 f5)
              simp (disch := omega) [f12]
              (with_reducible first | refine Qm (fun h6 => ?_) (fun h6 => ?_) | refine Qn (fun h6 => ?_) (fun h6 => ?_))
              · have hN : ZjD pg pt nv op n ty ks.length = true := by simp only [ZjD, h5, hq, h6, Bool.true_and]
                simp (disch := omega) [f1, f2, f3, f4, f5]
                refine Wc ks.length 0 (fun i t _ => ∃ nd : Int, t 84 = N i ∧ t 4 = N nd ∧ nodes + 1 ≤ nd ∧ nd ≤ 400 ∧ Zgo (Zd6 pg pt nv (.mk op n nl1 ty nl2 ks)) nodes (Xb ks + 1) = Zgo (Za4 pg pt nv op i (ks.drop i)) nd (Xb (ks.drop i)))
                  ⟨nodes + 1, by simp, by simp [f4], by omega, by omega, ?_⟩ (by omega) ?_
                · simp only [Zd6, hN, Bool.true_and, List.drop_zero, Zgo]
                  congr 1 <;> grind
                rintro i t3 hh hf1 hi ⟨nd, g84, g4, hnd, hnd2, he⟩
                (have g1 := hf1 1 (by kernel_rfl); have g2 := hf1 2 (by kernel_rfl); have g3 := hf1 3 (by kernel_rfl); have g5 := hf1 5 (by kernel_rfl); have g82 := hf1 82 (by kernel_rfl); have g83 := hf1 83 (by kernel_rfl); clear hf1; simp [f1, f2, f3, f5] at g1 g2 g3 g5 g82 g83)
                simp (disch := omega) [g1, g2, g3, g4, g5, g82, g83, g84]
                (with_reducible first | refine Qm (fun h7 => ?_) (fun h7 => ?_) | refine Qn (fun h7 => ?_) (fun h7 => ?_))
                · simp only [Qf, Qd, Qi, Qh, Qc, Qb, Bool.not_true, Bool.not_false] at h7
                  have hsd := ZeH (ks := ks) (i := i) (by omega)
                  have hsk := Yx (ks := ks) (i := i) (by omega)
                  have hwk : (ks[i]'(by omega)).wf := ZaC.1 hks _ (List.getElem_mem _)
                  have hA : 0 ≤ Qy op i ∧ Qy op i ≤ 2 := by (unfold Qy; repeat' split) <;> omega
                  have hc := ih (ks[i]'(by omega)) (by omega) hwk (nv + Qy op i) nd (by omega) (by omega) (by omega) (by omega)
                  have hfd : Za4 pg pt nv op i (ks.drop i) = (Zd6 pg pt (nv + Qy op i) (ks[i]'(by omega)) && Za4 pg pt nv op (i + 1) (ks.drop (i + 1))) := by
                    rw [List.drop_eq_getElem_cons (by omega), Za4]
                  simp (disch := omega) [g1, g2, g3, g4, g5, g82, g83, g84, WO, sg, st]
                  repeat' (first
    | with_reducible refine Qa (Zm5 op i) (by simp) ?_
    | with_reducible refine Qa hc (by simp [lg, lt]) ?_
    | (with_reducible (first | refine Qm (fun hb_ => ?_) (fun hb_ => ?_) | refine Qn (fun hb_ => ?_) (fun hb_ => ?_)) <;> simp (disch := omega) [hb_, g1, g2, g3, g4, g5, g82, g83, g84, Qg, sg, st])
    | simp (disch := omega) [g1, g2, g3, g4, g5, g82, g83, g84, Qg, sg, st])
                  all_goals simp only [Qf, Qd, Qi, Qh, Qc, Qb, Bool.not_true, Bool.not_false] at hb_
                  all_goals rw [he, hfd, hsd]
                  · unfold Zgo at hb_ ⊢
                    grind
                  · refine ⟨by omega, ?_⟩
                    unfold Zgo at hb_ ⊢
                    grind
                · simp only [Qf, Qd, Qi, Qh, Qc, Qb, Bool.not_true, Bool.not_false] at h7
                  simp (disch := omega) [g4]
                  rw [he, show i = ks.length by omega, List.drop_length]; simp [Za4, Zgo, Xb]; omega
              · simp (disch := omega)
                unfold Zgo Zd6 ZjD; rw [hq]; simp [h5, h6]
        · simp (disch := omega)
          unfold Zgo Zd6 ZjD; simp [h5]
    · simp only [Bool.not_eq_true] at hf
      rw [Zii, if_neg (by simp [hf])]
      simp (disch := omega) [sg, st]
      unfold Zgo Zd6 ZjD
      rw [ZlF hf, show eqB (ks.length : Int) (-1) = false by rw [Qb]; omega]
      simp
def GTerm.writ (t:GTerm):Bool:=decide (t.size≤400) && Zk 8 16 false t
def okT (size:Int) (c:Bool×List Int):Bool:=wty c.2 && ZY size true c.2
def okAt (size:Int) (ctx:WZ) (i:Nat):Bool:=okT size (ctx.getD i (true,[]))
theorem Zm3 {size:Int} {ctx:WZ} {i:Nat} (h:i < ctx.length):okAt size ctx i=okT size ctx[i]:=by simp [okAt,h]
def ZgJ (size:Int) (ctx:WZ):Bool:=leB ctx.length 8 && YW (okAt size ctx) ctx.length
theorem ZmC (s:GSys) (t:s.Tab) (nl:Bool) (ctx:WZ) (hw:ctx.wf):Qe Tryz.prog Kz [s.lv,LC nl ctx] (·=B (ZgJ s.size ctx)):=by
 refine Qe.of_codeOf Zgz Qz (by simp) ⟨_,rfl,by simp⟩ ?_
 have h2:=t.lo;have h16:=t.hi
 have hlen:=hw.1
 have hI:I64 s.size:=⟨by omega,by omega⟩
 simp (disch:=omega) [Zbd,Qu,Qo]
 (with_reducible first | refine Qm (fun h1=>?_) (fun h1=>?_) | refine Qn (fun h1=>?_) (fun h1=>?_))
 ·simp (disch:=omega)
  rw [ZbN] at h1;simp at h1;simp [ZgJ,h1]
 ·simp (disch:=omega)
  have e8:ZgJ s.size ctx=YW (okAt s.size ctx) ctx.length:=by rw [ZbN] at h1;simp at h1;simp [ZgJ,h1]
  rw [e8]
  refine Wc ctx.length 0 (fun i t _=>t 5=N i∧YW (okAt s.size ctx) i=true) (by simp) (by omega) ?_
  rintro i t1 hh hf hi ⟨e5,hj⟩
  (have e1:=hf 1 (by kernel_rfl);have e2:=hf 2 (by kernel_rfl);clear hf;simp [] at e1 e2)
  simp (disch:=omega) [e1,e2,e5]
  (with_reducible first | refine Qm (fun h6=>?_) (fun h6=>?_) | refine Qn (fun h6=>?_) (fun h6=>?_))
  ·simp only [Qf,Qd,Qi,Qh,Qc,Qb,Bool.not_true,Bool.not_false] at h6
   have hL:Lok (ctx[i]'(by omega)).2:=hw.2 _ (List.getElem_mem _)
   have ha:=Zm3 (size:=s.size) (ctx:=ctx) (i:=i) (by omega)
   simp (disch:=omega) [e1,e2,e5,Zdf]
   rcases h:ctx[i]'(by omega) with ⟨nl1,ty⟩
   rw [h] at hL ha
   simp only at hL
   repeat' (first
  | with_reducible refine Qa (Zlq nl1 ty hL) (by simp) ?_
  | with_reducible refine Qa (ZgY nl1 ty hL s.size hI true) (by simp) ?_
  | (with_reducible (first | refine Qm (fun hb_=>?_) (fun hb_=>?_) | refine Qn (fun hb_=>?_) (fun hb_=>?_))<;>simp (disch:=omega) [hb_,e1,e2,e5,Zdf,h])
  | simp (disch:=omega) [e1,e2,e5,Zdf,h])
   all_goals first
    | exact ⟨by omega,Qg (by omega),by simp_all [WA,okT]⟩
    | exact (XH (p:=okAt s.size ctx) (i:=i) (by omega) (by simp_all [okT]))
  ·simp only [Qf,Qd,Qi,Qh,Qc,Qb,Bool.not_true,Bool.not_false] at h6
   simp (disch:=omega)
   rw [show i=ctx.length by omega] at hj
   rw [hj]
theorem Ziq (s:GSys) (t:s.Tab) (c:Bool×List Int) (hL:Lok c.2):FnB Tryz.prog (.fn Ye [.rp s.cells]) (eC c) (!okT s.size c):=by
 refine ⟨Ye,[eC c,.rp s.cells],by simp [ZD],by simp,?_⟩
 refine Qe.of_codeOf ZeZ Qz (by simp) ⟨_,rfl,by simp⟩ ?_
 obtain ⟨nl1,ty⟩:=c
 simp (disch:=omega) [VR]
 repeat' (first
  | with_reducible refine Qa (Zdz t nl1 ty hL) (by simp) ?_
  | (with_reducible (first | refine Qm (fun hb_=>?_) (fun hb_=>?_) | refine Qn (fun hb_=>?_) (fun hb_=>?_))<;>simp (disch:=omega) [hb_])
  | simp (disch:=omega))
 all_goals simp [okT]
theorem Zna (f:LV) (p:Bool×List Int→Bool) (sf:share f=f) (lf:Low 0 f) (nl:Bool) (ctx:WZ) (hw:ctx.wf) (hp:∀ c∈ctx,FnB Tryz.prog f (eC c) (p c)) :
  Qe Tryz.prog Xo [LC nl ctx,f] (fun r=>∃ n:Int,r=N n∧leB 0 n=ctx.any p):=by
 have hlen:=hw.1
 refine Qe.of_codeOf JT Qz (by simp) ⟨N (if ctx.any p=true then 0 else -1),⟨_,rfl,by split<;>simp_all [leB]⟩,by simp⟩ ?_
 simp (disch:=omega) [Ym]
 refine Wc ctx.length 0 (fun i t _=>t 8=N i∧ctx.any p=(ctx.drop i).any p) (by simp) (by omega) ?_
 rintro i t1 hh hf hi ⟨e8,hj⟩
 (have e0:=hf 0 (by kernel_rfl);have e1:=hf 1 (by kernel_rfl);have e6:=hf 6 (by kernel_rfl);have e7:=hf 7 (by kernel_rfl);clear hf;simp [sf] at e0 e1 e6 e7)
 simp (disch:=omega) [e0,e1,e6,e7,e8]
 (with_reducible first | refine Qm (fun h6=>?_) (fun h6=>?_) | refine Qn (fun h6=>?_) (fun h6=>?_))
 ·simp only [Qf,Qd,Qi,Qh,Qc,Qb,Bool.not_true,Bool.not_false] at h6
  have hd:=List.drop_eq_getElem_cons (l:=ctx) (i:=i) (by omega)
  have hpc:=hp (ctx[i]'(by omega)) (List.getElem_mem _)
  simp (disch:=omega) [e0,e1,e6,e7,e8,Zdf,sf]
  repeat' (first
  | with_reducible refine Zjc hpc ?_
  | (with_reducible (first | refine Qm (fun hb_=>?_) (fun hb_=>?_) | refine Qn (fun hb_=>?_) (fun hb_=>?_))<;>simp (disch:=omega) [hb_,e0,e1,e6,e7,e8,Zdf,sf])
  | simp (disch:=omega) [e0,e1,e6,e7,e8,Zdf,sf])
  ·rw [hj,hd,List.any_cons,hb_,Bool.true_or,Qi];omega
  ·exact ⟨by omega,Qg (by omega),by rw [hj,hd,List.any_cons,hb_,Bool.false_or]⟩
 ·simp only [Qf,Qd,Qi,Qh,Qc,Qb,Bool.not_true,Bool.not_false] at h6
  simp (disch:=omega)
  rw [hj,show i=ctx.length by omega,List.drop_length];simp [leB]
theorem ZiG {P:Program} {K:St→Prop} {s:St} {rw:Rw} {d:Nat} {f:FuncId} {vals:List LV} {R:LV→Prop} (c:Qe P f vals R) (hl:QG 0 vals) (hk:∀ r,R r→K { t:=upd s.t d r,h:=s.h }) (hrw:rw≠.fr∧rw.isAp=false:=by simp [Rw.isAp]):ZI P rw f vals (some d) K s:=Qp c hl hk hrw
theorem ZhB (f:LV) (p:Bool×List Int→Bool) (sf:share f=f) (lf:Low 0 f) (nl:Bool) (ctx:WZ) (hw:ctx.wf) (hp:∀ c∈ctx,FnB Tryz.prog f (eC c) (p c)) :
  Qe Tryz.prog W9 [LC nl ctx,f] (·=B (ctx.any p)):=by
 refine Qe.of_codeOf Jf Qz (by simp) ⟨_,rfl,by simp⟩ ?_
 simp (disch:=omega) [XY,sf]
 refine ZiG (Zna f p sf lf nl ctx hw hp) (by simp [lf]) ?_
 rintro r ⟨n,rfl,hn⟩
 simp (disch:=omega) [sf,hn]
theorem Zoq {ctx:WZ} {size:Int}:∀ n,n≤ctx.length→YW (okAt size ctx) n=!((ctx.take n).any fun c=>!okT size c)
 | 0,_=>by simp
 | n+1,h=>by
  rw [WA,Zoq n (by omega),Zm3 (by omega),List.take_succ_eq_append_getElem (by omega),List.any_append]
  simp [Bool.not_or]
theorem Zmx (s:GSys) (t:s.Tab) (nl:Bool) (ctx:WZ) (hw:ctx.wf):Qe Tryz.prog KB [s.lv,LC nl ctx] (·=B (ZgJ s.size ctx)):=by
 refine Qe.of_codeOf ZgE Qz (by simp) ⟨_,rfl,by simp⟩ ?_
 have hlen:=hw.1
 have hc:=ZhB (.fn Ye [.rp s.cells]) (fun c=>!okT s.size c) (by simp) (by simp) nl ctx hw (fun c hc=>Ziq s t c (hw.2 c hc))
 have ha:=Zoq (ctx:=ctx) (size:=s.size) ctx.length (by omega)
 rw [List.take_length] at ha
 simp (disch:=omega) [Zbe,Qu,Qo]
 repeat' (first
  | with_reducible refine Qa (hc) (by simp) ?_
  | (with_reducible (first | refine Qm (fun hb_=>?_) (fun hb_=>?_) | refine Qn (fun hb_=>?_) (fun hb_=>?_))<;>simp (disch:=omega) [hb_])
  | simp (disch:=omega))
 all_goals simp_all [ZgJ]
structure GSes where
 sys:GSys
 nl:Bool
 ctx:WZ
 term:GTerm
def GSes.cells (x:GSes):List LV:=x.sys.cells++(LC x.nl x.ctx::x.term.cells)
abbrev GSes.lv (x:GSes):LV:=.agg x.cells
def GSes.wf (x:GSes):Prop:=x.sys.wf∧x.ctx.wf∧x.term.wf
def GSes.ok (x:GSes):Bool:=x.sys.sys && (ZgJ x.sys.size x.ctx && x.term.writ)
def Rok (l:List Int):Prop:=l.length≤9223372036854775807∧∀ n∈l,I64 n
def GSys.raw (s:GSys):Prop:=I64 s.size∧Rok s.plus∧Rok s.times∧s.below.length≤9223372036854775807
def GSys.w (s:GSys):Nat:=s.plus.length+(s.times.length+s.below.length)
theorem GSys.wf_of {s:GSys} (h:s.raw) (hw:s.w≤1099511627776):s.wf:=by
 obtain ⟨h1,⟨h2,h3⟩,⟨h4,h5⟩,h6⟩:=h
 unfold GSys.w at hw
 exact ⟨h1,by omega,by omega,by omega,h3,h5⟩
def GSys.norm (s:GSys):GSys:={ s with n1:=false,n2:=false,n3:=false }
def GSys.own (s:GSys):List LV:=[N s.size,OU true false s.plus,OU true false s.times,OB true false s.below]
@[simp] theorem GSys.share_own (s:GSys):shareAll s.own=s.norm.cells:=by simp [GSys.own,GSys.norm]
@[simp] theorem GSys.low_own (s:GSys) (k:Nat):QG k s.own:=by simp [GSys.own]
@[simp] theorem GSys.own_length (s:GSys):s.own.length=4:=rfl
def GSys.same (a b:GSys):Bool:=eqB a.size b.size && ((a.plus == b.plus) && ((a.times == b.times) && (a.below == b.below)))
theorem GSys.same_refl (a:GSys):a.same a=true:=by simp [GSys.same]
theorem ZnO (s:GSys) (hr:s.raw) (left:Int) (h0:0≤left) (h1:left≤1099511627776):Qe Tryz.prog Vm [s.lv,N left] (·=N (XG s.w left)):=by
 refine Qe.of_codeOf ZhO Qz (by simp) ⟨_,rfl,by simp⟩ ?_
 obtain ⟨_,⟨hp,_⟩,⟨ht,_⟩,hb⟩:=hr
 have r1:=YX (a:=s.plus.length) h0
 simp (disch:=omega) [Zcs,Qu,Qo]
 refine Qa (ZgK _ _ hp left h0 h1) (by simp) ?_
 simp (disch:=omega)
 rw [GSys.w,VK h0]
 (with_reducible first | refine Qm (fun h2=>?_) (fun h2=>?_) | refine Qn (fun h2=>?_) (fun h2=>?_))
 ·simp only [Qf,Qd,Qi,Qh,Qc,Qb,Bool.not_true,Bool.not_false] at h2
  simp (disch:=omega)
  rw [ZdA h2]
 simp only [Qf,Qd,Qi,Qh,Qc,Qb,Bool.not_true,Bool.not_false] at h2
 have r2:=YX (a:=s.times.length) h2
 simp (disch:=omega)
 refine Qa (ZgK _ _ ht _ h2 (by omega)) (by simp) ?_
 simp (disch:=omega)
 rw [VK h2]
 (with_reducible first | refine Qm (fun h3=>?_) (fun h3=>?_) | refine Qn (fun h3=>?_) (fun h3=>?_))
 ·simp only [Qf,Qd,Qi,Qh,Qc,Qb,Bool.not_true,Bool.not_false] at h3
  simp (disch:=omega)
  rw [ZdA h3]
 simp only [Qf,Qd,Qi,Qh,Qc,Qb,Bool.not_true,Bool.not_false] at h3
 have r3:=YX (a:=s.below.length) h3
 simp (disch:=omega)
 refine Qa (ZpM _ _ hb _ h3 (by omega)) (by simp) ?_
 repeat' (first
  | (with_reducible (first | refine Qm (fun hb_=>?_) (fun hb_=>?_) | refine Qn (fun hb_=>?_) (fun hb_=>?_))<;>simp (disch:=omega) [hb_])
  | simp (disch:=omega))
 all_goals simp only [Qf,Qd,Qi,Qh,Qc,Qb,Bool.not_true,Bool.not_false] at hb_
 all_goals omega
theorem ZnG (s:GSys) (hw:s.wf):Qe Tryz.prog Yt [s.lv] (·=.agg s.own):=by
 refine Qe.of_codeOf ZhC Qz (by simp) ⟨_,rfl,by simp⟩ ?_
 obtain ⟨hs,h1,h2,h3,h4,h5⟩:=hw
 have t1:=Zgs s.n1 s.plus h1
 have t2:=Zgs s.n2 s.times h2
 have t3:=Zp3 s.n3 s.below h3
 simp (disch:=omega) [Zcq,Qu,Qo]
 repeat' (first
  | with_reducible refine Qa (t1) (by simp) ?_
  | with_reducible refine Qa (t2) (by simp) ?_
  | with_reducible refine Qa (t3) (by simp) ?_
  | (with_reducible (first | refine Qm (fun hb_=>?_) (fun hb_=>?_) | refine Qn (fun hb_=>?_) (fun hb_=>?_))<;>simp (disch:=omega) [hb_])
  | simp (disch:=omega))
 all_goals simp [GSys.own]
theorem ZoN (a b:GSys) (hw:a.wf):Qe Tryz.prog Vh [a.lv,b.lv] (·=B (a.same b)):=by
 refine Qe.of_codeOf Zhq Qz (by simp) ⟨_,rfl,by simp⟩ ?_
 obtain ⟨hs,h1,h2,h3,h4,h5⟩:=hw
 have t1:=Zge a.n1 b.n1 a.plus b.plus h1
 have t2:=Zge a.n2 b.n2 a.times b.times h2
 have t3:=Zp7 a.n3 b.n3 a.below b.below h3
 rw [GSys.same]
 generalize (a.plus == b.plus)=q1 at *
 generalize (a.times == b.times)=q2 at *
 generalize (a.below == b.below)=q3 at *
 simp (disch:=omega) [Zck,Qu,Qo]
 repeat' (first
  | with_reducible refine Qa (t1) (by simp) ?_
  | with_reducible refine Qa (t2) (by simp) ?_
  | with_reducible refine Qa (t3) (by simp) ?_
  | (with_reducible (first | refine Qm (fun hb_=>?_) (fun hb_=>?_) | refine Qn (fun hb_=>?_) (fun hb_=>?_))<;>simp (disch:=omega) [hb_])
  | simp (disch:=omega))
 all_goals simp_all
def GSes.raw (x:GSes):Prop:=x.sys.raw∧x.ctx.raw∧x.term.raw
def GSes.w (x:GSes):Nat:=x.sys.w+((x.ctx.length+cws x.ctx)+x.term.w)
theorem GSes.wf_of {x:GSes} (h:x.raw) (hw:x.w≤1099511627776):x.wf:=by
 obtain ⟨h1,h2,h3⟩:=h
 unfold GSes.w at hw
 exact ⟨GSys.wf_of h1 (by omega),⟨by omega,fun c hc=>⟨by have:=Znk hc;omega,(h2.2 c hc).2⟩⟩,Go.Proofs.YtbmepminmpjlcaaGreat.wf_of x.term h3 (by omega)⟩
def GSes.norm (x:GSes):GSes:=⟨x.sys.norm,false,x.ctx.norm,x.term.norm⟩
def GSes.own (x:GSes):List LV:=x.sys.own++(x.ctx.own::x.term.own)
@[simp] theorem Zf8:∀ a b:List LV,shareAll (a++b)=shareAll a++shareAll b
 | [],b=>by simp [shareAll]
 | x::a,b=>by simp [shareAll,Zf8 a b]
@[simp] theorem Zjr (k:Nat):∀ a b:List LV,QG k (a++b) ↔ QG k a∧QG k b
 | [],b=>by simp
 | x::a,b=>by simp [Zjr k a b,and_assoc]
@[simp] theorem GSes.share_own (x:GSes):shareAll x.own=x.norm.cells:=by
 simp [GSes.own,GSes.norm,GSes.cells,WZ.norm]
@[simp] theorem GSes.low_own (x:GSes) (k:Nat):QG k x.own:=by simp [GSes.own]
@[simp] theorem GSes.low_cells (x:GSes) (k:Nat):QG k x.cells:=by simp [GSes.cells]
@[simp] theorem GSes.share_cells (x:GSes):shareAll x.cells=x.cells:=by simp [GSes.cells]
@[simp] theorem GSes.cells_length (x:GSes):x.cells.length=9:=by simp [GSes.cells]
@[simp] theorem GSes.own_length (x:GSes):x.own.length=9:=by simp [GSes.own]
@[simp] theorem GSes.take_cells (x:GSes):x.cells.take 9=x.cells:=List.take_of_length_le (by simp)
@[simp] theorem GSes.take_own (x:GSes):x.own.take 9=x.own:=List.take_of_length_le (by simp)
@[simp] theorem GSes.alive_own (x:GSes):WD x.own=true:=by simp [GSes.own,GSys.own]
@[simp] theorem GSes.alive_cells (x:GSes):WD x.cells=true:=by simp [GSes.cells]
theorem WZ.norm_wf {c:WZ} (h:c.wf):c.norm.wf:=by
 refine ⟨by simpa [WZ.norm] using h.1,fun d hd=>?_⟩
 simp only [WZ.norm,List.mem_map] at hd
 obtain ⟨e,he,rfl⟩:=hd
 exact h.2 e he
theorem GSes.norm_wf {x:GSes} (h:x.wf):x.norm.wf:=⟨h.1,WZ.norm_wf h.2.1,Go.Proofs.YtbmepminmpjlcaaGreat.norm_wf _ h.2.2⟩
def GSes.same (a b:GSes):Bool:=a.sys.same b.sys && (sameC a.ctx b.ctx && a.term.same b.term)
theorem GSes.same_refl (a:GSes):a.same a=true:=by simp [GSes.same,GSys.same_refl,Zjn,Go.Proofs.YtbmepminmpjlcaaGreat.same_refl]
open Go
open Go.TL (GM.all Rep RepVals Qt Qw LV)
open Go.TL (N B)
variable {H:Type} {enc:TypeId×Value→H} {P:Program} {w:World} {base:Nat} {spare:Nat→Bool} {held:Bool}
def Zi (w:World) (xs:List LV) (cs:List Value):Prop:=RepVals (GM.all w) [] xs cs []∧∀ c∈cs,c.oneCell'=true
theorem Zi.nil:Zi w [] []:=⟨by simp [RepVals],by simp⟩
theorem Zi.cons {x : LV} {v : Value} {xs : List LV} {cs : List Value} (h : Rep (GM.all w) [] x v []) (h1 : v.oneCell' = true) (ht : Zi w xs cs) : Zi w (x :: xs) (v :: cs) := by
  refine ⟨?_, by intro c hc; simp only [List.mem_cons] at hc; rcases hc with rfl | hc; · exact h1
                 · exact ht.2 c hc⟩
  simp only [RepVals]
  exact ⟨v, cs, [], [], rfl, rfl, h, ht.1⟩
theorem Zi.app {xs ys:List LV} {cs ds:List Value} (h1:Zi w xs cs) (h2:Zi w ys ds):Zi w (xs++ys) (cs++ds):=by
 induction xs generalizing cs with
 | nil =>
  obtain ⟨h,_⟩:=h1
  simp only [RepVals] at h
  rw [h.1];simpa using h2
 | cons x xs ih =>
  obtain ⟨h,hc⟩:=h1
  simp only [RepVals] at h
  obtain ⟨v,ws,O1,O2,rfl,hO,g1,g2⟩:=h
  obtain ⟨rfl,rfl⟩:=List.append_eq_nil_iff.1 hO.symm
  exact Zi.cons g1 (hc v (by simp)) (ih ⟨g2,fun c hc'=>hc c (by simp [hc'])⟩)
theorem Zi.length {xs:List LV} {cs:List Value} (h:Zi w xs cs):cs.length=xs.length:=by
 induction xs generalizing cs with
 | nil=>have:=h.1;simp only [RepVals] at this;rw [this.1];rfl
 | cons x xs ih =>
  obtain ⟨h,hc⟩:=h
  simp only [RepVals] at h
  obtain ⟨v,ws,O1,O2,rfl,hO,g1,g2⟩:=h
  obtain ⟨rfl,rfl⟩:=List.append_eq_nil_iff.1 hO.symm
  simp [ih ⟨g2,fun c hc'=>hc c (by simp [hc'])⟩]
theorem Zi.cells {xs:List LV} {cs:List Value} (h:Zi w xs cs) (b off:Nat) (hc:∀ i,i < cs.length→w.cell? ⟨b,off+i,none⟩=cs[i]?):Qt (GM.all w) [] xs b off []:=by
 induction xs generalizing cs off with
 | nil=>simp [Qt]
 | cons x xs ih =>
  obtain ⟨h,h1⟩:=h
  simp only [RepVals] at h
  obtain ⟨v,ws,O1,O2,rfl,hO,g1,g2⟩:=h
  obtain ⟨rfl,rfl⟩:=List.append_eq_nil_iff.1 hO.symm
  simp only [Qt]
  refine ⟨v,[],[],rfl,by simpa [GM.all] using hc 0 (by simp),h1 v (by simp),g1,ih ⟨g2,fun c hc'=>h1 c (by simp [hc'])⟩ (off+1) fun i hi=>?_⟩
  have:=hc (i+1) (by simpa using hi)
  rw [show off+1+i=off+(i+1) by omega]
  simpa using this
theorem ZiA {a:Addr} {n:Nat} {cs:List Value} (h:w.cells? base a n=some cs):cs.length=n∧∀ i,i < n→w.cell? (a.add i)=cs[i]?:=by
 unfold World.cells? at h
 split at h
 ·refine ⟨by simpa using mapM_some_length h,fun i hi=>by simpa [hi] using mapM_some_get h i i (by simp [hi])⟩
 ·simp at h
theorem ZlI {a:Addr} {v:Value} (h:w.cell? a=some v):a.spot=none:=by
 unfold World.cell? at h
 split at h
 ·split at h
  ·simp at h
  ·rename_i hs;simpa using hs
 ·simp at h
theorem add_at {b off i:Nat}:(⟨b,off,none⟩:Addr).add i=⟨b,off+i,none⟩:=by
 unfold Addr.add;split<;>simp_all
theorem ZmN {t:TypeId} (ht:P.underlying t=some (.int .i64)) {fuel:Nat} {cs:List Value} {x:DataW H×List MemPlace} (h:DataW.trod enc P w base spare held fuel t cs=some x) :
  ∃ n:Int,I64 n∧Zi w [N n] cs:=by
 obtain ⟨n,rfl,_,hw⟩:=DataW.trod_int ht h
 refine ⟨n,?_,Zi.cons (by simp [Rep]) rfl Zi.nil⟩
 simp [Lit.wf,IntKind.min,IntKind.max,IntKind.signed,IntKind.bits] at hw
 unfold I64;omega
theorem rd_bool {t:TypeId} (ht:P.underlying t=some .bool) {fuel:Nat} {cs:List Value} {x:DataW H×List MemPlace} (h:DataW.trod enc P w base spare held fuel t cs=some x) :
  ∃ b:Bool,Zi w [B b] cs:=by
 obtain ⟨b,rfl,_⟩:=DataW.trod_bool ht h
 exact ⟨b,Zi.cons (by simp [Rep]) rfl Zi.nil⟩
theorem ZjJ {α:Type} (e:α→List LV) (Q:α→Prop) {t et:TypeId} {sz:Nat} (hsz:P.cellsOf et=sz) (hpos:0 < sz) (ht:P.underlying t=some (.slice et)) {fuel:Nat}
  (each:∀ n cs y,n < fuel→DataW.trod enc P w base spare held n et cs=some y→∃ r,Q r∧Zi w (e r) cs∧(e r).length=sz)
  {cs:List Value} {x:DataW H×List MemPlace} (h:DataW.trod enc P w base spare held fuel t cs=some x) :
  ∃ (nl:Bool) (l:List α),(∀ r∈l,Q r)∧l.length≤9223372036854775807∧Zi w [.sl false nl sz (l.map e)] cs:=by
 rcases DataW.trod_slice ht h with ⟨rfl,_⟩ | ⟨a,len,cap,elems,rest,n,rfl,rfl,_,_,hlc,hcm,hlen,hel,_,_⟩
 ·exact ⟨true,[],by simp,by simp,Zi.cons (by simp [Rep]) rfl Zi.nil⟩
 ·rw [hsz] at hel
  have get:∀ i,i < len→∃ r,Q r∧(e r).length=sz∧a.spot=none∧Qt (GM.all w) [] (e r) a.block (a.off+i * sz) []:=by
   intro i hi
   have h1:=hel i hi
   have h2:elems[i]?=some (elems[i]'(by omega)):=List.getElem?_eq_getElem _
   rw [h2,Option.bind_eq_some_iff] at h1
   obtain ⟨cs',hc,htr⟩:=h1
   obtain ⟨r,hq,hv,hl⟩:=each n cs' _ (by omega) htr
   obtain ⟨hcl,hcg⟩:=ZiA hc
   have hs:a.spot=none:=by
    by_cases hi0:i=0
    ·have:=hcg 0 hpos
     rw [List.getElem?_eq_getElem (by omega)] at this
     have hs:=ZlI this
     simpa [hi0,Addr.add] using hs
    ·have h0:=hel 0 (by omega)
     have h2:elems[0]?=some (elems[0]'(by omega)):=List.getElem?_eq_getElem _
     rw [h2,Option.bind_eq_some_iff] at h0
     obtain ⟨cs0,hc0,_⟩:=h0
     obtain ⟨hcl0,hcg0⟩:=ZiA hc0
     have:=hcg0 0 hpos
     rw [List.getElem?_eq_getElem (by omega)] at this
     have hs:=ZlI this
     simpa [Addr.add] using hs
   refine ⟨r,hq,hl,hs,hv.cells _ _ fun j hj=>?_⟩
   have:=hcg j (by omega)
   rw [← this]
   obtain ⟨b,off,sp⟩:=a
   simp only at hs
   subst hs
   rw [add_at,add_at]
  have Qj:∀ k i,i+k=len→∃ l:List α,l.length=k∧(∀ r∈l,Q r)∧Qw (GM.all w) [] (l.map e) sz a.block (a.off+i * sz) []:=by
   intro k
   induction k with
   | zero=>intro i hi;exact ⟨[],rfl,by simp,by simp [Qw]⟩
   | succ k ih =>
    intro i hi
    obtain ⟨r,hq,hl,_,hc⟩:=get i (by omega)
    obtain ⟨l,h1,h2,h3⟩:=ih (i+1) (by omega)
    refine ⟨r::l,by simp [h1],by simpa using ⟨hq,h2⟩,?_⟩
    simp only [List.map_cons,Qw]
    refine ⟨[],[],rfl,hl,hc,?_⟩
    rw [show a.off+i * sz+sz=a.off+(i+1) * sz by rw [Nat.add_mul];omega]
    exact h3
  obtain ⟨l,h1,h2,h3⟩:=Qj len 0 (by omega)
  have hmx:maxLen=9223372036854775807:=by decide
  refine ⟨false,l,h2,by omega,Zi.cons ?_ rfl Zi.nil⟩
  obtain ⟨b,off,sp⟩:=a
  simp only [Rep]
  refine .inr ⟨trivial,b,off,sp,cap,[],by simp [h1],?_,by simp [h1,hlc],by simpa using h3,.inr ⟨.inl trivial,rfl⟩⟩
  by_cases h0:len=0
  ·right
   refine ⟨?_,.inl trivial⟩
   simp;exact List.eq_nil_of_length_eq_zero (by omega)
  ·left
   obtain ⟨_,_,_,hs,_⟩:=get 0 (by omega)
   exact hs
theorem ZmX {t et:TypeId} (he:P.underlying et=some (.int .i64)) (hsz:P.cellsOf et=1) (ht:P.underlying t=some (.slice et)) {fuel:Nat} {cs:List Value} {x:DataW H×List MemPlace}
  (h:DataW.trod enc P w base spare held fuel t cs=some x):∃ nl l,Rok l∧Zi w [L nl l] cs:=by
 obtain ⟨nl,l,hq,hl,hv⟩:=ZjJ (fun n=>[N n]) I64 hsz (by omega) ht (fun n cs y _ hy=>by
  obtain ⟨m,h1,h2⟩:=ZmN he hy
  exact ⟨m,h1,h2,rfl⟩) h
 exact ⟨nl,l,⟨hl,hq⟩,hv⟩
theorem rd_bools {t et:TypeId} (he:P.underlying et=some .bool) (hsz:P.cellsOf et=1) (ht:P.underlying t=some (.slice et)) {fuel:Nat} {cs:List Value} {x:DataW H×List MemPlace}
  (h:DataW.trod enc P w base spare held fuel t cs=some x):∃ nl l,l.length≤9223372036854775807∧Zi w [LB nl l] cs:=by
 obtain ⟨nl,l,hq,hl,hv⟩:=ZjJ (fun b=>[B b]) (fun _=>True) hsz (by omega) ht (fun n cs y _ hy=>by
  obtain ⟨m,h2⟩:=rd_bool he hy
  exact ⟨m,trivial,h2,rfl⟩) h
 exact ⟨nl,l,hl,hv⟩
theorem four {cs:List Value} {w0 w1 w2 w3:List LV} (hl:cs.length=4) (h0:Zi w w0 (cs.take 1)) (h1:Zi w w1 ((cs.drop 1).take 1)) (h2:Zi w w2 ((cs.drop 2).take 1)) (h3:Zi w w3 ((cs.drop 3).take 1)):Zi w (w0++(w1++(w2++w3))) cs:=by
 match cs,hl with
 | [a,b,c,d],_=>exact h0.app (h1.app (h2.app h3))
structure Tys (P:Program) where
 tI:TypeId
 tB:TypeId
 tL:TypeId
 tLB:TypeId
 tC:TypeId
 tT:TypeId
 tK:TypeId
 tS:TypeId
 fT:Array Field
 fS:Array Field
 hI:P.underlying tI=some (.int .i64)
 hB:P.underlying tB=some .bool
 hL:P.underlying tL=some (.slice tI)
 hLB:P.underlying tLB=some (.slice tB)
 hC:P.underlying tC=some (.slice tL)
 hT:P.underlying tT=some (.struct fT)
 hK:P.underlying tK=some (.slice tT)
 hS:P.underlying tS=some (.struct fS)
 cI:P.cellsOf tI=1
 cB:P.cellsOf tB=1
 cL:P.cellsOf tL=1
 cLB:P.cellsOf tLB=1
 cT:P.cellsOf tT=4
 cK:P.cellsOf tK=1
 cS:P.cellsOf tS=4
 T0:(fT[0]?).map (fun f=>(f.type,f.offset))=some (tI,0)
 T1:(fT[1]?).map (fun f=>(f.type,f.offset))=some (tI,1)
 T2:(fT[2]?).map (fun f=>(f.type,f.offset))=some (tL,2)
 T3:(fT[3]?).map (fun f=>(f.type,f.offset))=some (tK,3)
 S0:(fS[0]?).map (fun f=>(f.type,f.offset))=some (tI,0)
 S1:(fS[1]?).map (fun f=>(f.type,f.offset))=some (tL,1)
 S2:(fS[2]?).map (fun f=>(f.type,f.offset))=some (tL,2)
 S3:(fS[3]?).map (fun f=>(f.type,f.offset))=some (tLB,3)
theorem KR {fs:Array Field} {i:Nat} {t:TypeId} {o:Nat} (h:(fs[i]?).map (fun f=>(f.type,f.offset))=some (t,o)) {n:Nat} {cs:List Value} {xs:List (DataW H×List MemPlace)} (hl:xs.length=fs.size)
  (hf:∀ (i:Nat) (f:Field),fs[i]?=some f→DataW.trod enc P w base spare held n f.type ((cs.drop f.offset).take (P.cellsOf f.type))=xs[i]?) :
  ∃ y,DataW.trod enc P w base spare held n t ((cs.drop o).take (P.cellsOf t))=some y:=by
 rw [Option.map_eq_some_iff] at h
 obtain ⟨f,hf1,h2⟩:=h
 simp only [Prod.mk.injEq] at h2
 obtain ⟨rfl,rfl⟩:=h2
 have hi:i < xs.length:=by
  rw [hl]
  exact (Array.getElem?_eq_some_iff.1 hf1).1
 exact ⟨xs[i],by rw [hf i f hf1];exact List.getElem?_eq_getElem hi⟩
theorem rd_sys (T:Tys P) {fuel:Nat} {cs:List Value} {x:DataW H×List MemPlace} (h:DataW.trod enc P w base spare held fuel T.tS cs=some x) :
  ∃ s:GSys,s.raw∧Zi w s.cells cs:=by
 obtain ⟨xs,n,rfl,_,hl,hlen,hf⟩:=DataW.trod_struct T.hS h
 rw [T.cS] at hl
 obtain ⟨y0,h0⟩:=KR T.S0 hlen hf
 obtain ⟨y1,h1⟩:=KR T.S1 hlen hf
 obtain ⟨y2,h2⟩:=KR T.S2 hlen hf
 obtain ⟨y3,h3⟩:=KR T.S3 hlen hf
 rw [T.cI] at h0;rw [T.cL] at h1 h2;rw [T.cLB] at h3
 obtain ⟨size,r0,v0⟩:=ZmN T.hI h0
 obtain ⟨n1,plus,r1,v1⟩:=ZmX T.hI T.cI T.hL h1
 obtain ⟨n2,times,r2,v2⟩:=ZmX T.hI T.cI T.hL h2
 obtain ⟨n3,below,r3,v3⟩:=rd_bools T.hB T.cB T.hLB h3
 exact ⟨⟨size,n1,plus,n2,times,n3,below⟩,⟨r0,r1,r2,r3⟩,four hl v0 v1 v2 v3⟩
theorem rd_term (T:Tys P):∀ (fuel:Nat) {cs:List Value} {x:DataW H×List MemPlace},DataW.trod enc P w base spare held fuel T.tT cs=some x→∃ t:GTerm,t.raw∧Zi w t.cells cs:=by
 intro fuel
 induction fuel using Nat.strongRecOn with
 | _ fuel ih =>
  intro cs x h
  obtain ⟨xs,n,rfl,_,hl,hlen,hf⟩:=DataW.trod_struct T.hT h
  rw [T.cT] at hl
  obtain ⟨y0,h0⟩:=KR T.T0 hlen hf
  obtain ⟨y1,h1⟩:=KR T.T1 hlen hf
  obtain ⟨y2,h2⟩:=KR T.T2 hlen hf
  obtain ⟨y3,h3⟩:=KR T.T3 hlen hf
  rw [T.cI] at h0 h1;rw [T.cL] at h2;rw [T.cK] at h3
  obtain ⟨op,r0,v0⟩:=ZmN T.hI h0
  obtain ⟨m,r1,v1⟩:=ZmN T.hI h1
  obtain ⟨n1,ty,r2,v2⟩:=ZmX T.hI T.cI T.hL h2
  obtain ⟨n2,ks,r3,hlk,v3⟩:=ZjJ GTerm.cells GTerm.raw T.cT (by omega) T.hK (fun k cs' y hk hy=>by
   obtain ⟨t,g1,g2⟩:=ih k (by omega) hy
   exact ⟨t,g1,g2,by simp⟩) h3
  refine ⟨.mk op m n1 ty n2 ks,?_,?_⟩
  ·simp only [GTerm.raw]
   exact ⟨r0,r1,r2,hlk,ZiT.2 r3⟩
  ·simp only [GTerm.cells,Zbb]
   exact four hl v0 v1 v2 v3
theorem ZqK {xs:List LV} {cs:Array Value} (h:Zi w xs cs.toList):Rep (GM.all w) [] (.agg xs) (.agg cs) []:=by
 simp only [Rep]
 exact ⟨cs.toList,by simp,h.2,h.1⟩
end Go.Proofs.YtbmepminmpjlcaaGreat
namespace Go.TL
mutual
def nz:LV→LV
 | .sc v=>.sc v
 | .sl u nl sz xs=>if nl && xs.isEmpty then .sl false true 0 [] else .sl u nl sz (Zet xs)
 | .ha l sz off n cap=>.ha l sz off n cap
 | .raw sz=>.raw sz
 | .ptr l o=>.ptr l o
 | .rp xs=>.rp (Z6 xs)
 | .fn f caps=>.fn f (Z6 caps)
 | .fnm f first=>.fnm f (Z6 first)
 | .agg xs=>.agg (Z6 xs)
 | .tup xs=>.tup (Z6 xs)
 | .dead=>.dead
 | .both u t=>.both u (nz t)
def Z6:List LV→List LV
 | []=>[]
 | x::xs=>nz x::Z6 xs
def Zet:List (List LV)→List (List LV)
 | []=>[]
 | x::xs=>Z6 x::Zet xs
end
theorem Zfc:∀ xs:List LV,(Z6 xs).length=xs.length
 | []=>rfl
 | _::xs=>by simp only [Z6,List.length_cons,Zfc xs]
theorem Zf4:∀ xs:List (List LV),(Zet xs).length=xs.length
 | []=>rfl
 | _::xs=>by simp only [Zet,List.length_cons,Zf4 xs]
theorem Zq2:∀ xs:List (List LV),Zet xs=[] ↔ xs=[]
 | []=>by simp [Zet]
 | _::xs=>by simp [Zet]
mutual
theorem Zh9 (A:GM) (μ:List Nat):∀ (x:LV) (v:Value) (O:List Own),Rep A μ (nz x) v O ↔ Rep A μ x v O
 | .sc u,v,O=>by simp only [nz]
 | .sl u nl sz xs,v,O=>by
  by_cases h:(nl && xs.isEmpty)=true
  ·have h':=h
   simp only [Bool.and_eq_true,List.isEmpty_iff] at h'
   obtain ⟨rfl,rfl⟩:=h'
   simp only [nz,h,if_true,Rep,Bool.true_eq_false,false_and,or_false]
  ·simp only [nz,if_neg h,Rep,Zf4,Zq2,Zln A μ xs]
 | .ha l sz off n cap,v,O=>by simp only [nz]
 | .raw sz,v,O=>by simp only [nz]
 | .ptr l o,v,O=>by simp only [nz]
 | .rp xs,v,O=>by simp only [nz,Rep,ZcL A μ xs]
 | .fn f caps,v,O=>by simp only [nz,Rep,JH A μ caps]
 | .fnm f first,v,O=>by simp only [nz,Rep,JH A μ first]
 | .agg xs,v,O=>by simp only [nz,Rep,JH A μ xs]
 | .tup xs,v,O=>by simp only [nz,Rep,JH A μ xs]
 | .dead,v,O=>by simp only [nz]
 | .both u t,v,O=>by simp only [nz,Rep,Zh9 A μ t]
theorem Zln (A:GM) (μ:List Nat):∀ (xs:List (List LV)) (sz b off:Nat) (O:List Own),Qw A μ (Zet xs) sz b off O ↔ Qw A μ xs sz b off O
 | [],sz,b,off,O=>by simp only [Zet]
 | x::xs,sz,b,off,O=>by simp only [Zet,Qw,Zfc,ZcL A μ x,Zln A μ xs]
theorem ZcL (A:GM) (μ:List Nat):∀ (xs:List LV) (b off:Nat) (O:List Own),Qt A μ (Z6 xs) b off O ↔ Qt A μ xs b off O
 | [],b,off,O=>by simp only [Z6]
 | x::xs,b,off,O=>by simp only [Z6,Qt,Zh9 A μ x,ZcL A μ xs]
theorem JH (A:GM) (μ:List Nat):∀ (xs:List LV) (vs:List Value) (O:List Own),RepVals A μ (Z6 xs) vs O ↔ RepVals A μ xs vs O
 | [],vs,O=>by simp only [Z6]
 | x::xs,vs,O=>by simp only [Z6,RepVals,Zh9 A μ x,JH A μ xs]
end
theorem QD.nz {P:Program} {f:FuncId} {args args':List LV} {h:List Box} {R:LV→List Box→Prop} (c:QD P f args' h R) (e:Z6 args=Z6 args'):QD P f args h R:=by
 obtain ⟨h1,h2,h3⟩:=c
 refine ⟨h1,h2,fun w A μ OH vals Oa hv hi=>h3 w A μ OH vals Oa ?_ hi⟩
 rw [← JH,← e,JH]
 exact hv
theorem Qe.nz {P:Program} {f:FuncId} {args args':List LV} {R:LV→Prop} (c:Qe P f args' R) (e:Z6 args=Z6 args'):Qe P f args R:=QD.nz c e
theorem QD.nzR {P:Program} {f:FuncId} {args:List LV} {h:List Box} {R R':LV→List Box→Prop} (c:QD P f args h R) (hr:∀ r h',R r h'→∃ r',Go.TL.nz r'=Go.TL.nz r∧R' r' h'):QD P f args h R':=by
 obtain ⟨h1,⟨r,h',hR⟩,h2⟩:=c
 obtain ⟨r',_,hR'⟩:=hr r h' hR
 refine ⟨h1,⟨r',h',hR'⟩,fun w A μ OH vals Oa hv hi=>(h2 w A μ OH vals Oa hv hi).mono fun e w' he=>?_⟩
 obtain ⟨v,r,h',B,ν,OH',O',g1,g2,g3,g4⟩:=he
 obtain ⟨r',he',hR'⟩:=hr r h' g2
 exact ⟨v,r',h',B,ν,OH',O',g1,hR',(by rw [← Zh9,he',Zh9];exact g3),g4⟩
def idxT (sz:Nat) (v:LV) (i:Int):Option LV :=
 match v with
 | .sl _ _ sz' xs=>if sz'=sz∧0≤i∧i < xs.length then some (.rp (xs.getD i.toNat [])) else none
 | _=>none
@[simp] theorem step_indexT {s:St} {d sz:Nat} {x i:X}:step (.indexT d sz x i) s=((intOf (get s.t i)).bind (idxT sz (get s.t x))).map ((s.give x).put d):=by
 simp only [step]
 cases hi:intOf (get s.t i) with
 | none=>cases get s.t x<;>simp
 | some i=>cases get s.t x<;>simp [idxT]<;>(try split)<;>simp_all
@[simp] theorem step_loadT {s:St} {d sz:Nat} {ag:Bool} {x:X}:step (.loadT d ag sz x) s=(rdLV ag sz (get s.t x)).map ((s.give x).put d):=by
 simp only [step,rdLV]
 cases get s.t x<;>simp
 split
 ·split<;>simp_all
 ·simp_all
@[simp] theorem idxT_sl {u nl:Bool} {sz:Nat} {xs:List (List LV)} {i:Int} (h:0≤i∧i < xs.length):idxT sz (.sl u nl sz xs) i=some (.rp (xs.getD i.toNat [])):=by
 simp [idxT,h.1,h.2]
theorem ZpP {P:Program} {sz d:Nat} {f:FuncId} {u:Bool} {z:Nat} {nil2:Bool} {ys:List (List LV)} {K:St→Prop} {s:St} (hne:ys≠[]) (hm:ys.length≤WV)
  (hk:∀ cap slack,ys.length≤cap→ys.length * sz+slack=cap * sz→K { t:=upd s.t d (.ha s.h.length sz 0 ys.length cap),h:=s.h++[some (ys.flatten++List.replicate slack .dead)] }) :
  ZI P (.ap sz) f [.sl u true z [],.sl false nil2 sz ys] (some d) K s :=
 ⟨_,nil2,ys,rfl,hne,.inl ⟨u,z,rfl,hm,hk⟩⟩
theorem Zp9 {P:Program} {sz d:Nat} {f:FuncId} {l n cap:Nat} {nil2:Bool} {xs:List LV} {ys:List (List LV)} {K:St→Prop} {s:St} (hne:ys≠[]) (hl:s.h[l]?=some (some xs)) (hx:xs.length=cap * sz) (hn:n≤cap) (hm:n+ys.length≤WV)
  (hin:n+ys.length≤cap→K { t:=upd s.t d (.ha l sz 0 (n+ys.length) cap),h:=s.h.set l (some (splice xs (n * sz) ys.flatten)) })
  (hout:cap < n+ys.length→∀ cap' slack,n+ys.length≤cap'→(n+ys.length) * sz+slack=cap' * sz→K { t:=upd s.t d (.ha s.h.length sz 0 (n+ys.length) cap'),h:=s.h.set l (some (List.replicate xs.length .dead))++[some (xs.take (n * sz)++ys.flatten++List.replicate slack .dead)] }) :
  ZI P (.ap sz) f [.ha l sz 0 n cap,.sl false nil2 sz ys] (some d) K s :=
 ⟨_,nil2,ys,rfl,hne,.inr ⟨l,n,cap,xs,rfl,hl,hx,hn,hm,hin,hout⟩⟩
end Go.TL
namespace Go.Proofs.YtbmepminmpjlcaaGreat.Ty
inductive RT where
 | nd (c:Int) (ks:List RT)
mutual
def RT.flat:RT→List Int
 | .nd c ks=>c::WN ks
def WN:List RT→List Int
 | []=>[]
 | t::ts=>t.flat++WN ts
end
mutual
def RT.ok:RT→Prop
 | .nd c ks=>W2 c=some ks.length∧oks ks
def oks:List RT→Prop
 | []=>True
 | t::ts=>t.ok∧oks ts
end
theorem ZhV:∀ {ts:List RT},oks ts ↔ ∀ t∈ts,t.ok
 | []=>by simp [oks]
 | t::ts=>by simp [oks,ZhV (ts:=ts)]
theorem Kw:∀ (ts us:List RT),WN (ts++us)=WN ts++WN us
 | [],us=>by simp [WN]
 | t::ts,us=>by simp [WN,Kw ts us]
theorem parse:∀ (l:List Int) (n:Nat) (r:List Int),Ty.skip n l=some r→∃ ts:List RT,ts.length=n∧oks ts∧l=WN ts++r
 | l,0,r,h=>by simp [Ty.skip] at h;exact ⟨[],rfl,by simp [oks],by simp [WN,h]⟩
 | [],n+1,r,h=>by simp [Ty.skip] at h
 | c::l,n+1,r,h=>by
  simp only [Ty.skip] at h
  cases hk:W2 c with
  | none=>simp [hk] at h
  | some k =>
   simp only [hk] at h
   obtain ⟨ts,h1,h2,h3⟩:=parse l (n+k) r h
   refine ⟨.nd c (ts.take k)::ts.drop k,by simp;omega,?_,?_⟩
   ·rw [ZhV] at h2
    simp only [oks,RT.ok,ZhV,hk]
    refine ⟨⟨by simp;omega,fun t ht=>h2 t (List.mem_of_mem_take ht)⟩,fun t ht=>h2 t (List.mem_of_mem_drop ht)⟩
   ·rw [h3]
    simp only [WN,RT.flat,List.cons_append]
    rw [← Kw,List.take_append_drop]
mutual
theorem RT.skip_flat:∀ (t:RT) (r:List Int),t.ok→Ty.skip 1 (t.flat++r)=some r
 | .nd c ks,r,h=>by
  simp only [RT.ok] at h
  simp only [RT.flat,List.cons_append,Ty.skip,h.1]
  rw [Nat.zero_add]
  exact Zi5 ks r h.2
theorem Zi5:∀ (ts:List RT) (r:List Int),oks ts→Ty.skip ts.length (WN ts++r)=some r
 | [],r,_=>by simp [WN,Ty.skip]
 | t::ts,r,h=>by
  simp only [oks] at h
  simp only [WN,List.append_assoc,List.length_cons]
  rw [Nat.add_comm,Zjt,RT.skip_flat t _ h.1]
  exact Zi5 ts r h.2
end
theorem RT.flat_pos (t:RT):0 < t.flat.length:=by cases t;simp [RT.flat]
theorem Zf5 {l:List Int} (h:wty l=true):∃ t:RT,t.ok∧l=t.flat∧l.length≤40:=by
 simp [wty] at h
 obtain ⟨⟨h1,h2⟩,h3⟩:=h
 obtain ⟨ts,g1,g2,g3⟩:=parse l 1 [] h3
 match ts,g1 with
 | [t],_ =>
  simp only [oks] at g2
  exact ⟨t,g2.1,by simpa [WN] using g3,h2⟩
theorem tree_wty {t:RT} (h:t.ok) (hl:t.flat.length≤40):wty t.flat=true:=by
 have:=RT.skip_flat t [] h
 rw [List.append_nil] at this
 have:=t.flat_pos
 simp [wty, *];omega
theorem ZeY {t:RT} (h:t.ok) (r:List Int) (len:Nat):Ve 1 (t.flat++r) len=(len:Int) - r.length:=by
 unfold Ve
 rw [RT.skip_flat t r h]
end Go.Proofs.YtbmepminmpjlcaaGreat.Ty
namespace Go.Proofs.YtbmepminmpjlcaaGreat
open Go Go.TL
open Go.Proofs.YtbmepminmpjlcaaGreat.Ty
set_option linter.unusedSimpArgs false
set_option linter.unusedVariables false
set_option maxRecDepth 20000
set_option maxHeartbeats 4000000
def okL (size:Int) (l:List Int):Bool:=wty l && ZY size true l
def Wj (l:List Int):List Int:=(Ty.skip 1 l.tail).getD []
def QJ (l:List Int):List Int:=l.tail.take (l.tail.length - (Wj l).length)
def hd (l:List Int):Int:=l.headD 0
@[simp] theorem Znd (c:Int) (l:List Int):hd (c::l)=c:=rfl
theorem Zpd {size:Int} {closed:Bool} {l:List Int}:ZY size closed l=true ↔ ∀ c∈l,okC size closed c=true:=by
 unfold ZY
 rw [YV]
 constructor
 ·intro h c hc
  obtain ⟨i,hi,rfl⟩:=List.getElem_of_mem hc
  have:=h i hi
  simpa [YP,hi] using this
 ·intro h i hi
  have:=h l[i] (List.getElem_mem _)
  simpa [YP,hi] using this
theorem YO {size:Int} {l:List Int}:okL size l=true ↔ ∃ t:RT,t.ok∧l=t.flat∧l.length≤40∧∀ c∈l,okC size true c=true:=by
 unfold okL
 rw [Bool.and_eq_true,Zpd]
 constructor
 ·rintro ⟨h1,h2⟩
  obtain ⟨t,h3,h4,h5⟩:=Zf5 h1
  exact ⟨t,h3,h4,h5,h2⟩
 ·rintro ⟨t,h3,rfl,h5,h2⟩
  exact ⟨tree_wty h3 h5,h2⟩
theorem Znm {l:List Int} (h:wty l=true):1≤l.length∧l.length≤40:=by
 simp [wty] at h;omega
theorem YA {size:Int} {l:List Int} (h:okL size l=true):wty l=true:=by
 unfold okL at h;rw [Bool.and_eq_true] at h;exact h.1
theorem QV {size:Int} {l:List Int} (h:okL size l=true):1≤l.length∧l.length≤40:=Znm (YA h)
theorem Zqr {l:List Int} (h:wty l=true):∀ n∈l,0≤n∧n≤36:=by
 intro n hn
 obtain ⟨i,hi,rfl⟩:=List.getElem_of_mem hn
 have:=Zlt h i hi
 simpa [List.getD_eq_getElem?_getD,hi] using this
theorem Zh3 {l:List Int} (h:wty l=true):Lok l:=⟨by have:=Znm h;omega,fun n hn=>by have:=Zqr h n hn;unfold I64;omega⟩
theorem VO {c:Int} {t:RT} {r:List Int} (h:t.ok):Wj (c::(t.flat++r))=r:=by
 unfold Wj
 rw [List.tail_cons,RT.skip_flat t r h];rfl
theorem Zaf {c:Int} {t:RT} {r:List Int} (h:t.ok):QJ (c::(t.flat++r))=t.flat:=by
 unfold QJ
 rw [VO h,List.tail_cons]
 simp
theorem ZdC {c:Int} {a b:List Int} (h:wty a=true):Wj (c::(a++b))=b:=by
 obtain ⟨t,h1,rfl,_⟩:=Zf5 h
 exact VO h1
theorem Zbr {c:Int} {a b:List Int} (h:wty a=true):QJ (c::(a++b))=a:=by
 obtain ⟨t,h1,rfl,_⟩:=Zf5 h
 exact Zaf h1
theorem Zrf {c:Int} {a:List Int} (h:wty a=true):QJ (c::a)=a:=by
 have:=Zbr (c:=c) (b:=[]) h
 rwa [List.append_nil] at this
theorem ZZ {size:Int} {l:List Int} (h:okL size l=true) (h2:W2 (hd l)=some 2):l=hd l::(QJ l++Wj l)∧okL size (QJ l)=true∧okL size (Wj l)=true:=by
 obtain ⟨⟨c,ks⟩,h3,rfl,h5,h6⟩:=YO.1 h
 simp only [RT.ok] at h3
 simp only [RT.flat] at h2 h5 h6 ⊢
 simp only [Znd] at h2
 rw [h2] at h3
 obtain ⟨a,b,rfl⟩:∃ a b,ks=[a,b]:=by
  match ks,h3.1 with
  | [a,b],_=>exact ⟨a,b,rfl⟩
  | [],h=>simp at h
  | [_],h=>simp at h
  | _::_::_::_,h=>simp at h
 simp only [oks] at h3
 simp only [WN,List.append_nil] at h5 h6 ⊢
 rw [Zaf h3.2.1,VO h3.2.1]
 simp only [List.length_cons,List.length_append] at h5
 refine ⟨rfl,YO.2 ⟨a,h3.2.1,rfl,by omega,fun c hc=>h6 c (by simp [hc])⟩,YO.2 ⟨b,h3.2.2.1,rfl,by omega,fun c hc=>h6 c (by simp [hc])⟩⟩
theorem Zh5 {size:Int} {l:List Int} (h:okL size l=true) (h2:W2 (hd l)=some 1):l=hd l::QJ l∧Wj l=[]∧okL size (QJ l)=true:=by
 obtain ⟨⟨c,ks⟩,h3,rfl,h5,h6⟩:=YO.1 h
 simp only [RT.ok] at h3
 simp only [RT.flat] at h2 h5 h6 ⊢
 simp only [Znd] at h2
 rw [h2] at h3
 obtain ⟨a,rfl⟩:∃ a,ks=[a]:=by
  match ks,h3.1 with
  | [a],_=>exact ⟨a,rfl⟩
  | [],h=>simp at h
  | _::_::_,h=>simp at h
 simp only [oks] at h3
 simp only [WN] at h5 h6 ⊢
 rw [Zaf h3.2.1,VO h3.2.1]
 simp only [List.length_cons,List.length_append] at h5
 refine ⟨by simp,rfl,YO.2 ⟨a,h3.2.1,rfl,by omega,fun c hc=>h6 c (by simp [hc])⟩⟩
theorem okL_none {size:Int} {l:List Int} (h:okL size l=true) (h2:W2 (hd l)=some 0):l=[hd l]:=by
 obtain ⟨⟨c,ks⟩,h3,rfl,h5,h6⟩:=YO.1 h
 simp only [RT.ok] at h3
 simp only [RT.flat] at h2 h5 h6 ⊢
 simp only [Znd] at h2
 rw [h2] at h3
 obtain rfl:ks=[]:=by
  match ks,h3.1 with
  | [],_=>rfl
  | _::_,h=>simp at h
 simp [WN]
theorem ZhW {size c:Int} {a b:List Int} (ha:okL size a=true) (hb:okL size b=true) (hc:W2 c=some 2) (h2:okC size true c=true) (hl:(c::(a++b)).length≤40):okL size (c::(a++b))=true:=by
 obtain ⟨t,h3,rfl,_,h4⟩:=YO.1 ha
 obtain ⟨u,h5,rfl,_,h6⟩:=YO.1 hb
 refine YO.2 ⟨.nd c [t,u],?_,by simp [RT.flat,WN],hl,fun x hx=>?_⟩
 ·simp only [RT.ok,oks]
  exact ⟨hc,h3,h5,trivial⟩
 ·rcases List.mem_cons.1 hx with rfl | hx
  ·exact h2
  ·rcases List.mem_append.1 hx with hx | hx
   ·exact h4 x hx
   ·exact h6 x hx
theorem okL_mk1 {size c:Int} {a:List Int} (ha:okL size a=true) (hc:W2 c=some 1) (h2:okC size true c=true) (hl:(c::a).length≤40):okL size (c::a)=true:=by
 obtain ⟨t,h3,rfl,_,h4⟩:=YO.1 ha
 refine YO.2 ⟨.nd c [t],?_,by simp [RT.flat,WN],hl,fun x hx=>?_⟩
 ·simp only [RT.ok,oks]
  exact ⟨hc,h3,trivial⟩
 ·rcases List.mem_cons.1 hx with rfl | hx
  ·exact h2
  ·exact h4 x hx
theorem Zqt (size:Int):okL size [0]=true :=
 YO.2 ⟨.nd 0 [],by simp [RT.ok,oks,W2],by simp [RT.flat,WN],by simp,fun c hc=>by simp at hc;subst hc;simp [okC,QW,WW]⟩
theorem Yn {size:Int} {l:List Int} (h:okL size l=true):okC size true (hd l)=true∧0≤hd l∧hd l≤36∧l≠[]∧hd l∈l:=by
 obtain ⟨⟨c,ks⟩,h3,rfl,h5,h6⟩:=YO.1 h
 simp only [RT.ok] at h3
 have:=Zdo h3.1
 simp only [RT.flat] at h6 ⊢
 refine ⟨h6 c (by simp),by simpa using this.1,by simpa using this.2,by simp,by simp⟩
theorem ZdP {size c:Int} (h:okC size true c=true) (h2:QW c=true∨WW c=true):0≤XO c∧XO c < size:=by
 unfold okC at h
 have:(QW c || WW c)=true:=by rcases h2 with h | h<;>simp [h]
 rw [this] at h
 simp [Qi,Qf] at h
 omega
inductive TT where
 | mk (ty needs:List Int) (kids:List TT)
def TT.ty:TT→List Int | .mk t _ _=>t
def TT.needs:TT→List Int | .mk _ n _=>n
def TT.kids:TT→List TT | .mk _ _ k=>k
@[simp] theorem TT.ty_mk {a b:List Int} {c:List TT}:(TT.mk a b c).ty=a:=rfl
@[simp] theorem TT.needs_mk {a b:List Int} {c:List TT}:(TT.mk a b c).needs=b:=rfl
@[simp] theorem TT.kids_mk {a b:List Int} {c:List TT}:(TT.mk a b c).kids=c:=rfl
inductive Res where
 | ok (x:TT)
 | bad (f:Int) (p:List Int)
def Qx (op:Int) (ty:List Int) (i:Nat) (first:List Int):List (List Int) :=
 if op=9 then [ty] else if Qy op i=0 then [] else if op=5 then [Wj first,QJ first] else if op=8 then [if i=1 then QJ first else Wj first] else [QJ first]
def Jo (op:Int) (i:Nat):Int×Int :=
 if op=2∨(op=3∧i=0) then (0,2) else if op=5∧i=0 then (1,4) else if op=8∧i=0 then (2,5) else if op=10∧i=0 then (3,6) else if op=12∧i=0 then (4,7) else (-1,0)
def QT (s:GSys) (op n:Int) (i:Nat) (c:Int):Int :=
 if 0≤(Jo op i).1∧(QH c).1≠(Jo op i).1 then (Jo op i).2 else if i=0∧(op=5∨op=8∨op=12)∧s.le 1 n=false then 8 else 0
def YL (s:GSys) (a b:List Int):List Int:=List.zipWith s.pl a b
def Yl (s:GSys) (a b:List Int):List Int:=List.zipWith s.join a b
def Wa (s:GSys) (g:Int) (a:List Int):List Int:=a.map (s.tm g)
def Wn (s:GSys) (l:List Int) (g:Int):Bool:=l.all fun u=>s.le u g
def zeros (n:Nat):List Int:=List.replicate n 0
def Yv (ty nd:List Int):Int×List Int×List Int:=if ty.length≤40 then (0,ty,nd) else (3,[],[])
def ndP (op:Int) (ds:List TT) (i:Nat):List Int:=(ds.getD i (.mk [] [] [])).needs.drop (Qy op i).toNat
def usP (op:Int) (ds:List TT) (i:Nat):List Int:=(ds.getD i (.mk [] [] [])).needs.take (Qy op i).toNat
def tyP (ds:List TT) (i:Nat):List Int:=(ds.getD i (.mk [] [] [])).ty
def QZ (s:GSys) (ctx:List (List Int)) (op n:Int) (ty:List Int) (ds:List TT):Int×List Int×List Int :=
 if op=0 then (0,ctx.getD n.toNat [],(zeros ctx.length).set n.toNat 1)
 else if op=1 then (0,[0],zeros ctx.length)
 else if op=2 then (0,[0],YL s (ndP op ds 0) (ndP op ds 1))
 else if op=3 then (if tyP ds 1=tyP ds 2 then (0,tyP ds 1,YL s (ndP op ds 0) (Yl s (ndP op ds 1) (ndP op ds 2))) else (3,[],[]))
 else if op=4 then Yv (1::(tyP ds 0++tyP ds 1)) (YL s (ndP op ds 0) (ndP op ds 1))
 else if op=5 then (if Wn s (usP op ds 1) n=true then (0,tyP ds 1,YL s (Wa s n (ndP op ds 0)) (ndP op ds 1)) else (9,[],[]))
 else if op=6 then Yv (2::(tyP ds 0++ty)) (ndP op ds 0)
 else if op=7 then Yv (2::(ty++tyP ds 0)) (ndP op ds 0)
 else if op=8 then (if tyP ds 1=tyP ds 2 then (if Wn s (usP op ds 1) n=true∧Wn s (usP op ds 2) n=true then (0,tyP ds 1,YL s (Wa s n (ndP op ds 0)) (Yl s (ndP op ds 1) (ndP op ds 2))) else (9,[],[])) else (3,[],[]))
 else if op=9 then (if Wn s (usP op ds 0) n=true then Yv ((3+n)::(ty++tyP ds 0)) (ndP op ds 0) else (9,[],[]))
 else if op=10 then (0,Wj (tyP ds 0),YL s (ndP op ds 0) (Wa s (QH (hd (tyP ds 0))).2 (ndP op ds 1)))
 else if op=11 then Yv ((19+n)::tyP ds 0) (Wa s n (ndP op ds 0))
 else (if Wn s (usP op ds 1) (s.tm n (QH (hd (tyP ds 0))).2)=true then (0,tyP ds 1,YL s (Wa s n (ndP op ds 0)) (ndP op ds 1)) else (9,[],[]))
inductive KRes where
 | ok (ds:List TT)
 | bad (f:Int) (p:List Int)
def first (ds:List TT):List Int:=tyP ds 0
mutual
def Qr (s:GSys) (ctx:List (List Int)):GTerm→Res
 | .mk op n _ ty _ ks=>match Wf s ctx op n ty [] ks with
  | .bad f p=>.bad f p
  | .ok ds=>if (QZ s ctx op n ty ds).1=0 then .ok (.mk (QZ s ctx op n ty ds).2.1 (QZ s ctx op n ty ds).2.2 ds) else .bad (QZ s ctx op n ty ds).1 []
def Wf (s:GSys) (ctx:List (List Int)) (op n:Int) (ty:List Int) (ds:List TT):List GTerm→KRes
 | []=>.ok ds
 | k::ks=>match Qr s (Qx op ty ds.length (first ds)++ctx) k with
  | .bad f p=>.bad f ((ds.length:Int)::p)
  | .ok x=>if QT s op n ds.length (hd x.ty)≠0 then .bad (QT s op n ds.length (hd x.ty)) []
   else if op=10∧ds.length=1∧x.ty≠QJ (first ds) then .bad 3 [] else Wf s ctx op n ty (ds++[x]) ks
end
def TT.good (s:GSys) (n:Nat) (x:TT):Prop:=okL s.size x.ty=true∧x.needs.length=n∧∀ u∈x.needs,s.G u
theorem ZnM:∀ n:Fin 37,((QH ((n.val:Nat):Int)).1=0 ↔ n.val=0)∧((QH ((n.val:Nat):Int)).1=1 ↔ n.val=1)∧((QH ((n.val:Nat):Int)).1=2 ↔ n.val=2) ∧
  ((QH ((n.val:Nat):Int)).1=3 ↔ QW ((n.val:Nat):Int)=true)∧((QH ((n.val:Nat):Int)).1=4 ↔ WW ((n.val:Nat):Int)=true) ∧
  ((QW ((n.val:Nat):Int)=true∨WW ((n.val:Nat):Int)=true)→(QH ((n.val:Nat):Int)).2=XO ((n.val:Nat):Int)):=by decide
theorem JQ {c:Int} (h0:0≤c) (h1:c≤36):((QH c).1=0 ↔ c=0)∧((QH c).1=1 ↔ c=1)∧((QH c).1=2 ↔ c=2)∧((QH c).1=3 ↔ QW c=true)∧((QH c).1=4 ↔ WW c=true)∧((QW c=true∨WW c=true)→(QH c).2=XO c):=by
 have:=ZnM ⟨c.toNat,by omega⟩
 simp only [show ((c.toNat:Nat):Int)=c by omega] at this
 obtain ⟨a,b,c',d,e,f⟩:=this
 exact ⟨a.trans (by omega),b.trans (by omega),c'.trans (by omega),d,e,f⟩
theorem Yr:W2 1=some 2∧W2 2=some 2:=by decide
theorem Zbt {c:Int} (h:QW c=true):W2 c=some 2:=by
 unfold W2
 rw [Zm] at h
 rw [if_neg (by omega),if_pos]
 right;right;rw [Zm];exact h
theorem ZfK {c:Int} (h:WW c=true):W2 c=some 1:=by
 have h':=h
 rw [V0] at h
 unfold W2
 rw [if_neg (by omega),if_neg (by rw [Zm];omega),if_pos h']
def ZeX (op:Int) (c:Int):Prop:=(op=2∨op=3→c=0)∧(op=5→c=1)∧(op=8→c=2)∧(op=10→QW c=true)∧(op=12→WW c=true)
theorem Zmp {s:GSys} {op n c:Int} (h0:0≤c) (h1:c≤36) (h:QT s op n 0 c=0):ZeX op c∧(op=5∨op=8∨op=12→s.le 1 n=true):=by
 obtain ⟨a,b,c',d,e,_⟩:=JQ h0 h1
 unfold QT at h
 have hw:¬ (0≤(Jo op 0).1∧(QH c).1≠(Jo op 0).1):=by
  intro hh
  rw [if_pos hh] at h
  unfold Jo at hh h
  repeat' split at h
  all_goals simp_all
 rw [if_neg hw] at h
 have hl:¬ (op=5∨op=8∨op=12)∨s.le 1 n=true:=by
  by_cases g:s.le 1 n=true
  ·exact .inr g
  ·left
   intro g2
   rw [if_pos ⟨rfl,g2,by simpa using g⟩] at h
   omega
 refine ⟨?_,fun g=>hl.resolve_left (fun k=>k g)⟩
 unfold Jo at hw
 refine ⟨fun g=>?_,fun g=>?_,fun g=>?_,fun g=>?_,fun g=>?_⟩
 ·have:(QH c).1=0:=by rcases g with rfl | rfl<;>simpa using hw
  exact a.1 this
 ·subst g;simp at hw;exact b.1 hw
 ·subst g;simp at hw;exact c'.1 hw
 ·subst g;simp at hw;exact d.1 hw
 ·subst g;simp at hw;exact e.1 hw
theorem K3 (op k:Int):0≤Qy op k∧Qy op k≤2:=by
 unfold Qy;split
 ·omega
 ·split<;>omega
theorem Zbf (op:Int) (ty:List Int) (i:Nat) (f:List Int):(Qx op ty i f).length=(Qy op i).toNat:=by
 unfold Qx Qy
 by_cases h9:op=9
 ·subst h9;simp
 ·rw [if_neg h9]
  by_cases h5:op=5∧(i:Int)=1
  ·rw [if_pos h5,if_pos h5.1];simp
  ·rw [if_neg h5]
   by_cases h8:(op=8∧0 < (i:Int))∨op=9∨(op=12∧(i:Int)=1)
   ·rw [if_pos h8]
    have:op≠5:=by omega
    rw [if_neg (by omega),if_neg this]
    split<;>simp
   ·rw [if_neg h8];simp
theorem ZiE {size:Int} {op:Int} {ty:List Int} {i:Nat} {f:List Int} (hty:op=9→okL size ty=true) (hf:i≠0→okL size f=true∧ZeX op (hd f)):∀ l∈Qx op ty i f,okL size l=true:=by
 unfold Qx
 by_cases h9:op=9
 ·rw [if_pos h9];intro l hl;simp at hl;subst hl;exact hty h9
 ·rw [if_neg h9]
  split
  ·simp
  ·rename_i ha
   have hi:i≠0:=by rintro rfl;apply ha;unfold Qy;rw [if_neg (by omega),if_neg (by omega)]
   obtain ⟨hf1,hf2⟩:=hf hi
   obtain ⟨q2,q5,q8,q10,q12⟩:=hf2
   split
   ·rename_i h5
    have:=ZZ hf1 (by rw [q5 h5];exact Yr.1)
    intro l hl;simp at hl
    rcases hl with rfl | rfl
    ·exact this.2.2
    ·exact this.2.1
   ·split
    ·rename_i h8
     have:=ZZ hf1 (by rw [q8 h8];exact Yr.2)
     intro l hl;simp at hl;subst hl
     split
     ·exact this.2.1
     ·exact this.2.2
    ·have h12:op=12:=by
      unfold Qy at ha
      rename_i h5 h8
      rw [if_neg (by omega)] at ha
      by_cases g:(op=8∧0 < (i:Int))∨op=9∨(op=12∧(i:Int)=1)
      ·omega
      ·rw [if_neg g] at ha;simp at ha
     have:=Zh5 hf1 (ZfK (q12 h12))
     intro l hl;simp at hl;subst hl;exact this.2.2
structure KidsOk (s:GSys) (c:Nat) (op n:Int) (ds:List TT):Prop where
 each:∀ (i:Nat) (x:TT),ds[i]?=some x→x.good s (c+(Qy op i).toNat)∧QT s op n i (hd x.ty)=0
 app:op=10→∀ x,ds[1]?=some x→x.ty=QJ (first ds)
theorem KidsOk.first {s:GSys} {c:Nat} {op n:Int} {ds:List TT} (k:KidsOk s c op n ds) (h:ds≠[]):okL s.size (first ds)=true∧ZeX op (hd (first ds))∧(op=5∨op=8∨op=12→s.le 1 n=true):=by
 obtain ⟨x,ds,rfl⟩:∃ x l,ds=x::l:=by
  cases ds with
  | nil=>exact absurd rfl h
  | cons x l=>exact ⟨x,l,rfl⟩
 obtain ⟨⟨h1,_,_⟩,h2⟩:=k.each 0 x rfl
 have:=Yn h1
 simp only [Go.Proofs.YtbmepminmpjlcaaGreat.first,List.getD_eq_getElem?_getD,List.getElem?_cons_zero,Option.getD_some]
 exact ⟨h1,Zmp this.2.1 this.2.2.1 h2⟩
theorem KidsOk.snoc {s:GSys} {c:Nat} {op n:Int} {ds:List TT} {x:TT} (k:KidsOk s c op n ds) (h1:x.good s (c+(Qy op ds.length).toNat)) (h2:QT s op n ds.length (hd x.ty)=0) (h3:¬ (op=10∧ds.length=1∧x.ty≠QJ (Go.Proofs.YtbmepminmpjlcaaGreat.first ds))):KidsOk s c op n (ds++[x]):=by
 refine ⟨fun i y hy=>?_,fun h10 y hy=>?_⟩
 ·rcases Nat.lt_trichotomy i ds.length with g | g | g
  ·rw [List.getElem?_append_left g] at hy;exact k.each i y hy
  ·subst g
   rw [List.getElem?_append_right (Nat.le_refl _)] at hy
   simp at hy;subst hy;exact ⟨h1,h2⟩
  ·rw [List.getElem?_append_right (by omega),List.getElem?_eq_none (by simp;omega)] at hy;simp at hy
 ·have hf:ds≠[]→Go.Proofs.YtbmepminmpjlcaaGreat.first (ds++[x])=Go.Proofs.YtbmepminmpjlcaaGreat.first ds:=by
   intro g
   cases ds with
   | nil=>exact absurd rfl g
   | cons a l=>simp [Go.Proofs.YtbmepminmpjlcaaGreat.first,tyP]
  rcases Nat.lt_trichotomy 1 ds.length with g | g | g
  ·rw [List.getElem?_append_left g] at hy
   rw [hf (by rintro rfl;simp at g)]
   exact k.app h10 y hy
  ·rw [List.getElem?_append_right (by omega),← g] at hy
   simp at hy;subst hy
   rw [hf (by rintro rfl;simp at g)]
   by_cases e:x.ty=QJ (Go.Proofs.YtbmepminmpjlcaaGreat.first ds)
   ·exact e
   ·exact absurd ⟨h10,g.symm,e⟩ h3
  ·rw [List.getElem?_append_right (by omega),List.getElem?_eq_none (by simp;omega)] at hy;simp at hy
theorem ZcR {s:GSys} (t:s.Tab) {a b:List Int} {n:Nat} (ha:a.length=n) (hb:b.length=n):(YL s a b).length=n∧∀ u∈YL s a b,s.G u:=by
 refine ⟨by simp [YL,ha,hb],fun u hu=>?_⟩
 unfold YL at hu
 rw [List.zipWith_eq_zipWith_take_min] at hu
 simp only [List.mem_iff_getElem,List.getElem_zipWith] at hu
 obtain ⟨i,hi,rfl⟩:=hu
 exact GSys.Gpl t _ _
theorem Yc {s:GSys} (t:s.Tab) {g:Int} {a:List Int} {n:Nat} (ha:a.length=n):(Wa s g a).length=n∧∀ u∈Wa s g a,s.G u:=by
 refine ⟨by simp [Wa,ha],fun u hu=>?_⟩
 simp only [Wa,List.mem_map] at hu
 obtain ⟨x,_,rfl⟩:=hu
 exact GSys.Gtm t _ _
theorem V1 {s:GSys} (t:s.Tab) (n:Nat):(zeros n).length=n∧∀ u∈zeros n,s.G u:=by
 refine ⟨by simp [zeros],fun u hu=>?_⟩
 simp [zeros] at hu
 rw [hu.2];exact GSys.G0 t
theorem one_ok {s:GSys} (t:s.Tab) (n i:Nat):((zeros n).set i 1).length=n∧∀ u∈(zeros n).set i 1,s.G u:=by
 refine ⟨by simp [zeros],fun u hu=>?_⟩
 rcases List.mem_or_eq_of_mem_set hu with hu | rfl
 ·exact (V1 t n).2 u hu
 ·exact GSys.G1 t
theorem ZdH {s:GSys} {c:Nat} {op:Int} {i:Nat} {x:TT} (h:x.good s (c+(Qy op i).toNat)):(x.needs.drop (Qy op i).toNat).length=c∧∀ u∈x.needs.drop (Qy op i).toNat,s.G u :=
 ⟨by rw [List.length_drop,h.2.1];omega,fun u hu=>h.2.2 u (List.mem_of_mem_drop hu)⟩
theorem Zne {size:Int}:okC size true 1=true∧okC size true 2=true:=by
 unfold okC
 exact ⟨by simp [QW,WW],by simp [QW,WW]⟩
theorem Zpc {size n:Int} (h0:0≤n) (h1:n < size) (h2:size≤16):QW (3+n)=true∧XO (3+n)=n∧okC size true (3+n)=true∧W2 (3+n)=some 2:=by
 have ha:QW (3+n)=true:=by rw [Zm];omega
 have hg:XO (3+n)=n:=by unfold XO;rw [if_neg (by omega),if_neg (by omega)];omega
 refine ⟨ha,hg,?_,Zbt ha⟩
 unfold okC
 rw [hg];simp [Qi,Qf,h0,h1]
theorem code_box {size n:Int} (h0:0≤n) (h1:n < size) (h2:size≤16):WW (19+n)=true∧XO (19+n)=n∧okC size true (19+n)=true∧W2 (19+n)=some 1:=by
 have ha:WW (19+n)=true:=by rw [V0];omega
 have hg:XO (19+n)=n:=by unfold XO;rw [if_neg (by omega),if_pos (by omega)];omega
 refine ⟨ha,hg,?_,ZfK ha⟩
 unfold okC
 rw [hg];simp [Qi,Qf,h0,h1]
structure NodeOk (s:GSys) (c:Nat) (op n:Int) (ty:List Int) (len:Nat):Prop where
 many:(len:Int)=Xp op
 var:op=0→0≤n∧n < c
 grade:Yd op=true→s.G n
 typed:XC op=true→okL s.size ty=true
 op13:0≤op∧op≤12
theorem ZdO {s:GSys} {c:Nat} {op n:Int} {ty:List Int} {len:Nat} (h:Zeq c s.size true op n ty len=true):NodeOk s c op n ty len:=by
 unfold Zeq at h
 simp only [Bool.and_eq_true] at h
 obtain ⟨h1,h2,h3⟩:=h
 have hop:op=0∨op=1∨op=2∨op=3∨op=4∨op=5∨op=6∨op=7∨op=8∨op=9∨op=10∨op=11∨op=12:=ops13 (ZpE h1)
 rw [Qc] at h1
 refine ⟨h1,fun h0=>?_,fun hh=>?_,fun ht=>?_,by omega⟩
 ·subst h0
  simp [numB,Wv] at h2
  omega
 ·have h01:op≠0∧op≠1:=by
   constructor<;>(rintro rfl;simp [Yd,Qc] at hh)
  unfold numB at h2
  rw [if_neg (by simp [Qb,h01.1]),if_neg (by simp [Qb,h01.2]),if_pos hh] at h2
  simp [Qi,Qf] at h2
  exact ⟨by omega,by omega⟩
 ·unfold tyB at h3
  rw [if_pos ht] at h3
  exact h3
theorem Zcc {s:GSys} {a b:List Int} {n:Nat} (ha:a.length=n) (hb:b.length=n):(Yl s a b).length=n:=by simp [Yl,ha,hb]
theorem Yj {ty nd:List Int} (h:(Yv ty nd).1=0):ty.length≤40∧(Yv ty nd).2.1=ty∧(Yv ty nd).2.2=nd:=by
 unfold Yv at h ⊢
 split at h
 ·rename_i g;rw [if_pos g];exact ⟨g,rfl,rfl⟩
 ·simp at h
theorem Zrs {s:GSys} (t:s.Tab) {ctx:List (List Int)} (hc:∀ l∈ctx,okL s.size l=true) {op n:Int} {ty:List Int} {ds:List TT} (nd:NodeOk s ctx.length op n ty ds.length) (k:KidsOk s ctx.length op n ds)
  (h:(QZ s ctx op n ty ds).1=0):TT.good s ctx.length (.mk (QZ s ctx op n ty ds).2.1 (QZ s ctx op n ty ds).2.2 ds):=by
 have h16:=t.hi
 obtain ⟨many,hvar,hgr,hty,o1,o2⟩:=nd
 have get:∀ i,i < ds.length→∃ x,ds[i]?=some x∧x.good s (ctx.length+(Qy op i).toNat):=fun i hi =>
  ⟨_,List.getElem?_eq_getElem hi,(k.each i _ (List.getElem?_eq_getElem hi)).1⟩
 have tyG:∀ i,i < ds.length→okL s.size (tyP ds i)=true:=fun i hi=>by
  obtain ⟨x,h1,h2⟩:=get i hi
  unfold tyP;rw [List.getD_eq_getElem?_getD,h1];exact h2.1
 have ndL:∀ i,i < ds.length→(ndP op ds i).length=ctx.length:=fun i hi=>by
  obtain ⟨x,h1,h2⟩:=get i hi
  unfold ndP;rw [List.getD_eq_getElem?_getD,h1];exact (ZdH h2).1
 have ndG:∀ i,i < ds.length→∀ u∈ndP op ds i,s.G u:=fun i hi=>by
  obtain ⟨x,h1,h2⟩:=get i hi
  unfold ndP;rw [List.getD_eq_getElem?_getD,h1];exact (ZdH h2).2
 have fst:0 < ds.length→ZeX op (hd (tyP ds 0)):=fun hi=>(k.first (by rintro rfl;simp at hi)).2.1
 have hops:op=0∨op=1∨op=2∨op=3∨op=4∨op=5∨op=6∨op=7∨op=8∨op=9∨op=10∨op=11∨op=12:=by omega
 rcases hops with e | e | e | e | e | e | e | e | e | e | e | e | e
 all_goals subst e
 all_goals simp [Xp] at many
 all_goals simp [QZ] at h ⊢
 ·obtain ⟨v0,v1⟩:=hvar rfl
  refine ⟨?_,one_ok t _ _⟩
  simp only [TT.ty_mk]
  rw [List.getElem?_eq_getElem (by omega)]
  exact hc _ (List.getElem_mem _)
 ·exact ⟨Zqt _,V1 t _⟩
 ·exact ⟨Zqt _,ZcR t (ndL 0 (by omega)) (ndL 1 (by omega))⟩
 ·split at h
  ·rename_i e
   rw [if_pos e]
   exact ⟨tyG 1 (by omega),ZcR t (ndL 0 (by omega)) (Zcc (ndL 1 (by omega)) (ndL 2 (by omega)))⟩
  ·simp at h
 ·obtain ⟨g1,g2,g3⟩:=Yj h
  rw [g2,g3]
  exact ⟨ZhW (tyG 0 (by omega)) (tyG 1 (by omega)) Yr.1 Zne.1 g1,ZcR t (ndL 0 (by omega)) (ndL 1 (by omega))⟩
 ·split at h
  ·rename_i e
   rw [if_pos e]
   exact ⟨tyG 1 (by omega),ZcR t (Yc t (ndL 0 (by omega))).1 (ndL 1 (by omega))⟩
  ·simp at h
 ·obtain ⟨g1,g2,g3⟩:=Yj h
  rw [g2,g3]
  exact ⟨ZhW (tyG 0 (by omega)) (hty (by simp [XC,Qc])) Yr.2 Zne.2 g1,ndL 0 (by omega),ndG 0 (by omega)⟩
 ·obtain ⟨g1,g2,g3⟩:=Yj h
  rw [g2,g3]
  exact ⟨ZhW (hty (by simp [XC,Qc])) (tyG 0 (by omega)) Yr.2 Zne.2 g1,ndL 0 (by omega),ndG 0 (by omega)⟩
 ·split at h
  ·rename_i e
   split at h
   ·rename_i e2
    rw [if_pos e,if_pos e2]
    exact ⟨tyG 1 (by omega),ZcR t (Yc t (ndL 0 (by omega))).1 (Zcc (ndL 1 (by omega)) (ndL 2 (by omega)))⟩
   ·simp at h
  ·simp at h
 ·have hg:=hgr (by simp [Yd,Qc])
  obtain ⟨_,_,c1,c2⟩:=Zpc hg.1 hg.2 h16
  split at h
  ·rename_i e
   obtain ⟨g1,g2,g3⟩:=Yj h
   rw [if_pos e,g2,g3]
   exact ⟨ZhW (hty (by simp [XC,Qc])) (tyG 0 (by omega)) c2 c1 g1,ndL 0 (by omega),ndG 0 (by omega)⟩
  ·simp at h
 ·exact ⟨(ZZ (tyG 0 (by omega)) (Zbt ((fst (by omega)).2.2.2.1 rfl))).2.2,ZcR t (ndL 0 (by omega)) (Yc t (ndL 1 (by omega))).1⟩
 ·have hg:=hgr (by simp [Yd,Qc])
  obtain ⟨_,_,c1,c2⟩:=code_box hg.1 hg.2 h16
  obtain ⟨g1,g2,g3⟩:=Yj h
  rw [g2,g3]
  exact ⟨okL_mk1 (tyG 0 (by omega)) c2 c1 g1,Yc t (ndL 0 (by omega))⟩
 ·split at h
  ·rename_i e
   rw [if_pos e]
   exact ⟨tyG 1 (by omega),ZcR t (Yc t (ndL 0 (by omega))).1 (ndL 1 (by omega))⟩
  ·simp at h
theorem ext_ok {s:GSys} {ctx:List (List Int)} (hc:∀ l∈ctx,okL s.size l=true) {op n:Int} {ty:List Int} {ds:List TT} (hty:op=9→okL s.size ty=true) (k:KidsOk s ctx.length op n ds) :
  ∀ l∈Qx op ty ds.length (first ds)++ctx,okL s.size l=true:=by
 intro l hl
 rcases List.mem_append.1 hl with hl | hl
 ·exact ZiE hty (fun hi=>by
   have:=k.first (by rintro rfl;simp at hi)
   exact ⟨this.1,this.2.1⟩) l hl
 ·exact hc l hl
mutual
theorem V6 {s:GSys} (t:s.Tab):∀ (g:GTerm) (ctx:List (List Int)) (x:TT),(∀ l∈ctx,okL s.size l=true)→Zk ctx.length s.size true g=true→Qr s ctx g=.ok x→x.good s ctx.length
 | .mk op n nl1 ty nl2 ks,ctx,x,hc,hf,he=>by
  simp only [Zk,Bool.and_eq_true] at hf
  have nd:=ZdO hf.1
  rw [Qr] at he
  split at he
  ·simp at he
  ·rename_i ds hd
   split at he
   ·rename_i h0
    simp only [Res.ok.injEq] at he
    subst he
    obtain ⟨k,hl⟩:=ZeJ t ks ctx op n ty [] ds hc (fun h9=>nd.typed (by subst h9;simp [XC,Qc])) (by simpa using hf.2) ⟨fun i x h=>by simp at h,fun _ x h=>by simp at h⟩ hd
    exact Zrs t hc (by rw [show ds.length=ks.length by simpa using hl];exact nd) k h0
   ·simp at he
theorem ZeJ {s:GSys} (t:s.Tab):∀ (ks:List GTerm) (ctx:List (List Int)) (op n:Int) (ty:List Int) (ds ds':List TT),(∀ l∈ctx,okL s.size l=true)→(op=9→okL s.size ty=true) →
  Z9 ctx.length s.size true op ds.length ks=true→KidsOk s ctx.length op n ds→Wf s ctx op n ty ds ks=.ok ds'→KidsOk s ctx.length op n ds'∧ds'.length=ds.length+ks.length
 | [],ctx,op,n,ty,ds,ds',hc,hty,hf,k,he=>by
  simp only [Wf,KRes.ok.injEq] at he
  subst he;exact ⟨k,rfl⟩
 | g::ks,ctx,op,n,ty,ds,ds',hc,hty,hf,k,he=>by
  simp only [Z9,Bool.and_eq_true] at hf
  rw [Wf] at he
  split at he
  ·simp at he
  ·rename_i x hx
   split at he
   ·simp at he
   ·rename_i h1
    split at he
    ·simp at he
    ·rename_i h2
     have hlen:(Qx op ty ds.length (first ds)++ctx).length=ctx.length+(Qy op ds.length).toNat:=by
      rw [List.length_append,Zbf];omega
     have:=K3 op ds.length
     have hg:=V6 t g _ x (ext_ok hc hty k) (by rw [hlen,show ((ctx.length+(Qy op ds.length).toNat:Nat):Int)=ctx.length+Qy op ds.length by omega];exact hf.1) hx
     rw [hlen] at hg
     have k2:=k.snoc hg (by simpa using h1) h2
     have:=ZeJ t ks ctx op n ty (ds++[x]) ds' hc hty (by rw [List.length_append];exact hf.2) k2 he
     exact ⟨this.1,by rw [this.2];simp;omega⟩
end
def FnN (P:Program) (f:LV) (a b n:Int):Prop:=∃ fid vals,ZD f [N a,N b]=some (fid,vals)∧QG 0 vals∧Qe P fid vals (·=N n)
theorem onFn_N {P:Program} {f:LV} {a b n:Int} {d:Nat} {K:St→Prop} {s:St} (h:FnN P f a b n) (hk:K { t:=upd s.t d (N n),h:=s.h }):onFn P .no f [N a,N b] (some d) K s:=by
 obtain ⟨fid,vals,h1,h2,h3⟩:=h
 exact ⟨fid,vals,h1,Qa (rw:=.no) h3 h2 hk⟩
theorem ZqN {z:List LV} {h0:List Box} {l:List Int} (e:z=l.map N):Qo (h0++[some z]) (.ha h0.length 1 0 l.length l.length)=some (OU true false l,h0++[none]):=by
 subst e
 rw [frz_ha (xs:=l.map N) (by simp) (by simp)]
 simp [ZjN]
theorem frz_1 (l:List Int):Qo [none,some (l.map N)] (.ha 1 1 0 l.length l.length)=some (OU true false l,[none,none]):=ZqN (h0:=[none]) rfl
theorem fill_N {l:List Int}:fill (fun x=>[N x]) [N 0] l l.length=l.map N:=by
 rw [Zfu];induction l with
 | nil=>rfl
 | cons x l ih=>simpa using ih
theorem Zqz (s:GSys) (f:LV) (g:Int→Int→Int) (sf:share f=f) (lf:Low 0 f) (n1 n2:Bool) (a b:List Int) (hl:a.length≤1099511627776) (hab:a.length=b.length)
  (hp:∀ (i:Nat) (h:i < a.length),FnN Tryz.prog f a[i] (b[i]'(by omega)) (g a[i] (b[i]'(by omega)))):Qe Tryz.prog YM [s.lv,f,L n1 a,L n2 b] (·=OU true false (List.zipWith g a b)):=by
 obtain ⟨z,hze⟩:∃ z,z=List.zipWith g a b:=⟨_,rfl⟩
 have hz:z.length=a.length:=by rw [hze];simp [hab]
 have hget:∀ (i:Nat) (h:i < a.length),z[i]'(by omega)=g a[i] (b[i]'(by omega)):=by intro i h;simp [hze]
 rw [← hze]
 clear hze
 refine Qe.of_codeOf ZdT Qz (by simp) ⟨_,rfl,by simp⟩ ?_
 have hm:(a.length:Int)≤(WV:Nat):=by unfold WV;omega
 have he:∀ x:Int,([N x]:List LV).length=1:=by simp
 simp (disch:=omega) [Vv,hm,sf,Qu,Qo]
 refine Wc a.length 0 (fun i t h=>t 16=N i∧h=[none,some (fill (fun x=>[N x]) [N 0] z i)]) (by simp [ZbD,hz]) (by omega) ?_
 rintro i t1 hh hf hi ⟨e16,rfl⟩
 (have e1:=hf 1 (by kernel_rfl);have e2:=hf 2 (by kernel_rfl);have e3:=hf 3 (by kernel_rfl);have e9:=hf 9 (by kernel_rfl);have e15:=hf 15 (by kernel_rfl);clear hf;simp [sf] at e1 e2 e3 e9 e15)
 simp (disch:=omega) [e1,e2,e3,e9,e15,e16]
 (with_reducible first | refine Qm (fun h6=>?_) (fun h6=>?_) | refine Qn (fun h6=>?_) (fun h6=>?_))
 ·simp only [Qf,Qd,Qi,Qh,Qc,Qb,Bool.not_true,Bool.not_false] at h6
  have hlen:=Zdc (z:=[N 0]) (l:=z) he rfl (i:=i) (by omega)
  have hst:=ZbC (z:=[N 0]) (l:=z) he rfl (i:=i) (by omega)
  have hpi:=hp i (by omega)
  rw [hget i (by omega)] at hst
  simp (disch:=omega) [e1,e2,e3,e9,e15,e16,Xq,sf]
  refine onFn_N hpi ?_
  simp (disch:=omega) [e1,e2,e3,e9,e15,e16,Jb,Qg,hlen]
  exact ⟨by omega,by omega,by simpa [splice] using hst⟩
 ·simp only [Qf,Qd,Qi,Qh,Qc,Qb,Bool.not_true,Bool.not_false] at h6
  rw [show i=z.length by omega,fill_N]
  simp (disch:=omega) [e9]
  rw [show a.length=z.length by omega,frz_1]
  simp
theorem plus_fn {s:GSys} (t:s.Tab) {a b:Int} (ha:s.G a) (hb:s.G b):FnN Tryz.prog (.fnm QC [s.lv]) a b (s.pl a b) :=
 ⟨QC,[s.lv,N a,N b],by simp [ZD],by simp,ZdB t ha hb⟩
theorem join_fn {s:GSys} (t:s.Tab) {a b:Int} (ha:s.G a) (hb:s.G b):FnN Tryz.prog (.fnm W0 [s.lv]) a b (s.join a b) :=
 ⟨W0,[s.lv,N a,N b],by simp [ZD],by simp,ZqM t ha hb⟩
theorem sumF_ok {s:GSys} (t:s.Tab) (n1 n2:Bool) (a b:List Int) (hl:a.length≤1099511627776) (hab:a.length=b.length) (ha:∀ u∈a,s.G u) (hb:∀ u∈b,s.G u) :
  Qe Tryz.prog WG [s.lv,L n1 a,L n2 b] (·=OU true false (YL s a b)):=by
 refine Qe.of_codeOf ZeL Qz (by simp) ⟨_,rfl,by simp⟩ ?_
 have h:=Zqz s (.fnm QC [s.lv]) s.pl (by simp) (by simp) n1 n2 a b hl hab (fun i hi=>plus_fn t (ha _ (List.getElem_mem _)) (hb _ (List.getElem_mem _)))
 simp (disch:=omega) [VT,Qu,Qo]
 refine Qa (r:=OU true false (YL s a b)) h (by simp) ?_
 simp (disch:=omega)
theorem ZoQ {s:GSys} (t:s.Tab) (n1 n2:Bool) (a b:List Int) (hl:a.length≤1099511627776) (hab:a.length=b.length) (ha:∀ u∈a,s.G u) (hb:∀ u∈b,s.G u) :
  Qe Tryz.prog YN [s.lv,L n1 a,L n2 b] (·=OU true false (Yl s a b)):=by
 refine Qe.of_codeOf ZdR Qz (by simp) ⟨_,rfl,by simp⟩ ?_
 have h:=Zqz s (.fnm W0 [s.lv]) s.join (by simp) (by simp) n1 n2 a b hl hab (fun i hi=>join_fn t (ha _ (List.getElem_mem _)) (hb _ (List.getElem_mem _)))
 simp (disch:=omega) [Vu,Qu,Qo]
 refine Qa (r:=OU true false (Yl s a b)) h (by simp) ?_
 simp (disch:=omega)
theorem VU {s:GSys} (t:s.Tab) (g:Int) (hg:s.G g) (n1:Bool) (a:List Int) (hl:a.length≤1099511627776) (ha:∀ u∈a,s.G u) :
  Qe Tryz.prog WS [s.lv,N g,L n1 a] (·=OU true false (Wa s g a)):=by
 obtain ⟨z,hze⟩:∃ z,z=Wa s g a:=⟨_,rfl⟩
 have hz:z.length=a.length:=by rw [hze];simp [Wa]
 have hget:∀ (i:Nat) (h:i < a.length),z[i]'(by omega)=s.tm g a[i]:=by intro i h;simp [hze,Wa]
 rw [← hze]
 clear hze
 refine Qe.of_codeOf ZcH Qz (by simp) ⟨_,rfl,by simp⟩ ?_
 have hm:(a.length:Int)≤(WV:Nat):=by unfold WV;omega
 have he:∀ x:Int,([N x]:List LV).length=1:=by simp
 simp (disch:=omega) [Ko,hm,Qu,Qo]
 refine Wc a.length 0 (fun i t h=>t 15=N i∧h=[none,some (fill (fun x=>[N x]) [N 0] z i)]) (by simp [ZbD,hz]) (by omega) ?_
 rintro i t1 hh hf hi ⟨e15,rfl⟩
 (have e1:=hf 1 (by kernel_rfl);have e3:=hf 3 (by kernel_rfl);have e7:=hf 7 (by kernel_rfl);have e13:=hf 13 (by kernel_rfl);have e14:=hf 14 (by kernel_rfl);clear hf;simp [] at e1 e3 e7 e13 e14)
 simp (disch:=omega) [e1,e3,e7,e13,e14,e15]
 (with_reducible first | refine Qm (fun h6=>?_) (fun h6=>?_) | refine Qn (fun h6=>?_) (fun h6=>?_))
 ·simp only [Qf,Qd,Qi,Qh,Qc,Qb,Bool.not_true,Bool.not_false] at h6
  have hlen:=Zdc (z:=[N 0]) (l:=z) he rfl (i:=i) (by omega)
  have hst:=ZbC (z:=[N 0]) (l:=z) he rfl (i:=i) (by omega)
  rw [hget i (by omega)] at hst
  simp (disch:=omega) [e1,e3,e7,e13,e14,e15,Xq]
  refine Qa (Jr t hg (ha _ (List.getElem_mem (show i < a.length by omega)))) (by simp) ?_
  simp (disch:=omega) [e1,e3,e7,e13,e14,e15,Jb,Qg,hlen]
  exact ⟨by omega,by omega,by simpa [splice] using hst⟩
 ·simp only [Qf,Qd,Qi,Qh,Qc,Qb,Bool.not_true,Bool.not_false] at h6
  rw [show i=z.length by omega,fill_N]
  simp (disch:=omega) [e7]
  rw [show a.length=z.length by omega,frz_1]
  simp
theorem Zld (f:LV) (p:Int→Bool) (sf:share f=f) (lf:Low 0 f) (nl:Bool) (l:List Int) (hlen:l.length≤1099511627776) (hp:∀ c∈l,FnB Tryz.prog f (N c) (p c)) :
  Qe Tryz.prog Xc [L nl l,f] (fun r=>∃ n:Int,r=N n∧leB 0 n=l.any p):=by
 refine Qe.of_codeOf YY Qz (by simp) ⟨N (if l.any p=true then 0 else -1),⟨_,rfl,by split<;>simp_all [leB]⟩,by simp⟩ ?_
 simp (disch:=omega) [XM,sf]
 refine Wc l.length 0 (fun i t _=>t 8=N i∧l.any p=(l.drop i).any p) (by simp) (by omega) ?_
 rintro i t1 hh hf hi ⟨e8,hj⟩
 (have e0:=hf 0 (by kernel_rfl);have e1:=hf 1 (by kernel_rfl);have e6:=hf 6 (by kernel_rfl);have e7:=hf 7 (by kernel_rfl);clear hf;simp [sf] at e0 e1 e6 e7)
 simp (disch:=omega) [e0,e1,e6,e7,e8]
 (with_reducible first | refine Qm (fun h6=>?_) (fun h6=>?_) | refine Qn (fun h6=>?_) (fun h6=>?_))
 ·simp only [Qf,Qd,Qi,Qh,Qc,Qb,Bool.not_true,Bool.not_false] at h6
  have hd:=List.drop_eq_getElem_cons (l:=l) (i:=i) (by omega)
  have hpc:=hp (l[i]'(by omega)) (List.getElem_mem _)
  simp (disch:=omega) [e0,e1,e6,e7,e8,Xq,sf]
  repeat' (first
  | with_reducible refine Zjc hpc ?_
  | (with_reducible (first | refine Qm (fun hb_=>?_) (fun hb_=>?_) | refine Qn (fun hb_=>?_) (fun hb_=>?_))<;>simp (disch:=omega) [hb_,e0,e1,e6,e7,e8,Xq,sf])
  | simp (disch:=omega) [e0,e1,e6,e7,e8,Xq,sf])
  ·rw [hj,hd,List.any_cons,hb_,Bool.true_or,Qi];omega
  ·exact ⟨by omega,Qg (by omega),by rw [hj,hd,List.any_cons,hb_,Bool.false_or]⟩
 ·simp only [Qf,Qd,Qi,Qh,Qc,Qb,Bool.not_true,Bool.not_false] at h6
  simp (disch:=omega)
  rw [hj,show i=l.length by omega,List.drop_length];simp [leB]
theorem ZgF (f:LV) (p:Int→Bool) (sf:share f=f) (lf:Low 0 f) (nl:Bool) (l:List Int) (hlen:l.length≤1099511627776) (hp:∀ c∈l,FnB Tryz.prog f (N c) (p c)) :
  Qe Tryz.prog Wr [L nl l,f] (·=B (l.any p)):=by
 refine Qe.of_codeOf Yz Qz (by simp) ⟨_,rfl,by simp⟩ ?_
 simp (disch:=omega) [Xs,sf]
 refine ZiG (Zld f p sf lf nl l hlen hp) (by simp [lf]) ?_
 rintro r ⟨n,rfl,hn⟩
 simp (disch:=omega) [sf,hn]
theorem ZnV {s:GSys} (t:s.Tab) {u g:Int} (hu:s.G u) (hg:s.G g):FnB Tryz.prog (.fn Xl [.rp s.cells,.rp [N g]]) (N u) (!s.le u g):=by
 refine ⟨Xl,[N u,.rp s.cells,.rp [N g]],by simp [ZD],by simp,?_⟩
 refine Qe.of_codeOf Za9 Qz (by simp) ⟨_,rfl,by simp⟩ ?_
 simp (disch:=omega) [JM]
 refine Qa (KY t hu hg) (by simp) ?_
 simp (disch:=omega)
theorem Zal {s:GSys} (t:s.Tab) {g:Int} (hg:s.G g) (nl:Bool) (l:List Int) (hl:l.length≤1099511627776) (hu:∀ u∈l,s.G u):Qe Tryz.prog WR [s.lv,L nl l,N g] (·=B (Wn s l g)):=by
 refine Qe.of_codeOf Zcw Qz (by simp) ⟨_,rfl,by simp⟩ ?_
 have hc:=ZgF (.fn Xl [.rp s.cells,.rp [N g]]) (fun u=>!s.le u g) (by simp) (by simp) nl l hl (fun c hc=>ZnV t (hu c hc) hg)
 simp (disch:=omega) [Kn,Qu,Qo]
 refine Qa hc (by simp) ?_
 simp (disch:=omega)
 simp [Wn,List.all_eq_not_any_not]
def cl (nl:Bool) (l:List Int):LV:=if nl=true then .sl false true 1 [] else OU true false l
theorem growI_ok (n:Int) (h0:0≤n) (h1:n≤1099511627776):Qe Tryz.prog YH [.sl false true 1 [],N n] (·=.sl (ltB 0 n) (!ltB 0 n) 1 []):=by
 refine Qe.of_codeOf Za2 Qz (by simp) ⟨_,rfl,by simp⟩ ?_
 have hm:n≤(WV:Nat):=by unfold WV;omega
 have hneg:ltB n 0=false:=by rw [Qd];omega
 simp (disch:=omega) [Jp,Qg,hneg,ZA]
 (with_reducible first | refine Qm (fun h1=>?_) (fun h1=>?_) | refine Qn (fun h1=>?_) (fun h1=>?_))
 ·have hmm:(WV:Int)=1099511627776:=rfl
  have hp:0 < n:=by rw [Qf] at h1;exact h1
  have hc:ZA 1 (.sl false true 1 []) none (some 0) none=some (.sl false true 1 []):=by simp [ZA]
  simp (disch:=omega) [h1,hc,hp,hm]
 ·simp (disch:=omega) [h1]
abbrev rowI (c:Bool×List Int):LV:=.sl false c.1 1 (c.2.map fun x=>[N x])
def Zd7 (ls:List (Bool×List Int)):List (List LV):=ls.map fun c=>[rowI c]
def lnI (ls:List (Bool×List Int)):Nat:=(ls.map fun c=>c.2.length).sum
def flI (ls:List (Bool×List Int)):List Int:=(ls.map fun c=>c.2).flatten
abbrev catI (l:List Int):LV:=.sl (ltB 0 l.length) (!ltB 0 l.length) 1 (l.map fun x=>[N x])
theorem Zh4 (a b:List (Bool×List Int)):lnI (a++b)=lnI a+lnI b:=by simp [lnI]
theorem Ziz (a:Bool×List Int) (b:List (Bool×List Int)):lnI (a::b)=a.2.length+lnI b:=by simp [lnI]
theorem flI_app (a b:List (Bool×List Int)):flI (a++b)=flI a++flI b:=by simp [flI]
theorem Zin (a:List (Bool×List Int)):(flI a).length=lnI a:=by simp [flI,lnI,Function.comp_def]
@[simp] theorem Zpw (c:Bool×List Int):share (rowI c)=rowI c:=by simp [rowI]
theorem Ziv (ls:List (Bool×List Int)) (hl:ls.length≤1099511627776) (ht:lnI ls≤1099511627776) :
  Qe Tryz.prog Q6 [.sl false false 1 (Zd7 ls)] (·=catI (flI ls)):=by
 have hlow:WF 0 (Zd7 ls):=by simp [Zd7]
 have hfl:=Zin ls
 refine Qe.of_codeOf Zab Qz (by simp) ⟨_,rfl,by simp only [low_sl,ZjF,Zg1,low_sc,Zi0,and_self,implies_true]⟩ ?_
 have hsr:Qv (Zd7 ls)=Zd7 ls:=by simp [Zd7]
 simp (disch:=omega) [ZF,hsr]
 have hrl:(Zd7 ls).length=ls.length:=by simp [Zd7]
 rw [hrl]
 have idx:∀ i:Nat,i < ls.length→QS 1 (.sl false false 1 (Zd7 ls)) (i:Int)=some (.rp [rowI (ls.getD i (false,[]))]):=fun i hi=>by
  have:=Zdn rowI Zpw ls false false i (by omega) (by omega)
  rw [Zd7,this];simp [List.getD_eq_getElem?_getD,hi]
 have tk:∀ i:Nat,i < ls.length→ls.take (i+1)=ls.take i++[ls.getD i (false,[])]:=fun i hi=>by
  rw [List.take_succ_eq_append_getElem hi];simp [List.getD_eq_getElem?_getD,hi]
 have lnle:∀ i:Nat,lnI (ls.take i)≤lnI ls:=fun i=>by
  have:=Zh4 (ls.take i) (ls.drop i)
  rw [List.take_append_drop] at this;omega
 refine Xf ls.length 0 (fun i t h=>h=[]∧t 11=N i∧t 3=N (lnI (ls.take i))) (fun t h=>h=[]∧t 3=N (lnI ls)) (by simp [lnI]) (by omega) ?_ ?_
 ·rintro i t1 hh hf hi ⟨rfl,e11,e3⟩
  (have e9:=hf 9 (by kernel_rfl);have e10:=hf 10 (by kernel_rfl);clear hf;simp [hsr] at e9 e10)
  simp (disch:=omega) [e3,e9,e10,e11]
  by_cases h6:i < ls.length
  ·have hb:ltB (i:Int) ls.length=true:=by rw [Qf];omega
   have t1':=tk i h6
   have t2:=lnle (i+1)
   have hix:=idx i h6
   rw [t1',Zh4,Ziz] at t2
   rw [t1',Zh4,Ziz]
   generalize ls.getD i (false,[])=c at t2 hix ⊢
   generalize lnI (ls.take i)=m at *
   have hnb:ltB ((m:Int)+c.2.length) 0=false:=by rw [Qd];omega
   simp (disch:=omega) [e3,e9,e10,e11,hb,hix,Qg,hnb]
   simp [lnI];omega
  ·have hb:ltB (i:Int) ls.length=false:=by rw [Qd];omega
   simp (disch:=omega) [e3,e9,e10,e11,hb]
   rw [List.take_of_length_le (by omega)]
 ·rintro t1 hh hf ⟨rfl,e3⟩
  (have e0:=hf 0 (by kernel_rfl);clear hf;simp [hsr] at e0)
  simp (disch:=omega) [e3,e0]
  refine Qa (growI_ok _ (by omega) (by omega)) (by simp) ?_
  simp (disch:=omega) [e3,e0,hsr,hrl]
  refine Xf ls.length 0 (fun i t h=>h=[]∧t 27=N i∧t 6=.sl (ltB 0 (lnI ls)) (!ltB 0 (lnI ls)) 1 ((flI (ls.take i)).map fun x=>[N x])) (fun t h=>h=[]∧t 6=catI (flI ls)) (by simp [flI]) (by omega) ?_ ?_
  ·rintro i t2 hh hf2 hi ⟨rfl,e27,e6⟩
   have e25:=hf2 25 (by kernel_rfl);have e26:=hf2 26 (by kernel_rfl);clear hf2;simp [hsr] at e25 e26
   simp (disch:=omega) [e6,e25,e26,e27]
   by_cases h6:i < ls.length
   ·have hb:ltB (i:Int) ls.length=true:=by rw [Qf];omega
    have t1':=tk i h6
    have t2':=lnle (i+1)
    have t3:=Zin (ls.take i)
    have hix:=idx i h6
    rw [t1',Zh4,Ziz] at t2'
    rw [t1',flI_app]
    generalize ls.getD i (false,[])=c at t2' hix ⊢
    rw [← t3] at t2'
    generalize flI (ls.take i)=m at *
    simp (disch:=omega) [e6,e25,e26,e27,hb,hix,Qg]
    have ap:WC 1 (.sl (ltB 0 (lnI ls)) (!ltB 0 (lnI ls)) 1 (m.map fun x=>[N x])) (.sl false c.1 1 (c.2.map fun x=>[N x]))=some (.sl (ltB 0 (lnI ls)) (!ltB 0 (lnI ls)) 1 ((m++c.2).map fun x=>[N x])):=by
     cases hq:ltB 0 (lnI ls:Int)
     ·rw [Qd] at hq
      have c0:c.2=[]:=List.eq_nil_of_length_eq_zero (by omega)
      have m0:m=[]:=List.eq_nil_of_length_eq_zero (by omega)
      simp [WC,c0,m0,WV]
     ·simp only [WC]
      rw [if_pos ⟨by simp,.inl trivial,.inl trivial,by simp [WV];omega⟩]
      simp
    have e0:flI [c]=c.2:=by simp [flI]
    rw [ap]
    simp (disch:=omega) [e6,e25,e26,e27,hb,hix,Qg,e0]
    omega
   ·have hb:ltB (i:Int) ls.length=false:=by rw [Qd];omega
    simp (disch:=omega) [e6,e25,e26,e27,hb]
    rw [List.take_of_length_le (by omega),hfl]
    exact ⟨rfl,rfl⟩
  ·rintro t1 hh hf ⟨rfl,e6⟩
   simp (disch:=omega) [e6]
theorem growC_ok (n:Int) (h0:0≤n) (h1:n≤1099511627776):Qe Tryz.prog XX [.sl false true 1 [],N n] (·=.sl (ltB 0 n) (!ltB 0 n) 1 []):=by
 refine Qe.of_codeOf Vo Qz (by simp) ⟨_,rfl,by simp⟩ ?_
 have hm:n≤(WV:Nat):=by unfold WV;omega
 have hneg:ltB n 0=false:=by rw [Qd];omega
 simp (disch:=omega) [Zh,Qg,hneg,ZA]
 (with_reducible first | refine Qm (fun h1=>?_) (fun h1=>?_) | refine Qn (fun h1=>?_) (fun h1=>?_))
 ·have hmm:(WV:Int)=1099511627776:=rfl
  have hp:0 < n:=by rw [Qf] at h1;exact h1
  have hc:ZA 1 (.sl false true 1 []) none (some 0) none=some (.sl false true 1 []):=by simp [ZA]
  simp (disch:=omega) [h1,hc,hp,hm]
 ·simp (disch:=omega) [h1]
abbrev rowC (c:Bool×List (Bool×List Int)):LV:=.sl false c.1 1 (c.2.map fun x=>[eC x])
def Zek (ls:List (Bool×List (Bool×List Int))):List (List LV):=ls.map fun c=>[rowC c]
def lnC (ls:List (Bool×List (Bool×List Int))):Nat:=(ls.map fun c=>c.2.length).sum
def flC (ls:List (Bool×List (Bool×List Int))):List (Bool×List Int):=(ls.map fun c=>c.2).flatten
abbrev catC (l:List (Bool×List Int)):LV:=.sl (ltB 0 l.length) (!ltB 0 l.length) 1 (l.map fun x=>[eC x])
theorem ZhZ (a b:List (Bool×List (Bool×List Int))):lnC (a++b)=lnC a+lnC b:=by simp [lnC]
theorem ZiW (a:Bool×List (Bool×List Int)) (b:List (Bool×List (Bool×List Int))):lnC (a::b)=a.2.length+lnC b:=by simp [lnC]
theorem flC_app (a b:List (Bool×List (Bool×List Int))):flC (a++b)=flC a++flC b:=by simp [flC]
theorem ZiD (a:List (Bool×List (Bool×List Int))):(flC a).length=lnC a:=by simp [flC,lnC,Function.comp_def]
@[simp] theorem Zqf (c:Bool×List (Bool×List Int)):share (rowC c)=rowC c:=by simp [rowC]
theorem Zpu (ls:List (Bool×List (Bool×List Int))) (hl:ls.length≤1099511627776) (ht:lnC ls≤1099511627776) :
  Qe Tryz.prog XE [.sl false false 1 (Zek ls)] (·=catC (flC ls)):=by
 have hlow:WF 0 (Zek ls):=by simp [Zek]
 have hfl:=ZiD ls
 refine Qe.of_codeOf Kt Qz (by simp) ⟨_,rfl,by simp only [low_sl,ZjF,Zg1,low_sc,Zi0,and_self,implies_true]⟩ ?_
 have hsr:Qv (Zek ls)=Zek ls:=by simp [Zek]
 simp (disch:=omega) [YS,hsr]
 have hrl:(Zek ls).length=ls.length:=by simp [Zek]
 rw [hrl]
 have idx:∀ i:Nat,i < ls.length→QS 1 (.sl false false 1 (Zek ls)) (i:Int)=some (.rp [rowC (ls.getD i (false,[]))]):=fun i hi=>by
  have:=Zdn rowC Zqf ls false false i (by omega) (by omega)
  rw [Zek,this];simp [List.getD_eq_getElem?_getD,hi]
 have tk:∀ i:Nat,i < ls.length→ls.take (i+1)=ls.take i++[ls.getD i (false,[])]:=fun i hi=>by
  rw [List.take_succ_eq_append_getElem hi];simp [List.getD_eq_getElem?_getD,hi]
 have lnle:∀ i:Nat,lnC (ls.take i)≤lnC ls:=fun i=>by
  have:=ZhZ (ls.take i) (ls.drop i)
  rw [List.take_append_drop] at this;omega
 refine Xf ls.length 0 (fun i t h=>h=[]∧t 11=N i∧t 3=N (lnC (ls.take i))) (fun t h=>h=[]∧t 3=N (lnC ls)) (by simp [lnC]) (by omega) ?_ ?_
 ·rintro i t1 hh hf hi ⟨rfl,e11,e3⟩
  (have e9:=hf 9 (by kernel_rfl);have e10:=hf 10 (by kernel_rfl);clear hf;simp [hsr] at e9 e10)
  simp (disch:=omega) [e3,e9,e10,e11]
  by_cases h6:i < ls.length
  ·have hb:ltB (i:Int) ls.length=true:=by rw [Qf];omega
   have t1':=tk i h6
   have t2:=lnle (i+1)
   have hix:=idx i h6
   rw [t1',ZhZ,ZiW] at t2
   rw [t1',ZhZ,ZiW]
   generalize ls.getD i (false,[])=c at t2 hix ⊢
   generalize lnC (ls.take i)=m at *
   have hnb:ltB ((m:Int)+c.2.length) 0=false:=by rw [Qd];omega
   simp (disch:=omega) [e3,e9,e10,e11,hb,hix,Qg,hnb]
   simp [lnC];omega
  ·have hb:ltB (i:Int) ls.length=false:=by rw [Qd];omega
   simp (disch:=omega) [e3,e9,e10,e11,hb]
   rw [List.take_of_length_le (by omega)]
 ·rintro t1 hh hf ⟨rfl,e3⟩
  (have e0:=hf 0 (by kernel_rfl);clear hf;simp [hsr] at e0)
  simp (disch:=omega) [e3,e0]
  refine Qa (growC_ok _ (by omega) (by omega)) (by simp) ?_
  simp (disch:=omega) [e3,e0,hsr,hrl]
  refine Xf ls.length 0 (fun i t h=>h=[]∧t 27=N i∧t 6=.sl (ltB 0 (lnC ls)) (!ltB 0 (lnC ls)) 1 ((flC (ls.take i)).map fun x=>[eC x])) (fun t h=>h=[]∧t 6=catC (flC ls)) (by simp [flC]) (by omega) ?_ ?_
  ·rintro i t2 hh hf2 hi ⟨rfl,e27,e6⟩
   have e25:=hf2 25 (by kernel_rfl);have e26:=hf2 26 (by kernel_rfl);clear hf2;simp [hsr] at e25 e26
   simp (disch:=omega) [e6,e25,e26,e27]
   by_cases h6:i < ls.length
   ·have hb:ltB (i:Int) ls.length=true:=by rw [Qf];omega
    have t1':=tk i h6
    have t2':=lnle (i+1)
    have t3:=ZiD (ls.take i)
    have hix:=idx i h6
    rw [t1',ZhZ,ZiW] at t2'
    rw [t1',flC_app]
    generalize ls.getD i (false,[])=c at t2' hix ⊢
    rw [← t3] at t2'
    generalize flC (ls.take i)=m at *
    simp (disch:=omega) [e6,e25,e26,e27,hb,hix,Qg]
    have ap:WC 1 (.sl (ltB 0 (lnC ls)) (!ltB 0 (lnC ls)) 1 (m.map fun x=>[eC x])) (.sl false c.1 1 (c.2.map fun x=>[eC x]))=some (.sl (ltB 0 (lnC ls)) (!ltB 0 (lnC ls)) 1 ((m++c.2).map fun x=>[eC x])):=by
     cases hq:ltB 0 (lnC ls:Int)
     ·rw [Qd] at hq
      have c0:c.2=[]:=List.eq_nil_of_length_eq_zero (by omega)
      have m0:m=[]:=List.eq_nil_of_length_eq_zero (by omega)
      simp [WC,c0,m0,WV]
     ·simp only [WC]
      rw [if_pos ⟨by simp,.inl trivial,.inl trivial,by simp [WV];omega⟩]
      simp
    have e0:flC [c]=c.2:=by simp [flC]
    rw [ap]
    simp (disch:=omega) [e6,e25,e26,e27,hb,hix,Qg,e0]
    omega
   ·have hb:ltB (i:Int) ls.length=false:=by rw [Qd];omega
    simp (disch:=omega) [e6,e25,e26,e27,hb]
    rw [List.take_of_length_le (by omega),hfl]
    exact ⟨rfl,rfl⟩
  ·rintro t1 hh hf ⟨rfl,e6⟩
   simp (disch:=omega) [e6]
attribute [local simp low] Xm
attribute [local simp] ZeN ZeS ZeQ ZeK ZeE ZeU
theorem long_ok (u nl:Bool) (l:List Int):Qe Tryz.prog ZcJ [.sl u nl 1 (l.map fun n=>[N n])] (·=B (ltB 40 l.length)):=by
 refine Qe.of_codeOf Zos Qz (by simp) ⟨_,rfl,by simp⟩ ?_
 simp (contextual:=true) (disch:=omega) [ZgX]
theorem Zoz (nl:Bool) (l:List Int) (hl:l.length≤1099511627776) (hw:∀ n∈l,I64 n) (i:Int) (hi:I64 i):Qe Tryz.prog Xd [L nl l,N i] (·=N (ZK l i)):=ZjK nl l ⟨hl,hw⟩ i hi
def Qj (ts:List RT):List (List LV):=ts.map fun t=>[.sl false false 1 (t.flat.map fun n=>[N n])]
theorem ZnE (dn:List RT):(Qj dn).length≤(WN dn).length:=by
 induction dn with
 | nil=>simp [Qj]
 | cons a dn ih =>
  have:=a.flat_pos
  simp only [Qj,List.length_map] at ih
  simp [Qj,WN];omega
theorem parts_ok (c:Int) (ks:List RT) (hok:(RT.nd c ks).ok) (hl:(RT.nd c ks).flat.length≤1099511627776) (hw:∀ n∈(RT.nd c ks).flat,I64 n) :
  Qe Tryz.prog Z2 [L false (RT.nd c ks).flat] (·=.sl (!ks.isEmpty) ks.isEmpty 1 (Qj ks)):=by
 refine Qe.of_codeOf Znb Qz (by simp) ⟨_,rfl,by simp [Qj]⟩ ?_
 simp (contextual:=true) (disch:=omega) [ZfS]
 generalize hL:(RT.nd c ks).flat=l at *
 refine Zq7 (fun k s=>∃ dn rest,ks=dn++rest∧k=rest.length∧s.h=[]∧s.t 0=L false l∧s.t 3=.sl (!dn.isEmpty) dn.isEmpty 1 (Qj dn)∧s.t 4=N ((WN dn).length+1)) ks.length ?_ ?_
 ·refine ⟨[],ks,rfl,rfl,?_⟩
  simp [Qj,WN]
 ·rintro k s ⟨dn,rest,hks,hk,h1,h2,h3,h4⟩
  simp (contextual:=true) (disch:=omega) [h1,h2,h3,h4]
  subst hks
  refine ⟨fun _ h5=>?_,fun _ h5=>?_⟩
  ·match rest with
   | [] =>
    exfalso
    rw [← hL] at h5
    simp only [RT.flat,Kw,WN,List.length_cons,List.length_append] at h5
    simp at h5
   | t::rest =>
    have hd:l.drop ((WN dn).length+1)=t.flat++WN rest:=by
     rw [← hL]
     simp [RT.flat,Kw,WN]
    have hll:l.length=(WN dn).length+1+t.flat.length+(WN rest).length:=by
     rw [← hL]
     simp [RT.flat,Kw,WN];omega
    have he:ZK l ((WN dn).length+1)=(WN dn).length+1+t.flat.length:=by
     unfold ZK
     rw [if_pos (by omega),show (((WN dn).length:Int)+1).toNat=(WN dn).length+1 by omega,hd]
     simp only [RT.ok] at hok
     have:=(ZhV.1 hok.2) t (by simp)
     rw [ZeY this]
     omega
    have hp:=t.flat_pos
    refine Qa (Zoz false l hl hw _ ⟨by omega,by omega⟩) (by simp) ?_
    rw [he]
    have hrow:List.drop ((WN dn).length+1) (List.take ((WN dn).length+1+t.flat.length) l)=t.flat:=by
     rw [List.drop_take,hd,show (WN dn).length+1+t.flat.length - ((WN dn).length+1)=t.flat.length by omega]
     simp
    have hrow:=congrArg (List.map fun n:Int=>[N n]) hrow
    rw [List.map_drop,List.map_take] at hrow
    have hn:(((WN dn).length:Int)+1+t.flat.length).toNat=(WN dn).length+1+t.flat.length:=by omega
    have hne:¬ (((WN dn).length:Int)+1=(WN dn).length+1+t.flat.length):=by omega
    have hks:(Qj dn).length+1≤WV:=by
     have:=ZnE dn
     unfold WV;omega
    simp (contextual:=true) (disch:=omega) [h2,h3,h4,ZA,WC,hn,hne,hrow,hks]
    refine ⟨by omega,Classical.em _ |>.symm,rest.length,by simp [hk],dn++[t],rest,by simp,rfl,⟨by simp,by simp [Qj]⟩,by simp [Kw,WN];omega⟩
  ·match rest with
   | []=>simp [Qj]
   | t::rest =>
    exfalso
    rw [← hL] at h5
    simp only [RT.flat,Kw,WN,List.length_cons,List.length_append] at h5
    have:=t.flat_pos
    omega
def ln (ls:List (List Int)):Nat:=(ls.map List.length).sum
end Go.Proofs.YtbmepminmpjlcaaGreat
namespace Go.Proofs.YtbmepminmpjlcaaGreat
open Go Go.TL
open Go.Proofs.YtbmepminmpjlcaaGreat.Ty
set_option linter.unusedSimpArgs false
set_option linter.unusedVariables false
set_option maxRecDepth 20000
set_option maxHeartbeats 4000000
theorem ZqI (u u' nl:Bool) (sz sz':Nat) (xs:List (List LV)):Xw .slc .eql (.sl u nl sz xs) (.sl u' true sz' [])=some (B nl):=rfl
theorem Ze8 (nl:Bool) (l:List Int) (hl:l.length≤1099511627776):Qe Tryz.prog WE [L nl l] (·=cl nl l):=by
 refine Qe.of_codeOf Zao Qz (by simp) ⟨_,rfl,by unfold cl;split<;>simp⟩ ?_
 have hm:l.length≤WV:=hl
 cases nl
 ·simp (disch:=omega) [Yo,ZqI,Ql,WC,hm,cl]
 ·simp (disch:=omega) [Yo,ZqI,cl]
theorem Zox (n1 n2:Bool) (a b:List Int) (ha:a.length≤1099511627776):Qe Tryz.prog W8 [L n1 a,L n2 b] (·=B (a == b)):=by
 generalize hq:(a == b)=q
 refine Qe.of_codeOf Zap Qz (by simp) ⟨_,rfl,by simp⟩ ?_
 simp (disch:=omega) [Z7]
 (with_reducible first | refine Qm (fun h1=>?_) (fun h1=>?_) | refine Qn (fun h1=>?_) (fun h1=>?_))
 ·simp (disch:=omega) [h1]
  simp only [Qf,Qd,Qi,Qh,Qc,Qb,Bool.not_true,Bool.not_false] at h1
  refine Wc a.length 0 (fun i t _=>t 13=N i∧q=(a.drop i == b.drop i)) (by simp [hq]) (by omega) ?_
  rintro i t1 hh hf hi ⟨e13,hj⟩
  (have e0:=hf 0 (by kernel_rfl);have e1:=hf 1 (by kernel_rfl);have e12:=hf 12 (by kernel_rfl);clear hf;simp [] at e0 e1 e12)
  simp (disch:=omega) [e0,e1,e12,e13]
  (with_reducible first | refine Qm (fun h6=>?_) (fun h6=>?_) | refine Qn (fun h6=>?_) (fun h6=>?_))
  ·simp only [Qf,Qd,Qi,Qh,Qc,Qb,Bool.not_true,Bool.not_false] at h6
   have hd1:=List.drop_eq_getElem_cons (l:=a) (i:=i) (by omega)
   have hd2:=List.drop_eq_getElem_cons (l:=b) (i:=i) (by omega)
   have hq2:q=(a[i]'(by omega) == b[i]'(by omega) && (a.drop (i+1) == b.drop (i+1))):=by rw [hj,hd1,hd2];rfl
   clear hd1 hd2 hj
   simp (disch:=omega) [e0,e1,e12,e13,Xq]
   repeat' (first
  | (with_reducible (first | refine Qm (fun hb_=>?_) (fun hb_=>?_) | refine Qn (fun hb_=>?_) (fun hb_=>?_))<;>simp (disch:=omega) [hb_,e0,e1,e12,e13,Qg])
  | simp (disch:=omega) [e0,e1,e12,e13,Qg])
   all_goals simp only [Qf,Qd,Qi,Qh,Qc,Qb,Bool.not_true,Bool.not_false] at hb_
   ·exact ⟨by omega,by simp [hq2,hb_]⟩
   ·simp [hq2,hb_]
  ·simp only [Qf,Qd,Qi,Qh,Qc,Qb,Bool.not_true,Bool.not_false] at h6
   simp (disch:=omega)
   rw [hj,List.drop_of_length_le (by omega),List.drop_of_length_le (by omega)];simp
 ·simp (disch:=omega) [h1]
  simp only [Qf,Qd,Qi,Qh,Qc,Qb,Bool.not_true,Bool.not_false] at h1
  rw [← hq];simp;intro h;exact h1 (by rw [h])
def Vn (l:List Int):List (List Int):=match W2 (hd l) with
 | some 2=>[QJ l,Wj l]
 | some 1=>[QJ l]
 | _=>[]
theorem ZbQ {l:List Int} (h:W2 (hd l)=some 2):Vn l=[QJ l,Wj l]:=by simp [Vn,h]
theorem ZpJ {l:List Int} (h:W2 (hd l)=some 1):Vn l=[QJ l]:=by simp [Vn,h]
theorem ZgP {l:List Int} (h:wty l=true):Qe Tryz.prog Z2 [L false l] (·=.sl (!(Vn l).isEmpty) (Vn l).isEmpty 1 ((Vn l).map fun p=>[L false p])):=by
 obtain ⟨⟨c,ks⟩,h3,rfl,h5⟩:=Zf5 h
 have:=parts_ok c ks h3 (by omega) (fun n hn=>by have:=Zqr h n hn;unfold I64;omega)
 simp only [RT.ok] at h3
 have e:Qj ks=(Vn (RT.nd c ks).flat).map (fun p=>[L false p])∧(Vn (RT.nd c ks).flat).isEmpty=ks.isEmpty:=by
  match ks,h3 with
  | [],h3=>simp [Vn,RT.flat,h3.1,Qj]
  | [a],h3 =>
   simp only [oks] at h3
   have q:=Zaf (c:=c) (r:=[]) h3.2.1
   rw [List.append_nil] at q
   simp [Vn,RT.flat,WN,h3.1,Qj,q]
  | [a,b],h3 =>
   simp only [oks] at h3
   have q:=Zaf (c:=c) (r:=b.flat) h3.2.1
   have q1:=VO (c:=c) (r:=b.flat) h3.2.1
   simp [Vn,RT.flat,WN,h3.1,Qj,q,q1]
  | _::_::_::_,h3 =>
   have:=ZoR h3.1
   simp at this
 rw [e.1,← e.2] at this
 exact this
theorem Zc7 {s:GSys} (t:s.Tab) (g:GTerm) (op n:Int) (nl1:Bool) (gty:List Int) (nl2:Bool) (ks:List GTerm) (hg:g=.mk op n nl1 gty nl2 ks) (i:Nat) (hi:i≤3) (ty:List Int) (hty:okL s.size ty=true) (hop:0≤op∧op≤12) (hn:op=5∨op=8∨op=12→s.G n) :
  Qe Tryz.prog Y3 [s.lv,g.lv,N i,L false ty] (·=N (QT s op n i (hd ty))):=by
 subst hg
 have hh:=Yn hty
 obtain ⟨c,tl,rfl⟩:∃ c tl,ty=c::tl:=by
  cases ty with
  | nil=>exact absurd rfl hh.2.2.2.1
  | cons c tl=>exact ⟨c,tl,rfl⟩
 have hc:I64 c:=by unfold I64;simp at hh;omega
 have hid:QS 1 (L false (c::tl)) 0=some (.rp [N c]):=by
  have:=Xq (c::tl) false false 0 (by omega) (by simp)
  simpa using this
 have hbl:op=5∨op=8∨op=12→Qe Tryz.prog QA [s.lv,N 1,N n] (·=B (s.le 1 n)):=fun h=>KY t (GSys.G1 t) (hn h)
 refine Qe.of_codeOf Zb3 Qz (by simp) ⟨_,rfl,by simp⟩ ?_
 have run:∀ (q:Int),q=QT s op n i c→wpC Tryz.prog XZ (fun e s=>(e=Exit.normal∨e=Exit.ret)∧Low 0 (s.t 8)∧s.t 8=N q) { t:=env [s.lv,(GTerm.mk op n nl1 gty nl2 ks).lv,N i,L false (c::tl)],h:=[] }:=by
  intro q hq
  have h13:op=0∨op=1∨op=2∨op=3∨op=4∨op=5∨op=6∨op=7∨op=8∨op=9∨op=10∨op=11∨op=12:=by omega
  subst hq
  rcases h13 with rfl | rfl | rfl | rfl | rfl | rfl | rfl | rfl | rfl | rfl | rfl | rfl | rfl
  all_goals
   rcases Nat.eq_zero_or_pos i with rfl | hp
   ·simp (disch:=omega) [XZ,Qu,Qo,GTerm.cells,hid]
    refine Qa (Zac c hc) (by simp) ?_
    repeat' (first
  | with_reducible refine Qa (hbl (by omega)) (by simp) ?_
  | (with_reducible (first | refine Qm (fun hb_=>?_) (fun hb_=>?_) | refine Qn (fun hb_=>?_) (fun hb_=>?_))<;>simp (disch:=omega) [hb_,eqB,leB])
  | simp (disch:=omega) [eqB,leB])
    all_goals (try simp_all [QT,Jo])
   ·have hz:¬ (i:Int)=0:=by omega
    have hz2:¬ i=0:=by omega
    simp (disch:=omega) [XZ,Qu,Qo,GTerm.cells,hid]
    refine Qa (Zac c hc) (by simp) ?_
    repeat' (first
  | with_reducible refine Qa (hbl (by omega)) (by simp) ?_
  | (with_reducible (first | refine Qm (fun hb_=>?_) (fun hb_=>?_) | refine Qn (fun hb_=>?_) (fun hb_=>?_))<;>simp (disch:=omega) [hb_,eqB,leB,hz])
  | simp (disch:=omega) [eqB,leB,hz])
    all_goals (try simp_all [QT,Jo])
 have:=run _ rfl
 simpa using this
def JG (op:Int) (nl1:Bool) (ty:List Int) (i:Nat) (f:List Int):WZ:=if op=9 then [(nl1,ty)] else (Qx op ty i f).map fun l=>(false,l)
theorem ZpO (op:Int) (nl1:Bool) (ty:List Int) (i:Nat) (f:List Int):(JG op nl1 ty i f).map Prod.snd=Qx op ty i f:=by
 unfold JG
 split
 ·rename_i h;simp [Qx,h]
 ·simp [Function.comp_def]
abbrev ZaW (c:WZ):LV:=.sl (!c.isEmpty) c.isEmpty 1 (c.map fun x=>[eC x])
theorem ZlD (g:GTerm) (op n:Int) (nl1:Bool) (gty:List Int) (nl2:Bool) (ks:List GTerm) (hg:g=.mk op n nl1 gty nl2 ks) (hop:0≤op∧op≤12) (i:Nat) (hi:i≤2) (nf:Bool) (f:List Int) {size:Int}
  (hf:i≠0→nf=false∧okL size f=true∧ZeX op (hd f)):Qe Tryz.prog ZbL [g.lv,N i,L nf f] (·=ZaW (JG op nl1 gty i f)):=by
 subst hg
 refine Qe.of_codeOf Znw Qz (by simp) ⟨_,rfl,by simp⟩ ?_
 by_cases h9:op=9
 ·subst h9
  simp (disch:=omega) [VE,Qu,Qo,GTerm.cells,JG,eqB,Ql]
 ·by_cases h0:Qy op i=0
  ·have e:JG op nl1 gty i f=[]:=by simp [JG,h9,Qx,h0]
   have h9':eqB op 9=false:=by rw [Qb];exact h9
   simp (disch:=omega) [VE,Qu,Qo,GTerm.cells,e,h9']
   refine Qa (Zm5 op i) (by simp) ?_
   rw [h0]
   simp (disch:=omega) [eqB]
  ·have hi0:i≠0:=by rintro rfl;apply h0;unfold Qy;rw [if_neg (by omega),if_neg (by omega)]
   obtain ⟨rfl,hf1,hf2⟩:=hf hi0
   have h9':eqB op 9=false:=by rw [Qb];exact h9
   have h0':eqB (Qy op i) 0=false:=by rw [Qb];exact h0
   have hp:=ZgP (YA hf1)
   have h3:op=5∧i=1∨op=8∨op=12∧i=1:=by
    unfold Qy at h0
    by_cases g:op=5∧(i:Int)=1
    ·omega
    ·rw [if_neg g] at h0
     by_cases g:(op=8∧0 < (i:Int))∨op=9∨(op=12∧(i:Int)=1)
     ·omega
     ·rw [if_neg g] at h0;omega
   simp (disch:=omega) [VE,Qu,Qo,GTerm.cells,h9']
   refine Qa (Zm5 op i) (by simp) ?_
   simp (disch:=omega) [h0']
   refine Qa hp (by simp) ?_
   rcases h3 with ⟨rfl,rfl⟩ | rfl | ⟨rfl,rfl⟩
   ·rw [ZbQ (by rw [hf2.2.1 rfl];exact Yr.1)]
    simp (disch:=omega) [eqB,JG,Qx,Qy,Ql,QS]
   ·rw [ZbQ (by rw [hf2.2.2.1 rfl];exact Yr.2)]
    have:i=1∨i=2:=by omega
    rcases this with rfl | rfl
    ·simp (disch:=omega) [eqB,JG,Qx,Qy,Ql,QS,show IntKind.i64.wrap 0=0 by decide]
    ·simp (disch:=omega) [eqB,JG,Qx,Qy,Ql,QS,show IntKind.i64.wrap 1=1 by decide]
   ·rw [ZpJ (ZfK (hf2.2.2.2.2 rfl))]
    simp (disch:=omega) [eqB,JG,Qx,Qy,Ql]
mutual
def TT.is:TT→LV→Prop
 | .mk ty nd ks,r=>∃ n3 n4 Qj,r=.rp [L false ty,L false nd,.sl false n3 1 Qj,N 0,.sl false n4 1 []]∧TT.are ks Qj
def TT.are:List TT→List (List LV)→Prop
 | [],Qj=>Qj=[]
 | k::ks,Qj=>∃ r rest,Qj=[r]::rest∧k.is r∧TT.are ks rest
end
def Res.is:Res→LV→Prop
 | .ok x,r=>x.is r
 | .bad f p,r=>f≠0∧∃ n4,r=.rp [.sl false true 1 [],.sl false true 1 [],.sl false true 1 [],N f,L n4 p]
mutual
theorem ZnF:∀ (x:TT) (r:LV),x.is r→share r=r∧∀ k,Low k r
 | .mk ty nd ks,r,h=>by
  simp only [TT.is] at h
  obtain ⟨n3,n4,Qj,rfl,hr⟩:=h
  obtain ⟨h1,h2⟩:=XD ks Qj hr
  exact ⟨by simp [h1],fun k=>by simp [h2 k]⟩
theorem XD:∀ (xs:List TT) (Qj:List (List LV)),TT.are xs Qj→Qv Qj=Qj∧∀ k,WF k Qj
 | [],Qj,h=>by simp only [TT.are] at h;subst h;simp
 | x::xs,Qj,h=>by
  simp only [TT.are] at h
  obtain ⟨r,rest,rfl,h1,h2⟩:=h
  obtain ⟨q1,q2⟩:=ZnF x r h1
  obtain ⟨q3,q4⟩:=XD xs rest h2
  exact ⟨by simp [q1,q3],fun k=>by simp [q2 k,q4 k]⟩
end
theorem Zl8:∀ (xs:List TT) (Qj:List (List LV)),TT.are xs Qj→Qj.length=xs.length
 | [],Qj,h=>by simp only [TT.are] at h;subst h;rfl
 | x::xs,Qj,h=>by
  simp only [TT.are] at h
  obtain ⟨r,rest,rfl,h1,h2⟩:=h
  simp [Zl8 xs rest h2]
theorem V7:∀ (xs:List TT) (Qj:List (List LV)) (x:TT) (r:LV),TT.are xs Qj→x.is r→TT.are (xs++[x]) (Qj++[[r]])
 | [],Qj,x,r,h,hx=>by simp only [TT.are] at h;subst h;simp only [List.nil_append,TT.are];exact ⟨r,[],rfl,hx,rfl⟩
 | y::xs,Qj,x,r,h,hx=>by
  simp only [TT.are] at h
  obtain ⟨q,rest,rfl,h1,h2⟩:=h
  simp only [List.cons_append,TT.are]
  exact ⟨q,rest++[[r]],rfl,h1,V7 xs rest x r h2 hx⟩
theorem are_at:∀ (xs:List TT) (Qj:List (List LV)) (i:Nat) (h:i < xs.length),TT.are xs Qj→∃ r,Qj[i]?=some [r]∧(xs[i]).is r
 | [],Qj,i,hi,h=>by simp at hi
 | x::xs,Qj,i,hi,h=>by
  simp only [TT.are] at h
  obtain ⟨r,rest,rfl,h1,h2⟩:=h
  cases i with
  | zero=>exact ⟨r,rfl,h1⟩
  | succ i =>
   obtain ⟨q,h3,h4⟩:=are_at xs rest i (by simpa using hi) h2
   exact ⟨q,by simpa using h3,by simpa using h4⟩
theorem Zqs {xs:List TT} {Qj:List (List LV)} (h:TT.are xs Qj) (u nl:Bool) (i:Nat) (hi:i < xs.length):∃ n3 n4 rws,QS 1 (.sl u nl 1 Qj) (i:Int)=some (.rp [.rp [L false (tyP xs i),L false (xs[i]).needs,.sl false n3 1 rws,N 0,.sl false n4 1 []]])∧TT.are (xs[i]).kids rws:=by
 obtain ⟨r,h1,h2⟩:=are_at xs Qj i hi h
 have hl:=Zl8 xs Qj h
 have e:tyP xs i=(xs[i]).ty:=by unfold tyP;rw [List.getD_eq_getElem?_getD,List.getElem?_eq_getElem hi];rfl
 rw [e]
 generalize xs[i]=x at *
 obtain ⟨ty,nd,ks⟩:=x
 simp only [TT.is] at h2
 obtain ⟨n3,n4,rws,rfl,h3⟩:=h2
 refine ⟨n3,n4,rws,?_,h3⟩
 simp only [QS]
 rw [if_pos ⟨trivial,by omega,by omega⟩]
 have hs:=(XD ks rws h3).1
 simp [List.getD_eq_getElem?_getD,h1,hs]
abbrev ZgG (T nd:LV) (u3 n3:Bool) (Qj:List (List LV)):Box:=some [T,nd,.sl u3 n3 1 Qj,N 0,.sl true true 1 []]
theorem ZnK {ds:List TT} {Qj:List (List LV)} (h:TT.are ds Qj) (T nd:LV) (u3 n3:Bool) (b0 b1 b2:Box) (hr:List Box) (i:Nat) (hi:i < ds.length) :
  QD Tryz.prog XU [N i,.rp [.ptr 3 0]] (b0::b1::b2::ZgG T nd u3 n3 Qj::hr) (fun r h'=>r=L false (tyP ds i)∧h'=b0::b1::b2::ZgG T nd u3 n3 Qj::hr):=by
 refine QD.of_codeOf Zbu Qz (by simp) ⟨_,_,rfl,rfl⟩ ?_
 obtain ⟨n3',n4,rws,hix,hrw⟩:=Zqs h false n3 i hi
 have hs:=(XD ds Qj h).1
 have hs2:=(XD _ rws hrw).1
 simp (disch:=omega) [JP,hs,hix,hs2]
 refine QK (.inr rfl) (by simp) ⟨by simp,rfl⟩
theorem Zd3 (p:Int→Bool):∀ (n g:Nat),Yk p g n=-1∨((g:Int)≤Yk p g n∧Yk p g n < g+n)
 | 0,g=>.inl rfl
 | n+1,g=>by
  unfold Yk
  split
  ·right;omega
  ·rcases Zd3 p n (g+1) with h | h
   ·exact .inl h
   ·right;omega
theorem ZhY {s:GSys} (hs:s.sys=true) {a b:Int} (ha:s.G a) (hb:s.G b):s.G (s.join a b):=by
 have t:=GSys.sys_of hs
 have h2:leB 0 (s.join a b)=true:=by
  unfold GSys.sys at hs
  rw [Bool.and_eq_true,YV] at hs
  have h:=hs.2 a.toNat (by have:=ha.1;have:=ha.2;omega)
  unfold GSys.sysB at h
  rw [Bool.and_eq_true,YV] at h
  have h:=h.2 b.toNat (by have:=hb.1;have:=hb.2;omega)
  unfold GSys.sysC at h
  rw [Bool.and_eq_true] at h
  have h:=h.1
  unfold GSys.two at h
  simp only [Bool.and_eq_true] at h
  have e1:((a.toNat:Nat):Int)=a:=by have:=ha.1;omega
  have e2:((b.toNat:Nat):Int)=b:=by have:=hb.1;omega
  rw [e1,e2] at h
  exact h.2
 rw [Qi] at h2
 have:=Zd3 (s.isJoin a b) s.size.toNat 0
 unfold GSys.join at h2 ⊢
 have:=t.lo
 exact ⟨h2,by omega⟩
theorem Zip {s:GSys} (hs:s.sys=true) {a b:List Int} (u:Int) (hu:u∈Yl s a b) (ha:∀ u∈a,s.G u) (hb:∀ u∈b,s.G u):s.G u:=by
 unfold Yl at hu
 rw [List.mem_iff_getElem] at hu
 obtain ⟨i,hi,rfl⟩:=hu
 simp only [List.length_zipWith] at hi
 rw [List.getElem_zipWith]
 exact ZhY hs (ha _ (List.getElem_mem _)) (hb _ (List.getElem_mem _))
theorem Je {l:List Int} (h:l≠[]):QS 1 (L false l) 0=some (.rp [N (hd l)]):=by
 cases l with
 | nil=>exact absurd rfl h
 | cons c l =>
  have:=Xq (c::l) false false 0 (by omega) (by simp)
  simpa using this
theorem cat3 (x:Int) (na nb:Bool) (a b:List Int) (ha:a.length≤1000) (hb:b.length≤1000) :
  Qe Tryz.prog Q6 [.sl false false 1 [[.sl false false 1 [[N x]]],[L na a],[L nb b]]] (·=OU true false (x::(a++b))):=by
 have h:=Ziv [(false,[x]),(na,a),(nb,b)] (by simp) (by simp [lnI];omega)
 have e:flI [(false,[x]),(na,a),(nb,b)]=x::(a++b):=by simp [flI]
 have e2:ltB 0 ((x::(a++b)).length:Int)=true:=by rw [Qf];simp<;>omega
 rw [e] at h
 unfold catI at h
 rw [e2] at h
 exact h
theorem cat2 (x:Int) (na:Bool) (a:List Int) (ha:a.length≤1000) :
  Qe Tryz.prog Q6 [.sl false false 1 [[.sl false false 1 [[N x]]],[L na a]]] (·=OU true false (x::a)):=by
 have h:=Ziv [(false,[x]),(na,a)] (by simp) (by simp [lnI];omega)
 have e:flI [(false,[x]),(na,a)]=x::a:=by simp [flI]
 have e2:ltB 0 ((x::a).length:Int)=true:=by rw [Qf];simp<;>omega
 rw [e] at h
 unfold catI at h
 rw [e2] at h
 exact h
def FinR (q:Int×List Int×List Int) (m:Nat) (u3 n3:Bool) (Qj:List (List LV)) (r:LV) (h':List Box):Prop:=r=N q.1∧∃ T nd c2 hr',h'=none::none::c2::ZgG T nd u3 n3 Qj::hr' ∧
 (q.1=0→(∃ u,T=OU u false q.2.1)∧((∃ u,nd=OU u false q.2.2)∨(nd=.ha 2 1 0 m m∧c2=some (q.2.2.map N)∧q.2.2.length=m)))
theorem Zqi {s:GSys} (hsy:s.sys=true) (nlc:Bool) (ctx:WZ) (hcl:ctx.length≤100000) (hc:∀ c∈ctx,okL s.size c.2=true) (hcf:∀ c∈ctx,c.1=false) (op n:Int) (nl1:Bool) (gty:List Int) (nl2:Bool) (ks:List GTerm) (ds:List TT)
  (no:NodeOk s ctx.length op n gty ds.length) (k:KidsOk s ctx.length op n ds) (Qj:List (List LV)) (hrw:TT.are ds Qj) (u3 n3 nn nu:Bool) (nds uds:WZ)
  (hnd:∀ i,i < ds.length→QS 1 (LC nn nds) (i:Int)=some (.rp [L false (ndP op ds i)])) (hud:∀ i,i < ds.length→∃ f,QS 1 (LC nu uds) (i:Int)=some (.rp [L f (usP op ds i)])) (hr:List Box) (m:Nat) (hm:ctx.length=m) :
  QD Tryz.prog Zu [s.lv,.ptr 3 0,LC nlc ctx,(GTerm.mk op n nl1 gty nl2 ks).lv,LC nn nds,LC nu uds] (none::none::some ((zeros m).map N)::ZgG (.sl true true 1 []) (.ha 2 1 0 m m) u3 n3 Qj::hr)
   (FinR (QZ s (ctx.map Prod.snd) op n gty ds) m u3 n3 Qj):=by
 subst hm
 have t:=GSys.sys_of hsy
 have h16:=t.hi
 obtain ⟨many,hvar,hgr,hty,o1,o2⟩:=no
 have get:∀ i,i < ds.length→∃ x,ds[i]?=some x∧x.good s (ctx.length+(Qy op i).toNat):=fun i hi =>
  ⟨_,List.getElem?_eq_getElem hi,(k.each i _ (List.getElem?_eq_getElem hi)).1⟩
 have tyG:∀ i,i < ds.length→okL s.size (tyP ds i)=true:=fun i hi=>by
  obtain ⟨x,h1,h2⟩:=get i hi
  unfold tyP;rw [List.getD_eq_getElem?_getD,h1];exact h2.1
 have ndL:∀ i,i < ds.length→(ndP op ds i).length=ctx.length:=fun i hi=>by
  obtain ⟨x,h1,h2⟩:=get i hi
  unfold ndP;rw [List.getD_eq_getElem?_getD,h1];exact (ZdH h2).1
 have ndG:∀ i,i < ds.length→∀ u∈ndP op ds i,s.G u:=fun i hi=>by
  obtain ⟨x,h1,h2⟩:=get i hi
  unfold ndP;rw [List.getD_eq_getElem?_getD,h1];exact (ZdH h2).2
 have usL:∀ i,i < ds.length→(usP op ds i).length≤1099511627776:=fun i hi=>by
  unfold usP;rw [List.length_take];have:=K3 op i;omega
 have usG:∀ i,i < ds.length→∀ u∈usP op ds i,s.G u:=fun i hi u hu=>by
  obtain ⟨x,h1,h2⟩:=get i hi
  unfold usP at hu;rw [List.getD_eq_getElem?_getD,h1] at hu;exact h2.2.2 u (List.mem_of_mem_take hu)
 have fst:0 < ds.length→ZeX op (hd (tyP ds 0)):=fun hi=>(k.first (by rintro rfl;simp at hi)).2.1
 have kid:∀ (T nd:LV) (b0 b1 b2:Box) (hr:List Box) (i:Nat) (hi:i < ds.length),QD Tryz.prog XU [N i,.rp [.ptr 3 0]] (b0::b1::b2::ZgG T nd u3 n3 Qj::hr) (fun r h'=>r=L false (tyP ds i)∧h'=b0::b1::b2::ZgG T nd u3 n3 Qj::hr) :=
  fun T nd b0 b1 b2 hr i hi=>ZnK hrw T nd u3 n3 b0 b1 b2 hr i hi
 have sumc:=fun (n1 n2:Bool) (a b:List Int) (h1:a.length=ctx.length) (h2:b.length=ctx.length) (ha:∀ u∈a,s.G u) (hb:∀ u∈b,s.G u)=>sumF_ok t n1 n2 a b (by omega) (by omega) ha hb
 have eqc:=fun (n1 n2:Bool) (i j:Nat) (hi:i < ds.length)=>Zox n1 n2 (tyP ds i) (tyP ds j) (by have:=QV (tyG i hi);omega)
 have lg:=fun (l:List Int)=>long_ok false false l
 have hidx:∀ (i:Nat) (h:i < ctx.length),QS 1 (LC nlc ctx) (i:Int)=some (.rp [eC ctx[i]]):=fun i h=>Zdf ctx nlc i h
 have hex:∃ r h',FinR (QZ s (ctx.map Prod.snd) op n gty ds) ctx.length u3 n3 Qj r h':=⟨_,_,rfl,OU true false (QZ s (ctx.map Prod.snd) op n gty ds).2.1,OU true false (QZ s (ctx.map Prod.snd) op n gty ds).2.2,none,[],rfl,fun _=>⟨⟨true,rfl⟩,.inl ⟨true,rfl⟩⟩⟩
 have hops:op=0∨op=1∨op=2∨op=3∨op=4∨op=5∨op=6∨op=7∨op=8∨op=9∨op=10∨op=11∨op=12:=by omega
 refine QD.of_codeOf ZcF Qz (by simp) hex ?_
 rcases hops with e | e | e | e | e | e | e | e | e | e | e | e | e
 all_goals subst e
 all_goals simp [Xp] at many
 ·obtain ⟨v0,v1⟩:=hvar rfl
  obtain ⟨v,rfl⟩:∃ v:Nat,n=v:=⟨n.toNat,by omega⟩
  have hv:v < ctx.length:=by omega
  have hx:=hidx v hv
  have hxo:=hc _ (List.getElem_mem hv)
  have hxf:=hcf _ (List.getElem_mem hv)
  have hget:(ctx.map Prod.snd)[v]?=some (ctx[v].2):=by simp [hv]
  generalize ctx[v]=c at hx hxo hxf hget
  obtain ⟨cf,cl⟩:=c
  simp only at hxo hxf hget
  subst hxf
  have hlen:=QV hxo
  simp (disch:=omega) [QQ,Qu,Qo,GTerm.cells,eqB,hx]
  refine Qa (Ze8 false cl (by omega)) (by simp) ?_
  have hzl:(zeros (List.length ctx)).length=List.length ctx:=by simp [zeros]
  simp (disch:=omega) [Go.Proofs.YtbmepminmpjlcaaGreat.cl,Jb,hzl]
  refine ⟨by omega,?_⟩
  refine Qa (lg cl) (by simp) ?_
  have hlb:ltB 40 cl.length=false:=by rw [Qd];omega
  simp (disch:=omega) [hlb]
  refine QK (.inr rfl) (by simp) ⟨by simp [QZ],_,_,_,_,rfl,fun _=>?_⟩
  simp [QZ,hget]
  refine ⟨?_,hzl⟩
  rw [List.set_eq_take_append_cons_drop,if_pos (by rw [List.length_map,hzl];omega)]
 ·simp (disch:=omega) [QQ,Qu,Qo,GTerm.cells,eqB,Ql]
  refine Qa (lg [0]) (by simp) ?_
  simp (disch:=omega) [ltB]
  refine QK (.inr rfl) (by simp) ⟨by simp [QZ],_,_,_,_,rfl,fun _=>?_⟩
  simp [QZ,zeros]
 ·have i0:QS 1 (LC nn nds) 0=some (.rp [L false (ndP 2 ds 0)]):=hnd 0 (by omega)
  have a0:=ndL 0 (by omega)
  have b0:=ndG 0 (by omega)
  have l0:=QV (tyG 0 (by omega))
  have i1:QS 1 (LC nn nds) 1=some (.rp [L false (ndP 2 ds 1)]):=hnd 1 (by omega)
  have a1:=ndL 1 (by omega)
  have b1:=ndG 1 (by omega)
  have l1:=QV (tyG 1 (by omega))
  simp (disch:=omega) [QQ,Qu,Qo,GTerm.cells,eqB,i0,i1,Ql]
  refine Qa (sumc false false _ _ a0 a1 b0 b1) (by simp) ?_
  simp (disch:=omega) [i0,i1,Ql]
  refine Qa (lg [0]) (by simp) ?_
  simp (disch:=omega) [ltB]
  refine QK (.inr rfl) (by simp) ⟨by simp [QZ],_,_,_,_,rfl,fun _=>?_⟩
  simp [QZ]
 ·have i0:QS 1 (LC nn nds) 0=some (.rp [L false (ndP 3 ds 0)]):=hnd 0 (by omega)
  have a0:=ndL 0 (by omega)
  have b0:=ndG 0 (by omega)
  have l0:=QV (tyG 0 (by omega))
  have i1:QS 1 (LC nn nds) 1=some (.rp [L false (ndP 3 ds 1)]):=hnd 1 (by omega)
  have a1:=ndL 1 (by omega)
  have b1:=ndG 1 (by omega)
  have l1:=QV (tyG 1 (by omega))
  have i2:QS 1 (LC nn nds) 2=some (.rp [L false (ndP 3 ds 2)]):=hnd 2 (by omega)
  have a2:=ndL 2 (by omega)
  have b2:=ndG 2 (by omega)
  have l2:=QV (tyG 2 (by omega))
  simp (disch:=omega) [QQ,Qu,Qo,GTerm.cells,eqB,i0,i1,i2,Ql]
  refine Qk (kid _ _ _ _ _ _ 1 (by omega)) ?_
  rintro r h' ⟨rfl,rfl⟩
  simp (disch:=omega) [i0,i1,i2,Ql]
  refine Qk (kid _ _ _ _ _ _ 2 (by omega)) ?_
  rintro r h' ⟨rfl,rfl⟩
  simp (disch:=omega) [i0,i1,i2,Ql]
  refine Qa (eqc false false 1 2 (by omega)) (by simp) ?_
  cases he:(tyP ds 1 == tyP ds 2)
  ·simp (disch:=omega)
   have he':tyP ds 1≠tyP ds 2:=by simpa using he
   exact QK (.inr rfl) (by simp) ⟨by simp [QZ,he'],_,_,_,_,rfl,fun h=>by simp [QZ,he'] at h⟩
  ·simp (disch:=omega) [i0,i1,i2,Ql]
   have he':tyP ds 1=tyP ds 2:=by simpa using he
   refine Qk (kid _ _ _ _ _ _ 1 (by omega)) ?_
   rintro r h' ⟨rfl,rfl⟩
   simp (disch:=omega) [i0,i1,i2,Ql]
   have jo:=Zcc (s:=s) a1 a2
   have jg:∀ u∈Yl s (ndP 3 ds 1) (ndP 3 ds 2),s.G u:=fun u hu=>Zip hsy u hu b1 b2
   refine Qa (ZoQ t false false _ _ (by omega) (by omega) b1 b2) (by simp) ?_
   simp (disch:=omega) [i0,i1,i2,Ql]
   refine Qa (sumc false false _ _ a0 jo b0 jg) (by simp) ?_
   simp (disch:=omega) [i0,i1,i2,Ql]
   have hl1:ltB 40 (tyP ds 1).length=false:=by rw [Qd];omega
   refine Qa (lg (tyP ds 1)) (by simp) ?_
   simp (disch:=omega) [hl1]
   refine QK (.inr rfl) (by simp) ⟨by simp [QZ,he'],_,_,_,_,rfl,fun _=>?_⟩
   simp [QZ,he']
 ·have i0:QS 1 (LC nn nds) 0=some (.rp [L false (ndP 4 ds 0)]):=hnd 0 (by omega)
  have a0:=ndL 0 (by omega)
  have b0:=ndG 0 (by omega)
  have l0:=QV (tyG 0 (by omega))
  have i1:QS 1 (LC nn nds) 1=some (.rp [L false (ndP 4 ds 1)]):=hnd 1 (by omega)
  have a1:=ndL 1 (by omega)
  have b1:=ndG 1 (by omega)
  have l1:=QV (tyG 1 (by omega))
  simp (disch:=omega) [QQ,Qu,Qo,GTerm.cells,eqB,i0,i1,Ql]
  refine Qk (kid _ _ _ _ _ _ 0 (by omega)) ?_
  rintro r h' ⟨rfl,rfl⟩
  simp (disch:=omega) [i0,i1,Ql]
  refine Qk (kid _ _ _ _ _ _ 1 (by omega)) ?_
  rintro r h' ⟨rfl,rfl⟩
  simp (disch:=omega) [i0,i1,Ql]
  obtain ⟨z,hz⟩:∃ z,z=1::(tyP ds 0++tyP ds 1):=⟨_,rfl⟩
  have cz:=cat3 1 false false (tyP ds 0) (tyP ds 1) (by omega) (by omega)
  rw [← hz] at cz
  refine Qa cz (by simp) ?_
  simp (disch:=omega) [i0,i1,Ql]
  refine Qa (sumc false false _ _ a0 a1 b0 b1) (by simp) ?_
  simp (disch:=omega) [i0,i1,Ql]
  refine Qa (lg z) (by simp) ?_
  have fp:QZ s (ctx.map Prod.snd) 4 n gty ds=Yv z (YL s (ndP 4 ds 0) (ndP 4 ds 1)):=by simp [QZ,hz]
  rw [fp,Yv]
  by_cases hl:z.length≤40
  ·have hb:ltB 40 (z.length:Int)=false:=by rw [Qd];omega
   rw [hb,if_pos hl]
   simp (disch:=omega)
   exact QK (.inr rfl) (by simp) ⟨rfl,_,_,_,_,rfl,fun _=>⟨⟨_,rfl⟩,.inl ⟨_,rfl⟩⟩⟩
  ·have hb:ltB 40 (z.length:Int)=true:=by rw [Qf];omega
   rw [hb,if_neg hl]
   simp (disch:=omega)
   exact QK (.inr rfl) (by simp) ⟨rfl,_,_,_,_,rfl,fun h=>by simp at h⟩
 ·have i0:QS 1 (LC nn nds) 0=some (.rp [L false (ndP 5 ds 0)]):=hnd 0 (by omega)
  have a0:=ndL 0 (by omega)
  have b0:=ndG 0 (by omega)
  have l0:=QV (tyG 0 (by omega))
  have i1:QS 1 (LC nn nds) 1=some (.rp [L false (ndP 5 ds 1)]):=hnd 1 (by omega)
  have a1:=ndL 1 (by omega)
  have b1:=ndG 1 (by omega)
  have l1:=QV (tyG 1 (by omega))
  obtain ⟨g1,j1⟩:∃ f,QS 1 (LC nu uds) 1=some (.rp [L f (usP 5 ds 1)]):=hud 1 (by omega)
  have uo1:=fun (g:Int) hg=>Zal t (g:=g) hg g1 (usP 5 ds 1) (usL 1 (by omega)) (usG 1 (by omega))
  have hgn:=hgr (by simp [Yd,Qc])
  simp (disch:=omega) [QQ,Qu,Qo,GTerm.cells,eqB,i0,i1,j1,Ql]
  refine Qa (uo1 n hgn) (by simp) ?_
  cases hu:Wn s (usP 5 ds 1) (n)
  ·simp (disch:=omega)
   exact QK (.inr rfl) (by simp) ⟨by simp [QZ,hu],_,_,_,_,rfl,fun h=>by simp [QZ,hu] at h⟩
  ·simp (disch:=omega) [i0,i1,j1,Ql]
   refine Qk (kid _ _ _ _ _ _ 1 (by omega)) ?_
   rintro r h' ⟨rfl,rfl⟩
   simp (disch:=omega) [i0,i1,j1,Ql]
   refine Qa (VU t (n) (hgn) false _ (by omega) b0) (by simp) ?_
   simp (disch:=omega) [i0,i1,j1,Ql]
   have sc:=Yc t (g:=n) a0
   refine Qa (sumc false false _ _ sc.1 a1 sc.2 b1) (by simp) ?_
   simp (disch:=omega) [i0,i1,j1,Ql]
   have hl1:ltB 40 (tyP ds 1).length=false:=by rw [Qd];omega
   refine Qa (lg (tyP ds 1)) (by simp) ?_
   simp (disch:=omega) [hl1]
   refine QK (.inr rfl) (by simp) ⟨by simp [QZ,hu],_,_,_,_,rfl,fun _=>?_⟩
   simp [QZ,hu]
 ·have i0:QS 1 (LC nn nds) 0=some (.rp [L false (ndP 6 ds 0)]):=hnd 0 (by omega)
  have a0:=ndL 0 (by omega)
  have b0:=ndG 0 (by omega)
  have l0:=QV (tyG 0 (by omega))
  have hgt:=hty (by simp [XC,Qc])
  have lt:=QV hgt
  simp (disch:=omega) [QQ,Qu,Qo,GTerm.cells,eqB,i0,Ql]
  refine Qk (kid _ _ _ _ _ _ 0 (by omega)) ?_
  rintro r h' ⟨rfl,rfl⟩
  simp (disch:=omega) [i0,Ql]
  obtain ⟨z,hz⟩:∃ z,z=2::(tyP ds 0++gty):=⟨_,rfl⟩
  have cz:=cat3 2 false nl1 (tyP ds 0) gty (by omega) (by omega)
  rw [← hz] at cz
  refine Qa cz (by simp) ?_
  simp (disch:=omega) [i0,Ql]
  refine Qa (lg z) (by simp) ?_
  have fp:QZ s (ctx.map Prod.snd) 6 n gty ds=Yv z (ndP 6 ds 0):=by simp [QZ,hz]
  rw [fp,Yv]
  by_cases hl:z.length≤40
  ·have hb:ltB 40 (z.length:Int)=false:=by rw [Qd];omega
   rw [hb,if_pos hl]
   simp (disch:=omega)
   exact QK (.inr rfl) (by simp) ⟨rfl,_,_,_,_,rfl,fun _=>⟨⟨_,rfl⟩,.inl ⟨_,rfl⟩⟩⟩
  ·have hb:ltB 40 (z.length:Int)=true:=by rw [Qf];omega
   rw [hb,if_neg hl]
   simp (disch:=omega)
   exact QK (.inr rfl) (by simp) ⟨rfl,_,_,_,_,rfl,fun h=>by simp at h⟩
 ·have i0:QS 1 (LC nn nds) 0=some (.rp [L false (ndP 7 ds 0)]):=hnd 0 (by omega)
  have a0:=ndL 0 (by omega)
  have b0:=ndG 0 (by omega)
  have l0:=QV (tyG 0 (by omega))
  have hgt:=hty (by simp [XC,Qc])
  have lt:=QV hgt
  simp (disch:=omega) [QQ,Qu,Qo,GTerm.cells,eqB,i0,Ql]
  refine Qk (kid _ _ _ _ _ _ 0 (by omega)) ?_
  rintro r h' ⟨rfl,rfl⟩
  simp (disch:=omega) [i0,Ql]
  obtain ⟨z,hz⟩:∃ z,z=2::(gty++tyP ds 0):=⟨_,rfl⟩
  have cz:=cat3 2 nl1 false gty (tyP ds 0) (by omega) (by omega)
  rw [← hz] at cz
  refine Qa cz (by simp) ?_
  simp (disch:=omega) [i0,Ql]
  refine Qa (lg z) (by simp) ?_
  have fp:QZ s (ctx.map Prod.snd) 7 n gty ds=Yv z (ndP 7 ds 0):=by simp [QZ,hz]
  rw [fp,Yv]
  by_cases hl:z.length≤40
  ·have hb:ltB 40 (z.length:Int)=false:=by rw [Qd];omega
   rw [hb,if_pos hl]
   simp (disch:=omega)
   exact QK (.inr rfl) (by simp) ⟨rfl,_,_,_,_,rfl,fun _=>⟨⟨_,rfl⟩,.inl ⟨_,rfl⟩⟩⟩
  ·have hb:ltB 40 (z.length:Int)=true:=by rw [Qf];omega
   rw [hb,if_neg hl]
   simp (disch:=omega)
   exact QK (.inr rfl) (by simp) ⟨rfl,_,_,_,_,rfl,fun h=>by simp at h⟩
 ·have i0:QS 1 (LC nn nds) 0=some (.rp [L false (ndP 8 ds 0)]):=hnd 0 (by omega)
  have a0:=ndL 0 (by omega)
  have b0:=ndG 0 (by omega)
  have l0:=QV (tyG 0 (by omega))
  have i1:QS 1 (LC nn nds) 1=some (.rp [L false (ndP 8 ds 1)]):=hnd 1 (by omega)
  have a1:=ndL 1 (by omega)
  have b1:=ndG 1 (by omega)
  have l1:=QV (tyG 1 (by omega))
  have i2:QS 1 (LC nn nds) 2=some (.rp [L false (ndP 8 ds 2)]):=hnd 2 (by omega)
  have a2:=ndL 2 (by omega)
  have b2:=ndG 2 (by omega)
  have l2:=QV (tyG 2 (by omega))
  obtain ⟨g1,j1⟩:∃ f,QS 1 (LC nu uds) 1=some (.rp [L f (usP 8 ds 1)]):=hud 1 (by omega)
  have uo1:=fun (g:Int) hg=>Zal t (g:=g) hg g1 (usP 8 ds 1) (usL 1 (by omega)) (usG 1 (by omega))
  obtain ⟨g2,j2⟩:∃ f,QS 1 (LC nu uds) 2=some (.rp [L f (usP 8 ds 2)]):=hud 2 (by omega)
  have uo2:=fun (g:Int) hg=>Zal t (g:=g) hg g2 (usP 8 ds 2) (usL 2 (by omega)) (usG 2 (by omega))
  have hgn:=hgr (by simp [Yd,Qc])
  simp (disch:=omega) [QQ,Qu,Qo,GTerm.cells,eqB,i0,i1,i2,j1,j2,Ql]
  refine Qk (kid _ _ _ _ _ _ 1 (by omega)) ?_
  rintro r h' ⟨rfl,rfl⟩
  simp (disch:=omega) [i0,i1,i2,j1,j2,Ql]
  refine Qk (kid _ _ _ _ _ _ 2 (by omega)) ?_
  rintro r h' ⟨rfl,rfl⟩
  simp (disch:=omega) [i0,i1,i2,j1,j2,Ql]
  refine Qa (eqc false false 1 2 (by omega)) (by simp) ?_
  cases he:(tyP ds 1 == tyP ds 2)
  ·simp (disch:=omega)
   have he':tyP ds 1≠tyP ds 2:=by simpa using he
   exact QK (.inr rfl) (by simp) ⟨by simp [QZ,he'],_,_,_,_,rfl,fun h=>by simp [QZ,he'] at h⟩
  ·simp (disch:=omega) [i0,i1,i2,j1,j2,Ql]
   have he':tyP ds 1=tyP ds 2:=by simpa using he
   refine Qa (uo1 n hgn) (by simp) ?_
   cases hu:Wn s (usP 8 ds 1) (n)
   ·simp (disch:=omega)
    exact QK (.inr rfl) (by simp) ⟨by simp [QZ,he',hu],_,_,_,_,rfl,fun h=>by simp [QZ,he',hu] at h⟩
   ·simp (disch:=omega) [i0,i1,i2,j1,j2,Ql]
    refine Qa (uo2 n hgn) (by simp) ?_
    cases hv:Wn s (usP 8 ds 2) (n)
    ·simp (disch:=omega)
     exact QK (.inr rfl) (by simp) ⟨by simp [QZ,he',hu,hv],_,_,_,_,rfl,fun h=>by simp [QZ,he',hu,hv] at h⟩
    ·simp (disch:=omega) [i0,i1,i2,j1,j2,Ql]
     refine Qk (kid _ _ _ _ _ _ 1 (by omega)) ?_
     rintro r h' ⟨rfl,rfl⟩
     simp (disch:=omega) [i0,i1,i2,j1,j2,Ql]
     refine Qa (VU t (n) (hgn) false _ (by omega) b0) (by simp) ?_
     simp (disch:=omega) [i0,i1,i2,j1,j2,Ql]
     have sc:=Yc t (g:=n) a0
     have jo:=Zcc (s:=s) a1 a2
     have jg:∀ u∈Yl s (ndP 8 ds 1) (ndP 8 ds 2),s.G u:=fun u hu=>Zip hsy u hu b1 b2
     refine Qa (ZoQ t false false _ _ (by omega) (by omega) b1 b2) (by simp) ?_
     simp (disch:=omega) [i0,i1,i2,j1,j2,Ql]
     refine Qa (sumc false false _ _ sc.1 jo sc.2 jg) (by simp) ?_
     simp (disch:=omega) [i0,i1,i2,j1,j2,Ql]
     have hl1:ltB 40 (tyP ds 1).length=false:=by rw [Qd];omega
     refine Qa (lg (tyP ds 1)) (by simp) ?_
     simp (disch:=omega) [hl1]
     refine QK (.inr rfl) (by simp) ⟨by simp [QZ,he',hu,hv],_,_,_,_,rfl,fun _=>?_⟩
     simp [QZ,he',hu,hv]
 ·have i0:QS 1 (LC nn nds) 0=some (.rp [L false (ndP 9 ds 0)]):=hnd 0 (by omega)
  have a0:=ndL 0 (by omega)
  have b0:=ndG 0 (by omega)
  have l0:=QV (tyG 0 (by omega))
  obtain ⟨g0,j0⟩:∃ f,QS 1 (LC nu uds) 0=some (.rp [L f (usP 9 ds 0)]):=hud 0 (by omega)
  have uo0:=fun (g:Int) hg=>Zal t (g:=g) hg g0 (usP 9 ds 0) (usL 0 (by omega)) (usG 0 (by omega))
  have hgn:=hgr (by simp [Yd,Qc])
  have hgt:=hty (by simp [XC,Qc])
  have lt:=QV hgt
  simp (disch:=omega) [QQ,Qu,Qo,GTerm.cells,eqB,i0,j0,Ql]
  refine Qa (uo0 n hgn) (by simp) ?_
  cases hu:Wn s (usP 9 ds 0) (n)
  ·simp (disch:=omega)
   exact QK (.inr rfl) (by simp) ⟨by simp [QZ,hu],_,_,_,_,rfl,fun h=>by simp [QZ,hu] at h⟩
  ·simp (disch:=omega) [i0,j0,Ql]
   rw [Qg (by have:=hgn.1;have:=hgn.2;omega)]
   refine Qk (kid _ _ _ _ _ _ 0 (by omega)) ?_
   rintro r h' ⟨rfl,rfl⟩
   simp (disch:=omega) [i0,j0,Ql]
   obtain ⟨z,hz⟩:∃ z,z=(3+n)::(gty++tyP ds 0):=⟨_,rfl⟩
   have cz:=cat3 (3+n) nl1 false gty (tyP ds 0) (by omega) (by omega)
   rw [← hz] at cz
   refine Qa cz (by simp) ?_
   simp (disch:=omega) [i0,j0,Ql]
   refine Qa (lg z) (by simp) ?_
   have fp:QZ s (ctx.map Prod.snd) 9 n gty ds=Yv z (ndP 9 ds 0):=by simp [QZ,hz,hu]
   rw [fp,Yv]
   by_cases hl:z.length≤40
   ·have hb:ltB 40 (z.length:Int)=false:=by rw [Qd];omega
    rw [hb,if_pos hl]
    simp (disch:=omega)
    exact QK (.inr rfl) (by simp) ⟨rfl,_,_,_,_,rfl,fun _=>⟨⟨_,rfl⟩,.inl ⟨_,rfl⟩⟩⟩
   ·have hb:ltB 40 (z.length:Int)=true:=by rw [Qf];omega
    rw [hb,if_neg hl]
    simp (disch:=omega)
    exact QK (.inr rfl) (by simp) ⟨rfl,_,_,_,_,rfl,fun h=>by simp at h⟩
 ·have i0:QS 1 (LC nn nds) 0=some (.rp [L false (ndP 10 ds 0)]):=hnd 0 (by omega)
  have a0:=ndL 0 (by omega)
  have b0:=ndG 0 (by omega)
  have l0:=QV (tyG 0 (by omega))
  have i1:QS 1 (LC nn nds) 1=some (.rp [L false (ndP 10 ds 1)]):=hnd 1 (by omega)
  have a1:=ndL 1 (by omega)
  have b1:=ndG 1 (by omega)
  have l1:=QV (tyG 1 (by omega))
  have h0:=Yn (tyG 0 (by omega))
  have hx0:QS 1 (L false (tyP ds 0)) 0=some (.rp [N (hd (tyP ds 0))]):=Je h0.2.2.2.1
  have hga:=fst (by omega)
  have hgc:=ZdP h0.1 (.inl ((fst (by omega)).2.2.2.1 rfl))
  have hsh:(QH (hd (tyP ds 0))).2=XO (hd (tyP ds 0)):=(JQ h0.2.1 h0.2.2.1).2.2.2.2.2 (.inl ((fst (by omega)).2.2.2.1 rfl))
  have hgg:s.G (QH (hd (tyP ds 0))).2:=by rw [hsh];exact hgc
  simp (disch:=omega) [QQ,Qu,Qo,GTerm.cells,eqB,i0,i1,Ql]
  refine Qk (kid _ _ _ _ _ _ 0 (by omega)) ?_
  rintro r h' ⟨rfl,rfl⟩
  simp (disch:=omega) [hx0,Ql]
  refine Qa (Zac _ ⟨by omega,by omega⟩) (by simp) ?_
  simp (disch:=omega) [i0,i1,Ql]
  refine Qk (kid _ _ _ _ _ _ 0 (by omega)) ?_
  rintro r h' ⟨rfl,rfl⟩
  simp (disch:=omega) [i0,i1,Ql]
  refine Qa (ZgP (YA (tyG 0 (by omega)))) (by simp) ?_
  rw [ZbQ (Zbt (hga.2.2.2.1 rfl))]
  have hx1:QS 1 (.sl true false 1 [[L false (QJ (tyP ds 0))],[L false (Wj (tyP ds 0))]]) 1=some (.rp [L false (Wj (tyP ds 0))]):=by simp [QS]
  simp (disch:=omega) [i0,i1,Ql,hx1]
  refine Qa (VU t ((QH (hd (tyP ds 0))).2) (hgg) false _ (by omega) b1) (by simp) ?_
  simp (disch:=omega) [i0,i1,Ql]
  have sc:=Yc t (g:=(QH (hd (tyP ds 0))).2) a1
  refine Qa (sumc false false _ _ a0 sc.1 b0 sc.2) (by simp) ?_
  simp (disch:=omega) [i0,i1,Ql]
  have l9:=QV (ZZ (tyG 0 (by omega)) (Zbt (hga.2.2.2.1 rfl))).2.2
  have hl9:ltB 40 (Wj (tyP ds 0)).length=false:=by rw [Qd];omega
  refine Qa (lg (Wj (tyP ds 0))) (by simp) ?_
  simp (disch:=omega) [hl9]
  refine QK (.inr rfl) (by simp) ⟨by simp [QZ],_,_,_,_,rfl,fun _=>?_⟩
  simp [QZ]
 ·have i0:QS 1 (LC nn nds) 0=some (.rp [L false (ndP 11 ds 0)]):=hnd 0 (by omega)
  have a0:=ndL 0 (by omega)
  have b0:=ndG 0 (by omega)
  have l0:=QV (tyG 0 (by omega))
  have hgn:=hgr (by simp [Yd,Qc])
  simp (disch:=omega) [QQ,Qu,Qo,GTerm.cells,eqB,i0,Ql]
  rw [Qg (by have:=hgn.1;have:=hgn.2;omega)]
  refine Qk (kid _ _ _ _ _ _ 0 (by omega)) ?_
  rintro r h' ⟨rfl,rfl⟩
  simp (disch:=omega) [i0,Ql]
  obtain ⟨z,hz⟩:∃ z,z=(19+n)::tyP ds 0:=⟨_,rfl⟩
  have cz:=cat2 (19+n) false (tyP ds 0) (by omega)
  rw [← hz] at cz
  refine Qa cz (by simp) ?_
  simp (disch:=omega) [i0,Ql]
  refine Qa (VU t (n) (hgn) false _ (by omega) b0) (by simp) ?_
  simp (disch:=omega) [i0,Ql]
  refine Qa (lg z) (by simp) ?_
  have fp:QZ s (ctx.map Prod.snd) 11 n gty ds=Yv z (Wa s n (ndP 11 ds 0)):=by simp [QZ,hz]
  rw [fp,Yv]
  by_cases hl:z.length≤40
  ·have hb:ltB 40 (z.length:Int)=false:=by rw [Qd];omega
   rw [hb,if_pos hl]
   simp (disch:=omega)
   exact QK (.inr rfl) (by simp) ⟨rfl,_,_,_,_,rfl,fun _=>⟨⟨_,rfl⟩,.inl ⟨_,rfl⟩⟩⟩
  ·have hb:ltB 40 (z.length:Int)=true:=by rw [Qf];omega
   rw [hb,if_neg hl]
   simp (disch:=omega)
   exact QK (.inr rfl) (by simp) ⟨rfl,_,_,_,_,rfl,fun h=>by simp at h⟩
 ·have i0:QS 1 (LC nn nds) 0=some (.rp [L false (ndP 12 ds 0)]):=hnd 0 (by omega)
  have a0:=ndL 0 (by omega)
  have b0:=ndG 0 (by omega)
  have l0:=QV (tyG 0 (by omega))
  have i1:QS 1 (LC nn nds) 1=some (.rp [L false (ndP 12 ds 1)]):=hnd 1 (by omega)
  have a1:=ndL 1 (by omega)
  have b1:=ndG 1 (by omega)
  have l1:=QV (tyG 1 (by omega))
  obtain ⟨g1,j1⟩:∃ f,QS 1 (LC nu uds) 1=some (.rp [L f (usP 12 ds 1)]):=hud 1 (by omega)
  have uo1:=fun (g:Int) hg=>Zal t (g:=g) hg g1 (usP 12 ds 1) (usL 1 (by omega)) (usG 1 (by omega))
  have hgn:=hgr (by simp [Yd,Qc])
  have h0:=Yn (tyG 0 (by omega))
  have hx0:QS 1 (L false (tyP ds 0)) 0=some (.rp [N (hd (tyP ds 0))]):=Je h0.2.2.2.1
  have hga:=fst (by omega)
  have hgc:=ZdP h0.1 (.inr ((fst (by omega)).2.2.2.2 rfl))
  have hsh:(QH (hd (tyP ds 0))).2=XO (hd (tyP ds 0)):=(JQ h0.2.1 h0.2.2.1).2.2.2.2.2 (.inr ((fst (by omega)).2.2.2.2 rfl))
  have hgg:s.G (QH (hd (tyP ds 0))).2:=by rw [hsh];exact hgc
  simp (disch:=omega) [QQ,Qu,Qo,GTerm.cells,eqB,i0,i1,j1,Ql]
  refine Qk (kid _ _ _ _ _ _ 0 (by omega)) ?_
  rintro r h' ⟨rfl,rfl⟩
  simp (disch:=omega) [hx0,Ql]
  refine Qa (Zac _ ⟨by omega,by omega⟩) (by simp) ?_
  simp (disch:=omega) [i0,i1,j1,Ql]
  refine Qa (Jr t hgn hgg) (by simp) ?_
  simp (disch:=omega) [i0,i1,j1,Ql]
  refine Qa (uo1 _ (GSys.Gtm t _ _)) (by simp) ?_
  cases hu:Wn s (usP 12 ds 1) (s.tm n (QH (hd (tyP ds 0))).2)
  ·simp (disch:=omega)
   exact QK (.inr rfl) (by simp) ⟨by simp [QZ,hu],_,_,_,_,rfl,fun h=>by simp [QZ,hu] at h⟩
  ·simp (disch:=omega) [i0,i1,j1,Ql]
   refine Qk (kid _ _ _ _ _ _ 1 (by omega)) ?_
   rintro r h' ⟨rfl,rfl⟩
   simp (disch:=omega) [i0,i1,j1,Ql]
   refine Qa (VU t (n) (hgn) false _ (by omega) b0) (by simp) ?_
   simp (disch:=omega) [i0,i1,j1,Ql]
   have sc:=Yc t (g:=n) a0
   refine Qa (sumc false false _ _ sc.1 a1 sc.2 b1) (by simp) ?_
   simp (disch:=omega) [i0,i1,j1,Ql]
   have hl1:ltB 40 (tyP ds 1).length=false:=by rw [Qd];omega
   refine Qa (lg (tyP ds 1)) (by simp) ?_
   simp (disch:=omega) [hl1]
   refine QK (.inr rfl) (by simp) ⟨by simp [QZ,hu],_,_,_,_,rfl,fun _=>?_⟩
   simp [QZ,hu]
end Go.Proofs.YtbmepminmpjlcaaGreat