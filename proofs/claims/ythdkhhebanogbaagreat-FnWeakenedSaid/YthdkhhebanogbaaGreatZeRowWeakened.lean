/- Part 5 of the proof of the row of the text YthdkhhebanogbaaGreatZRowWeakened: texts joined. No conditions. -/
import Derived.ProofKit
import Derived.RowKit
import Derived.ChangeArms
import Derived.Test.YthdkhhebanogbaaGreatZdRowWeakened
set_option linter.unusedSimpArgs false
set_option linter.unusedVariables false
set_option linter.unusedSectionVars false
namespace Go.Proofs.YthdkhhebanogbaaGreat
open Go Go.TL
set_option linter.unusedSimpArgs false
set_option linter.unusedVariables false
set_option maxRecDepth 20000
set_option maxHeartbeats 4000000
def I64 (n:Int):Prop:=-9223372036854775808≤n∧n≤9223372036854775807
def Q4 (a lo hi:Int):Bool:=leB lo a && leB a hi
theorem Q5 {a lo hi:Int}:Q4 a lo hi=true ↔ lo≤a∧a≤hi:=by simp [Q4,leB]
theorem Zf0 {a lo hi:Int}:Q4 a lo hi=false ↔ ¬ (lo≤a∧a≤hi):=by rw [← Q5];simp
theorem ZbP {a b:Int}:ltB a b=!leB b a:=by
 cases h:leB b a<;>simp [Qi,Qg,Ql,Qj,Qe,Qc,Bool.not_true,Bool.not_false,Ql,Qj] at h ⊢<;>omega
abbrev OU (u nl:Bool) (l:List Int):LV:=.sl u nl 1 (l.map fun n=>[N n])
abbrev L (nl:Bool) (l:List Int):LV:=OU false nl l
abbrev OB (u nl:Bool) (l:List Bool):LV:=.sl u nl 1 (l.map fun b=>[B b])
abbrev LB (nl:Bool) (l:List Bool):LV:=OB false nl l
theorem Zgr {α:Type} (e:α→LV) (he:∀ a,share (e a)=e a) (l:List α) (u nl:Bool) (i:Int) (h0:0≤i) (h1:i < l.length):QU 1 (.sl u nl 1 (l.map fun a=>[e a])) i=some (.rp [e (l[i.toNat]'(by omega))]):=by
 simp only [QU]
 rw [if_pos ⟨trivial,h0,by simpa using h1⟩]
 have:(l.map fun a=>[e a]).getD i.toNat []=[e (l[i.toNat]'(by omega))]:=by
  simp [List.getD_eq_getElem?_getD,show i.toNat < l.length by omega]
 rw [this]
 simp [he]
theorem Xu (l:List Int) (u nl:Bool) (i:Int) (h0:0≤i) (h1:i < l.length):QU 1 (OU u nl l) i=some (.rp [N (l.getD i.toNat 0)]):=by
 have:=Zgr N (by simp) l u nl i h0 h1
 rw [this,List.getD_eq_getElem?_getD,List.getElem?_eq_getElem (show i.toNat < l.length by omega)]
 rfl
theorem idx_LB (l:List Bool) (u nl:Bool) (i:Int) (h0:0≤i) (h1:i < l.length):QU 1 (OB u nl l) i=some (.rp [B (l.getD i.toNat false)]):=by
 have:=Zgr B (by simp) l u nl i h0 h1
 rw [this,List.getD_eq_getElem?_getD,List.getElem?_eq_getElem (show i.toNat < l.length by omega)]
 rfl
def Lok (l:List Int):Prop:=l.length≤1099511627776∧∀ n∈l,I64 n
theorem Lok.at {l:List Int} (h:Lok l) {i:Nat} (hi:i < l.length):I64 l[i]:=h.2 _ (List.getElem_mem _)
structure GSys where
 size:Int
 n1:Bool
 plus:List Int
 n2:Bool
 times:List Int
 n3:Bool
 below:List Bool
abbrev GSys.cells (s:GSys):List LV:=[N s.size,L s.n1 s.plus,L s.n2 s.times,LB s.n3 s.below]
abbrev GSys.lv (s:GSys):LV:=.agg s.cells
def GSys.wf (s:GSys):Prop:=I64 s.size∧s.plus.length≤1099511627776∧s.times.length≤1099511627776∧s.below.length≤1099511627776∧(∀ n∈s.plus,I64 n)∧∀ n∈s.times,I64 n
def GSys.pl (s:GSys) (a b:Int):Int:=s.plus.getD (a * s.size+b).toNat 0
def GSys.tm (s:GSys) (a b:Int):Int:=s.times.getD (a * s.size+b).toNat 0
def GSys.le (s:GSys) (a b:Int):Bool:=s.below.getD (a * s.size+b).toNat false
structure GSys.Tab (s:GSys):Prop where
 lo:2≤s.size
 hi:s.size≤16
 lp:(s.plus.length:Int)=s.size * s.size
 lt:(s.times.length:Int)=s.size * s.size
 lb:(s.below.length:Int)=s.size * s.size
 rp:∀ i,0≤s.plus.getD i 0∧s.plus.getD i 0 < s.size
 rt:∀ i,0≤s.times.getD i 0∧s.times.getD i 0 < s.size
def GSys.G (s:GSys) (a:Int):Prop:=0≤a∧a < s.size
theorem GSys.at {s:GSys} (t:s.Tab) {a b:Int} (ha:s.G a) (hb:s.G b):0≤a * s.size+b∧a * s.size+b < s.size * s.size∧0≤a * s.size∧a * s.size≤256:=by
 have h1:0≤a * s.size:=Int.mul_nonneg ha.1 (by have:=t.lo;omega)
 have h2:(a+1) * s.size≤s.size * s.size:=Int.mul_le_mul_of_nonneg_right (by have:=ha.2;omega) (by have:=t.lo;omega)
 have h3:(a+1) * s.size=a * s.size+s.size:=by rw [Int.add_mul];omega
 have h4:s.size * s.size≤16 * 16:=Int.mul_le_mul t.hi t.hi (by have:=t.lo;omega) (by omega)
 have:=hb.1;have:=hb.2
 refine ⟨by omega,by omega,h1,?_⟩
 omega
theorem GSys.Gpl {s:GSys} (t:s.Tab) (a b:Int):s.G (s.pl a b):=t.rp _
theorem GSys.Gtm {s:GSys} (t:s.Tab) (a b:Int):s.G (s.tm a b):=t.rt _
theorem GSys.Glt {s:GSys} {i:Nat} (h:ltB (i:Int) s.size=true):s.G i:=⟨by omega,by rw [Qi] at h;omega⟩
theorem GSys.G0 {s:GSys} (t:s.Tab):s.G 0:=⟨by omega,by have:=t.lo;omega⟩
theorem GSys.G1 {s:GSys} (t:s.Tab):s.G 1:=⟨by omega,by have:=t.lo;omega⟩
section
attribute [local simp low] Xi
attribute [local simp] ZeU Zev Zek ZeY Zel ZeQ
section
variable {s:GSys} (t:s.Tab) {a b:Int} (ha:s.G a) (hb:s.G b)
include t ha hb
theorem ZaY:Qf Tryz.prog Ws [s.lv,N a,N b] (·=N (s.pl a b)):=by
 refine Qf.of_codeOf Zmh Qz (by simp) ⟨_,rfl,by simp⟩ ?_
 obtain ⟨h1,h2,h3,h4⟩:=GSys.at t ha hb
 have:=t.lo;have:=t.hi;have:=ha.1;have:=ha.2;have:=hb.1;have:=hb.2
 simp (contextual:=true) (disch:=omega) [Ze7,Qw,Qs,Qd]
 have:=t.lp
 simp (contextual:=true) (disch:=omega) [Xu,GSys.pl]
theorem Zba:Qf Tryz.prog QV [s.lv,N a,N b] (·=N (s.tm a b)):=by
 refine Qf.of_codeOf Zm0 Qz (by simp) ⟨_,rfl,by simp⟩ ?_
 obtain ⟨h1,h2,h3,h4⟩:=GSys.at t ha hb
 have:=t.lo;have:=t.hi;have:=ha.1;have:=ha.2;have:=hb.1;have:=hb.2
 simp (contextual:=true) (disch:=omega) [ZfY,Qw,Qs,Qd]
 have:=t.lt
 simp (contextual:=true) (disch:=omega) [Xu,GSys.tm]
theorem XW:Qf Tryz.prog Q7 [s.lv,N a,N b] (·=B (s.le a b)):=by
 refine Qf.of_codeOf Zog Qz (by simp) ⟨_,rfl,by simp⟩ ?_
 obtain ⟨h1,h2,h3,h4⟩:=GSys.at t ha hb
 have:=t.lo;have:=t.hi;have:=ha.1;have:=ha.2;have:=hb.1;have:=hb.2
 simp (contextual:=true) (disch:=omega) [Zhe,Qw,Qs,Qd]
 have:=t.lb
 simp (contextual:=true) (disch:=omega) [idx_LB,GSys.le]
theorem Zfx:Qf Tryz.prog QF [s.lv,N a,N b] (·=N (s.pl a b)):=by
 refine Qf.of_codeOf Zcx Qz (by simp) ⟨_,rfl,by simp⟩ ?_
 obtain ⟨h1,h2,h3,h4⟩:=GSys.at t ha hb
 have:=t.lo;have:=t.hi;have:=ha.1;have:=ha.2;have:=hb.1;have:=hb.2
 simp (contextual:=true) (disch:=omega) [KI,Qw,Qs,Qd]
 have:=t.lp
 simp (contextual:=true) (disch:=omega) [Xu,GSys.pl]
theorem ZfU:Qf Tryz.prog Qy [s.lv,N a,N b] (·=N (s.tm a b)):=by
 refine Qf.of_codeOf Zck Qz (by simp) ⟨_,rfl,by simp⟩ ?_
 obtain ⟨h1,h2,h3,h4⟩:=GSys.at t ha hb
 have:=t.lo;have:=t.hi;have:=ha.1;have:=ha.2;have:=hb.1;have:=hb.2
 simp (contextual:=true) (disch:=omega) [Kd,Qw,Qs,Qd]
 have:=t.lt
 simp (contextual:=true) (disch:=omega) [Xu,GSys.tm]
theorem KY:Qf Tryz.prog QB [s.lv,N a,N b] (·=B (s.le a b)):=by
 refine Qf.of_codeOf Zcp Qz (by simp) ⟨_,rfl,by simp⟩ ?_
 obtain ⟨h1,h2,h3,h4⟩:=GSys.at t ha hb
 have:=t.lo;have:=t.hi;have:=ha.1;have:=ha.2;have:=hb.1;have:=hb.2
 simp (contextual:=true) (disch:=omega) [Ka,Qw,Qs,Qd]
 have:=t.lb
 simp (contextual:=true) (disch:=omega) [idx_LB,GSys.le]
end
theorem Zfi (a lo hi:Int):Qf Tryz.prog Xj [N a,N lo,N hi] (·=B (Q4 a lo hi)):=by
 refine Qf.of_codeOf Znz Qz (by simp) ⟨_,rfl,by simp⟩ ?_
 simp (contextual:=true) (disch:=omega) [Zha,Q4]
theorem ZZ (a lo hi:Int):Qf Tryz.prog WX [N a,N lo,N hi] (·=B (Q4 a lo hi)):=by
 refine Qf.of_codeOf Zkr Qz (by simp) ⟨_,rfl,by simp⟩ ?_
 simp (contextual:=true) (disch:=omega) [ZdU,Q4]
theorem Zo9 (s:GSys) (h:I64 s.size) (h2:-9223372036854775808 < s.size) (g:Int):Qf Tryz.prog WJ [s.lv,N g] (·=B (Q4 g 0 (s.size - 1))):=by
 refine Qf.of_codeOf ZdC Qz (by simp) ⟨_,rfl,by simp⟩ ?_
 obtain ⟨h1,h2⟩:=h
 simp (contextual:=true) (disch:=omega) [Vk,Qw,Qs,Qd]
 refine Qa (ZZ _ _ _) (by simp) ?_
 simp (contextual:=true) (disch:=omega)
end
def Yk (p:Int→Bool):Nat→Nat→Int
 | _,0=>-1
 | g,n+1=>if p g=true then g else Yk p (g+1) n
def YZ (p:Nat→Bool):Nat→Bool
 | 0=>true
 | n+1=>YZ p n && p n
@[simp] theorem allN_zero (p:Nat→Bool):YZ p 0=true:=rfl
theorem WO (p:Nat→Bool) (n:Nat):YZ p (n+1)=(YZ p n && p n):=rfl
theorem Yc {p : Nat → Bool} : ∀ {n : Nat}, YZ p n = true ↔ ∀ i, i < n → p i = true
  | 0 => by simp
  | n + 1 => by
    rw [WO, Bool.and_eq_true, Yc]
    exact ⟨fun h i hi => by by_cases he : i = n; · exact he ▸ h.2
                            · exact h.1 i (by omega), fun h => ⟨fun i hi => h i (by omega), h n (by omega)⟩⟩
theorem Zh2 {p:Nat→Bool} {i n:Nat} (h:i≤n) (hf:YZ p i=false):YZ p n=false:=by
 cases hc:YZ p n with
 | false=>rfl
 | true =>
  rw [Yc] at hc
  rw [Yc.2 fun j hj=>hc j (by omega)] at hf
  simp at hf
theorem XI {p:Nat→Bool} {i n:Nat} (h:i < n) (hf:p i=false):YZ p n=false :=
 Zh2 (i:=i+1) h (by rw [WO,hf];simp)
def GSys.jn (s:GSys) (a b g h:Int):Bool:=!s.le a h || !s.le b h || s.le g h
def GSys.isJoin (s:GSys) (a b g:Int):Bool:=s.le a g && s.le b g && YZ (fun h=>s.jn a b g h) s.size.toNat
def GSys.join (s:GSys) (a b:Int):Int:=Yk (s.isJoin a b) 0 s.size.toNat
def GSys.three (s:GSys) (a b c:Int):Bool :=
 eqB (s.pl (s.pl a b) c) (s.pl a (s.pl b c)) && eqB (s.tm (s.tm a b) c) (s.tm a (s.tm b c)) && eqB (s.tm a (s.pl b c)) (s.pl (s.tm a b) (s.tm a c)) && eqB (s.tm (s.pl a b) c) (s.pl (s.tm a c) (s.tm b c)) &&
  (!s.le a b || ((!s.le b c || s.le a c) && s.le (s.pl a c) (s.pl b c) && s.le (s.tm a c) (s.tm b c) && s.le (s.tm c a) (s.tm c b)))
section
variable {s:GSys} (t:s.Tab) {a b c:Int} (ha:s.G a) (hb:s.G b) (hc:s.G c)
include t ha hb hc
theorem Zpi:Qf Tryz.prog VP [s.lv,N a,N b,N c] (·=B (s.three a b c)):=by
 refine Qf.of_codeOf ZiI Qz (by simp) ⟨_,rfl,by simp⟩ ?_
 simp (disch:=omega) [Zc8,Qw,Qs]
 repeat' (first
  | with_reducible refine Qa (ZaY t (by first | assumption | exact GSys.Gpl t _ _ | exact GSys.Gtm t _ _ | exact GSys.Glt (by assumption) | exact GSys.G0 t | exact GSys.G1 t) (by first | assumption | exact GSys.Gpl t _ _ | exact GSys.Gtm t _ _ | exact GSys.Glt (by assumption) | exact GSys.G0 t | exact GSys.G1 t)) (by simp) ?_
  | with_reducible refine Qa (Zba t (by first | assumption | exact GSys.Gpl t _ _ | exact GSys.Gtm t _ _ | exact GSys.Glt (by assumption) | exact GSys.G0 t | exact GSys.G1 t) (by first | assumption | exact GSys.Gpl t _ _ | exact GSys.Gtm t _ _ | exact GSys.Glt (by assumption) | exact GSys.G0 t | exact GSys.G1 t)) (by simp) ?_
  | with_reducible refine Qa (XW t (by first | assumption | exact GSys.Gpl t _ _ | exact GSys.Gtm t _ _ | exact GSys.Glt (by assumption) | exact GSys.G0 t | exact GSys.G1 t) (by first | assumption | exact GSys.Gpl t _ _ | exact GSys.Gtm t _ _ | exact GSys.Glt (by assumption) | exact GSys.G0 t | exact GSys.G1 t)) (by simp) ?_
  | (with_reducible (first | refine Qn (fun hb_=>?_) (fun hb_=>?_) | refine Qm (fun hb_=>?_) (fun hb_=>?_))<;>simp (disch:=omega) [hb_])
  | simp (disch:=omega))
 all_goals simp_all [GSys.three]
theorem Zru:Qf Tryz.prog Za [s.lv,N a,N b,N c] (·=B (s.three a b c)):=by
 refine Qf.of_codeOf ZbN Qz (by simp) ⟨_,rfl,by simp⟩ ?_
 simp (disch:=omega) [JR,Qw,Qs]
 repeat' (first
  | with_reducible refine Qa (Zfx t (by first | assumption | exact GSys.Gpl t _ _ | exact GSys.Gtm t _ _ | exact GSys.Glt (by assumption) | exact GSys.G0 t | exact GSys.G1 t) (by first | assumption | exact GSys.Gpl t _ _ | exact GSys.Gtm t _ _ | exact GSys.Glt (by assumption) | exact GSys.G0 t | exact GSys.G1 t)) (by simp) ?_
  | with_reducible refine Qa (ZfU t (by first | assumption | exact GSys.Gpl t _ _ | exact GSys.Gtm t _ _ | exact GSys.Glt (by assumption) | exact GSys.G0 t | exact GSys.G1 t) (by first | assumption | exact GSys.Gpl t _ _ | exact GSys.Gtm t _ _ | exact GSys.Glt (by assumption) | exact GSys.G0 t | exact GSys.G1 t)) (by simp) ?_
  | with_reducible refine Qa (KY t (by first | assumption | exact GSys.Gpl t _ _ | exact GSys.Gtm t _ _ | exact GSys.Glt (by assumption) | exact GSys.G0 t | exact GSys.G1 t) (by first | assumption | exact GSys.Gpl t _ _ | exact GSys.Gtm t _ _ | exact GSys.Glt (by assumption) | exact GSys.G0 t | exact GSys.G1 t)) (by simp) ?_
  | (with_reducible (first | refine Qn (fun hb_=>?_) (fun hb_=>?_) | refine Qm (fun hb_=>?_) (fun hb_=>?_))<;>simp (disch:=omega) [hb_])
  | simp (disch:=omega))
 all_goals simp_all [GSys.three]
end
def KU (sz:Nat) (left:Int):Int:=if (sz:Int)≤left then left - sz else -1
def fill {α:Type} (e:α→List LV) (z:List LV) (l:List α) (i:Nat):List LV:=((l.take i).map e).flatten++(List.replicate (l.length - i) z).flatten
section
variable {α:Type} {e:α→List LV} {z:List LV} {l:List α} {sz:Nat} (he:∀ x,(e x).length=sz) (hz:z.length=sz)
include he
theorem ZoF (k:List α):((k.map e).flatten).length=k.length * sz:=by
 induction k with
 | nil=>simp
 | cons x k ih=>simp [ih,he,Nat.add_mul,Nat.add_comm]
include hz
theorem Zof {i:Nat} (h:i≤l.length):(fill e z l i).length=l.length * sz:=by
 simp only [fill,List.length_append,ZoF he,List.length_take,Nat.min_eq_left h]
 rw [List.length_flatten]
 simp only [List.map_replicate,hz,List.sum_replicate_nat]
 rw [← Nat.add_mul];congr 1;omega
theorem ZlD {i:Nat} (h:i < l.length):splice (fill e z l i) (i * sz) (e l[i])=fill e z l (i+1):=by
 have h1:(((l.take i).map e).flatten).length=i * sz:=by rw [ZoF he];simp [Nat.min_eq_left (Nat.le_of_lt h)]
 have h2:l.length - i=(l.length - (i+1))+1:=by omega
 unfold splice
 rw [fill,h2,List.replicate_succ,List.flatten_cons,fill,List.take_append_of_le_length (by omega),List.take_of_length_le (by omega),List.take_succ_eq_append_getElem h,List.map_append,List.flatten_append]
 simp only [List.map_cons,List.map_nil,List.flatten_cons,List.flatten_nil,List.append_nil]
 congr 1
 rw [List.drop_append,List.drop_of_length_le (by omega),he,h1,List.nil_append,List.drop_append,List.drop_of_length_le (by omega)]
 simp [hz]
end
theorem fill_end {α:Type} {e:α→List LV} {z:List LV} {l:List α}:fill e z l l.length=(l.map e).flatten:=by simp [fill]
theorem Zls {α:Type} {e:α→List LV} {z:List LV} {l:List α}:fill e z l 0=(List.replicate l.length z).flatten:=by simp [fill]
abbrev Wz:=List (Bool×List Int)
abbrev eC (c:Bool×List Int):LV:=L c.1 c.2
abbrev LC (nl:Bool) (ctx:Wz):LV:=.sl false nl 1 (ctx.map fun c=>[eC c])
theorem Zcj (ctx:Wz) (nl:Bool) (i:Nat) (h:i < ctx.length):QU 1 (LC nl ctx) (i:Int)=some (.rp [eC (ctx[i]'h)]):=by
 have:=Zgr eC (by simp) ctx false nl i (by omega) (by omega)
 rw [this]
 simp
def Wz.raw (ctx:Wz):Prop:=ctx.length≤9223372036854775807∧∀ c∈ctx,c.2.length≤9223372036854775807∧∀ n∈c.2,I64 n
def Wz.wf (ctx:Wz):Prop:=ctx.length≤1099511627776∧∀ c∈ctx,Lok c.2
def Wz.norm (ctx:Wz):Wz:=ctx.map fun c=>(false,c.2)
abbrev Wz.own (ctx:Wz):LV:=.sl true false 1 (ctx.map fun c=>[OU true false c.2])
theorem share_own (ctx:Wz):share ctx.own=LC false ctx.norm:=by
 simp [Wz.own,Wz.norm]
theorem low_own (k:Nat) (ctx:Wz):Low k ctx.own:=by simp [Wz.own]
def cws:Wz→Nat
 | []=>0
 | c::cs=>c.2.length+cws cs
theorem Zq1:∀ {ctx:Wz} {c:Bool×List Int},c∈ctx→c.2.length≤cws ctx
 | d::ctx,c,h=>by
  simp only [List.mem_cons] at h
  simp only [cws]
  rcases h with rfl | h
  ·omega
  ·have:=Zq1 h;omega
def sameC:Wz→Wz→Bool
 | [],[]=>true
 | a::a',b::b'=>(a.2 == b.2) && sameC a' b'
 | _,_=>false
end Go.Proofs.YthdkhhebanogbaaGreat
namespace Go.Proofs.YthdkhhebanogbaaGreat.Ty
def QP (c:Int):Bool:=(decide (3≤c) && decide (c≤18)) || c == 35
def W9 (c:Int):Bool:=(decide (19≤c) && decide (c≤34)) || c == 36
def WD (c:Int):Option Nat :=
 if c=0 then some 0 else if c=1∨c=2∨QP c=true then some 2 else if W9 c=true then some 1 else none
def skip:Nat→List Int→Option (List Int)
 | 0,l=>some l
 | _+1,[]=>none
 | n+1,c::l=>match WD c with
  | none=>none
  | some k=>skip (n+k) l
def KK (n:Nat) (l:List Int) (len:Nat):Int:=match skip n l with
 | some r=>(len:Int) - r.length
 | none=>-1
def wty (l:List Int):Bool:=decide (1≤l.length) && decide (l.length≤40) && (skip 1 l == some [])
theorem Zov {c:Int} {k:Nat} (h:WD c=some k):k≤2:=by
 unfold WD at h
 split at h
 ·simp at h;omega
 ·split at h
  ·simp at h;omega
  ·split at h
   ·simp at h;omega
   ·simp at h
theorem Zjb (b:Nat):∀ (l:List Int) (a:Nat),skip (a+b) l=(skip a l).bind (skip b)
 | [],0=>by simp [skip]
 | [],a+1=>by rw [show a+1+b=(a+b)+1 by omega];simp [skip]
 | c::l,0=>by simp [skip]
 | c::l,a+1=>by
  rw [show a+1+b=(a+b)+1 by omega]
  simp only [skip]
  cases h:WD c with
  | none=>simp
  | some k =>
   simp only
   rw [show a+b+k=(a+k)+b by omega]
   exact Zjb b l (a+k)
theorem Zgq:∀ (l:List Int) (n:Nat) (r:List Int),skip n l=some r→∃ m,r=l.drop m∧n≤m∧m≤l.length
 | l,0,r,h=>⟨0,by simp [skip] at h;simp [h],by omega,by omega⟩
 | [],n+1,r,h=>by simp [skip] at h
 | c::l,n+1,r,h=>by
  simp only [skip] at h
  cases hk:WD c with
  | none=>simp [hk] at h
  | some k =>
   simp only [hk] at h
   obtain ⟨m,hm,h1,h2⟩:=Zgq l (n+k) r h
   exact ⟨m+1,by simpa using hm,by omega,by simp;omega⟩
theorem ZgY {l r:List Int} {n:Nat} (h:skip n l=some r):r.length+n≤l.length:=by
 obtain ⟨m,rfl,h1,h2⟩:=Zgq l n r h
 simp;omega
end Go.Proofs.YthdkhhebanogbaaGreat.Ty
namespace Go.Proofs.YthdkhhebanogbaaGreat
open Go Go.TL
open Go.Proofs.YthdkhhebanogbaaGreat.Ty
set_option linter.unusedSimpArgs false
set_option linter.unusedVariables false
set_option maxRecDepth 20000
set_option maxHeartbeats 4000000
def QG (k:Int):Int×Int :=
 if Q4 k 0 2=true then (k,-1) else if Q4 k 3 18=true then (3,k - 3) else if Q4 k 19 34=true then (4,k - 19)
 else if eqB k 35=true then (3,-1) else if eqB k 36=true then (4,-1) else (5,-1)
theorem Zbj (k:Int) (h:I64 k):Qf Tryz.prog Zn [N k] (·=.tup [N (QG k).1,N (QG k).2]):=by
 obtain ⟨ha,hb⟩:=h
 refine Qf.of_codeOf ZmC Qz (by simp) ⟨_,rfl,by simp⟩ ?_
 simp (disch:=omega) [ZfX]
 repeat' (first
  | with_reducible refine Qa (ZZ _ _ _) (by simp) ?_
  | (with_reducible (first | refine Qn (fun hb_=>?_) (fun hb_=>?_) | refine Qm (fun hb_=>?_) (fun hb_=>?_))<;>simp (disch:=omega) [hb_])
  | simp (disch:=omega))
 all_goals unfold QG
 ·simp_all
 ·rename_i h0
  rw [Q5] at hb_
  rw [if_neg (by simp_all),if_pos (by rw [Q5];exact hb_)]
  simp (disch:=omega) [Qd]
 ·rename_i h0 h1
  rw [Q5] at hb_
  rw [if_neg (by simp_all),if_neg (by simp_all),if_pos (by rw [Q5];exact hb_)]
  simp (disch:=omega) [Qd]
 all_goals simp_all
def ZI (l:List Int) (i:Int):Int:=if 0≤i then KK 1 (l.drop i.toNat) l.length else -1
theorem Zor {l:List Int} {i:Int} (h:i < 0∨l.length≤i):ZI l i=-1:=by
 unfold ZI
 split
 ·rw [List.drop_eq_nil_of_le (by omega)];simp [KK,Ty.skip]
 ·rfl
theorem Zqi {l:List Int} {i:Int} (h:0≤i):ZI l i=-1∨(i < ZI l i∧ZI l i≤l.length):=by
 unfold ZI KK
 rw [if_pos h]
 cases hs:Ty.skip 1 (l.drop i.toNat) with
 | none=>exact .inl rfl
 | some r =>
  have:=ZgY hs
  simp only [List.length_drop] at this ⊢
  right;omega
theorem kidsN' (c:Int):WD c=if c=0 then some 0 else if (1≤c∧c≤18)∨c=35 then some 2 else if (19≤c∧c≤34)∨c=36 then some 1 else none:=by
 have e1:(c=1∨c=2∨QP c=true) ↔ ((1≤c∧c≤18)∨c=35):=by simp [QP];omega
 have e2:(W9 c=true) ↔ ((19≤c∧c≤34)∨c=36):=by simp [W9]
 unfold WD
 simp only [e1,e2]
theorem ZpA (c:Int):((QG c).1=0∧WD c=some 0)∨((QG c).1=4∧WD c=some 1)∨((QG c).1=5∧WD c=none)∨((QG c).1≠0∧(QG c).1≠4∧(QG c).1≠5∧WD c=some 2):=by
 rw [kidsN']
 unfold QG
 simp only [Q5,Qe]
 by_cases h0:0≤c∧c≤2
 ·rw [if_pos h0]
  by_cases h:c=0
  ·simp [h]
  ·rw [if_neg h,if_pos (by omega)];simp;omega
 rw [if_neg h0,if_neg (show ¬ c=0 by omega)]
 by_cases h1:3≤c∧c≤18
 ·rw [if_pos h1,if_pos (by omega)];simp
 rw [if_neg h1]
 by_cases h2:19≤c∧c≤34
 ·rw [if_pos h2,if_neg (by omega),if_pos (by omega)];simp
 rw [if_neg h2]
 by_cases h3:c=35
 ·simp [h3]
 rw [if_neg h3]
 by_cases h4:c=36
 ·simp [h4]
 rw [if_neg h4,if_neg (by omega),if_neg (by omega)]
 simp
theorem tEnd_in {l:List Int} {i:Int} (h0:0≤i) (h1:i < l.length) (c:Int) (hc:c=l[i.toNat]'(by omega)) :
  ((QG c).1=0→ZI l i=i+1)∧((QG c).1=4→ZI l i=ZI l (i+1))∧((QG c).1=5→ZI l i=-1) ∧
  ((QG c).1≠0→(QG c).1≠4→(QG c).1≠5→ZI l i=ZI l (ZI l (i+1))):=by
 have hd:l.drop i.toNat=c::l.drop (i.toNat+1):=by rw [hc];exact List.drop_eq_getElem_cons (by omega)
 have e1:(i+1).toNat=i.toNat+1:=by omega
 have key:ZI l i=match WD c with
   | none=>-1
   | some k=>KK (0+k) (l.drop (i.toNat+1)) l.length:=by
  unfold ZI KK
  rw [if_pos h0,hd]
  simp only [Ty.skip]
  cases WD c<;>rfl
 rcases ZpA c with ⟨a,b⟩ | ⟨a,b⟩ | ⟨a,b⟩ | ⟨a1,a2,a3,b⟩
 ·rw [b] at key
  refine ⟨fun _=>?_,fun h=>by omega,fun h=>by omega,fun h=>absurd a h⟩
  rw [key];simp [KK,Ty.skip];omega
 ·rw [b] at key
  refine ⟨fun h=>by omega,fun _=>?_,fun h=>by omega,fun _ h=>absurd a h⟩
  rw [key];unfold ZI;rw [if_pos (by omega),e1]
 ·rw [b] at key
  exact ⟨fun h=>by omega,fun h=>by omega,fun _=>key,fun _ _ h=>absurd a h⟩
 ·rw [b] at key
  refine ⟨fun h=>absurd h a1,fun h=>absurd h a2,fun h=>absurd h a3,fun _ _ _=>?_⟩
  rw [key]
  show KK (1+1) _ _=_
  unfold ZI
  rw [if_pos (show 0≤i+1 by omega),e1]
  unfold KK
  rw [Zjb]
  cases hs:Ty.skip 1 (l.drop (i.toNat+1)) with
  | none=>simp
  | some r =>
   obtain ⟨m,hm,h2,h3⟩:=Zgq _ _ _ hs
   have hr:r.length≤l.length:=by rw [hm];simp
   simp only [Option.bind_some]
   rw [if_pos (by omega)]
   have:l.drop ((l.length:Int) - r.length).toNat=r:=by
    rw [hm,List.drop_drop]
    simp only [List.length_drop] at h3 ⊢
    congr 1;omega
   rw [this]
def meas (l:List Int) (i:Int):Nat:=if i < 0 then 0 else (l.length+1 - i).toNat
theorem ZiC (nl:Bool) (l:List Int) (hl:Lok l) (i:Int) (hi:I64 i):Qf Tryz.prog Xe [L nl l,N i] (·=N (ZI l i)):=by
 have hlen:=hl.1
 generalize hd:meas l i=d
 induction d using Nat.strongRecOn generalizing i with
 | _ d ih =>
  obtain ⟨ha,hb⟩:=hi
  refine Qf.of_codeOf Zi7 Qz (by simp) ⟨_,rfl,by simp⟩ ?_
  simp (disch:=omega) [Zdh,Qd]
  (with_reducible first | refine Qn (fun h1=>?_) (fun h1=>?_) | refine Qm (fun h1=>?_) (fun h1=>?_))
  ·simp (disch:=omega) [h1]
   simp only [Qi,Qg,Ql,Qj,Qe,Qc,Bool.not_true,Bool.not_false] at h1
   exact (Zor (.inl h1)).symm
  simp (disch:=omega) [h1]
  (with_reducible first | refine Qn (fun h2=>?_) (fun h2=>?_) | refine Qm (fun h2=>?_) (fun h2=>?_))
  ·simp (disch:=omega) [h2]
   simp only [Qi,Qg,Ql,Qj,Qe,Qc,Bool.not_true,Bool.not_false] at h2
   exact (Zor (.inr h2)).symm
  simp only [Qi,Qg,Ql,Qj,Qe,Qc,Bool.not_true,Bool.not_false] at h1 h2
  simp (disch:=omega) [Xu]
  have hci:I64 (l[i.toNat]'(by omega)):=hl.2 _ (List.getElem_mem _)
  generalize hc:l[i.toNat]'(by omega)=c at *
  obtain ⟨g0,g4,g5,g2⟩:=tEnd_in h1 h2 c hc.symm
  have i1:Qf Tryz.prog Xe [L nl l,N (i+1)] (·=N (ZI l (i+1))):=ih _ (by rw [← hd];unfold meas;rw [if_neg (by omega),if_neg (by omega)];omega) (i+1) ⟨by omega,by omega⟩ rfl
  have hr:=Zqi (l:=l) (i:=i+1) (by omega)
  have i2:Qf Tryz.prog Xe [L nl l,N (ZI l (i+1))] (·=N (ZI l (ZI l (i+1)))):=ih _ (by rw [← hd];unfold meas;split<;>(rw [if_neg (by omega)];omega)) _ ⟨by omega,by omega⟩ rfl
  repeat' (first
  | with_reducible refine Qa (Zbj _ hci) (by simp) ?_
  | with_reducible refine Qa (i1) (by simp) ?_
  | with_reducible refine Qa (i2) (by simp) ?_
  | (with_reducible (first | refine Qn (fun hb_=>?_) (fun hb_=>?_) | refine Qm (fun hb_=>?_) (fun hb_=>?_))<;>simp (disch:=omega) [hb_,Qd])
  | simp (disch:=omega) [Qd])
  all_goals simp only [Qi,Qg,Ql,Qj,Qe,Qc,Bool.not_true,Bool.not_false] at *
  ·exact (g0 (by omega)).symm
  ·exact (g4 (by omega)).symm
  ·exact (g5 (by omega)).symm
  ·exact (g2 (by omega) (by omega) (by omega)).symm
theorem ZlV (l:List Int):wty l=(Q4 l.length 1 40 && eqB (ZI l 0) l.length):=by
 have:(Ty.skip 1 l == some [])=eqB (ZI l 0) l.length:=by
  unfold ZI KK eqB
  simp only [Int.le_refl,if_true,Int.toNat_zero,List.drop_zero]
  cases h:Ty.skip 1 l with
  | none=>simp
  | some r =>
   have:=ZgY h
   cases r with
   | nil=>simp
   | cons a r=>simp;omega
 rw [← this,wty]
 congr 1
 rw [Bool.eq_iff_iff];simp [Q4,leB];omega
theorem Zbe (nl:Bool) (l:List Int) (hl:Lok l):Qf Tryz.prog W3 [L nl l] (·=B (wty l)):=by
 refine Qf.of_codeOf Zdl Qz (by simp) ⟨_,rfl,by simp⟩ ?_
 have h0:I64 0:=⟨by omega,by omega⟩
 have hl1:=hl.1
 simp (disch:=omega) [KQ]
 repeat' (first
  | with_reducible refine Qa (ZZ _ _ _) (by simp) ?_
  | with_reducible refine Qa (ZiC nl l hl 0 h0) (by simp) ?_
  | (with_reducible (first | refine Qn (fun hb_=>?_) (fun hb_=>?_) | refine Qm (fun hb_=>?_) (fun hb_=>?_))<;>simp (disch:=omega) [hb_])
  | simp (disch:=omega))
 all_goals simp_all [ZlV]
theorem ZiV (c:Int):QP c=(Q4 c 3 18 || eqB c 35):=by
 unfold QP Q4 leB eqB
 by_cases h:c=35<;>simp [h]
theorem Zmw (c:Int):W9 c=(Q4 c 19 34 || eqB c 36):=by
 unfold W9 Q4 leB eqB
 by_cases h:c=36<;>simp [h]
theorem KS (c:Int):QP c=true ↔ (3≤c∧c≤18)∨c=35:=by simp [QP]
theorem Zgh (c:Int):W9 c=true ↔ (19≤c∧c≤34)∨c=36:=by simp [W9]
theorem ZnA (c:Int):Qf Tryz.prog JS [N c] (·=B (QP c)):=by
 refine Qf.of_codeOf ZjF Qz (by simp) ⟨_,rfl,by simp⟩ ?_
 simp (disch:=omega) [ZcW]
 repeat' (first
  | with_reducible refine Qa (Zfi _ _ _) (by simp) ?_
  | (with_reducible (first | refine Qn (fun hb_=>?_) (fun hb_=>?_) | refine Qm (fun hb_=>?_) (fun hb_=>?_))<;>simp (disch:=omega) [hb_])
  | simp (disch:=omega))
 all_goals simp_all [ZiV]
theorem Znf (c:Int):Qf Tryz.prog JX [N c] (·=B (W9 c)):=by
 refine Qf.of_codeOf ZmJ Qz (by simp) ⟨_,rfl,by simp⟩ ?_
 simp (disch:=omega) [Zga]
 repeat' (first
  | with_reducible refine Qa (Zfi _ _ _) (by simp) ?_
  | (with_reducible (first | refine Qn (fun hb_=>?_) (fun hb_=>?_) | refine Qm (fun hb_=>?_) (fun hb_=>?_))<;>simp (disch:=omega) [hb_])
  | simp (disch:=omega))
 all_goals simp_all [Zmw]
def Zhg (c:Int):Int:=match WD c with
 | some n=>n
 | none=>-1
theorem kidsI' (c:Int):Zhg c=if c=0 then 0 else if c=1∨c=2∨QP c=true then 2 else if W9 c=true then 1 else -1:=by
 unfold Zhg WD
 split<;>rename_i h<;>(repeat' split at h)<;>simp_all
 all_goals omega
theorem Zqy (c:Int):Qf Tryz.prog KC [N c] (·=N (Zhg c)):=by
 refine Qf.of_codeOf Zka Qz (by simp) ⟨_,rfl,by simp⟩ ?_
 simp (disch:=omega) [Zd7]
 repeat' (first
  | with_reducible refine Qa (ZnA _) (by simp) ?_
  | with_reducible refine Qa (Znf _) (by simp) ?_
  | (with_reducible (first | refine Qn (fun hb_=>?_) (fun hb_=>?_) | refine Qm (fun hb_=>?_) (fun hb_=>?_))<;>simp (disch:=omega) [hb_])
  | simp (disch:=omega))
 all_goals simp_all [kidsI',Qi,Qg,Ql,Qj,Qe,Qc,Bool.not_true,Bool.not_false]
def Xc (c:Int):Int:=if 35≤c then -1 else if 19≤c then c - 19 else c - 3
theorem ZcX (c:Int) (h:I64 c) (hg:0≤c):Qf Tryz.prog Ye [N c] (·=N (Xc c)):=by
 refine Qf.of_codeOf Ziu Qz (by simp) ⟨_,rfl,by simp⟩ ?_
 obtain ⟨h1,h2⟩:=h
 simp (disch:=omega) [ZcV,Qd]
 repeat' (first
  | (with_reducible (first | refine Qn (fun hb_=>?_) (fun hb_=>?_) | refine Qm (fun hb_=>?_) (fun hb_=>?_))<;>simp (disch:=omega) [hb_,Qd])
  | simp (disch:=omega) [Qd])
 all_goals simp only [Qi,Qg,Ql,Qj,Qe,Qc,Bool.not_true,Bool.not_false,Xc] at *
 ·rw [if_pos hb_]
 ·rename_i h
  rw [if_neg (by omega),if_pos hb_]
 ·rename_i h
  rw [if_neg (by omega),if_neg (by omega)]
theorem Zn2 (nl:Bool) (l:List Int) (hl:Lok l) (i:Nat) (hi:i≤l.length):Qf Tryz.prog Vq [L nl l,N i] (·=N (ZI l i)):=by
 have hlen:=hl.1
 refine Qf.of_codeOf ZlP Qz (by simp) ⟨_,rfl,by simp⟩ ?_
 simp (disch:=omega) [Zf3]
 refine XH l.length i (fun j t _=>∃ m:Nat,t 6=N j∧t 5=N (m+1)∧m≤j∧ZI l i=KK (m+1) (l.drop j) l.length) ⟨0,by simp,by simp,by omega,by unfold ZI;rw [if_pos (by omega)];simp⟩ hi ?_
 rintro j t1 hh hf hj ⟨m,e6,e5,hm,he⟩
 (have e0:=hf 0 (by kernel_rfl);clear hf;simp [] at e0)
 simp (disch:=omega) [e0,e5,e6]
 (with_reducible first | refine Qn (fun h6=>?_) (fun h6=>?_) | refine Qm (fun h6=>?_) (fun h6=>?_))
 ·simp only [Qi,Qg,Ql,Qj,Qe,Qc,Bool.not_true,Bool.not_false] at h6
  simp (disch:=omega) [e0,e5,e6,Xu]
  have hd:l.drop j=l[j]::l.drop (j+1):=List.drop_eq_getElem_cons (by omega)
  generalize l[j]'(by omega)=c at *
  have key:ZI l i=match WD c with
    | none=>-1
    | some q=>KK (m+q) (l.drop (j+1)) l.length:=by
   rw [he,hd]
   unfold KK
   simp only [Ty.skip]
   cases WD c<;>rfl
  refine Qa (Zqy c) (by simp) ?_
  cases hq:WD c with
  | none =>
   rw [hq] at key
   have hk1:Zhg c=-1:=by simp [Zhg,hq]
   rw [hk1]
   have hn1:ltB (-1) 0=true:=by simp [Qi,Qg,Ql,Qj,Qe,Qc,Bool.not_true,Bool.not_false]
   repeat' (first
  | (with_reducible (first | refine Qn (fun hb_=>?_) (fun hb_=>?_) | refine Qm (fun hb_=>?_) (fun hb_=>?_))<;>simp (disch:=omega) [hb_,e0,e5,e6,hn1])
  | simp (disch:=omega) [e0,e5,e6,hn1])
   exact key.symm
  | some q =>
   rw [hq] at key
   have hk1:Zhg c=q:=by simp [Zhg,hq]
   have hq2:=Zov hq
   rw [hk1]
   simp (disch:=omega) [e0,e5,e6,Qd]
   repeat' (first
  | (with_reducible (first | refine Qn (fun hb_=>?_) (fun hb_=>?_) | refine Qm (fun hb_=>?_) (fun hb_=>?_))<;>simp (disch:=omega) [hb_,e0,e5,e6,Qd])
  | simp (disch:=omega) [e0,e5,e6,Qd])
   all_goals simp only [Qi,Qg,Ql,Qj,Qe,Qc,Bool.not_true,Bool.not_false] at *
   ·omega
   ·rw [key]
    show _=KK (m+q) _ _
    rw [show m+q=0 by omega];simp [KK,Ty.skip];omega
   ·refine ⟨by omega,m+q - 1,by omega,by omega,?_⟩
    rw [key,show m+q - 1+1=m+q by omega]
 ·simp only [Qi,Qg,Ql,Qj,Qe,Qc,Bool.not_true,Bool.not_false] at h6
  simp (disch:=omega)
  rw [he,List.drop_eq_nil_of_le (by omega)];simp [KK,Ty.skip]
theorem Zk8 (nl:Bool) (l:List Int) (hl:Lok l):Qf Tryz.prog KA [L nl l] (·=B (wty l)):=by
 refine Qf.of_codeOf Zj2 Qz (by simp) ⟨_,rfl,by simp⟩ ?_
 have hl1:=hl.1
 have hE:=Zn2 nl l hl 0 (by omega)
 simp (disch:=omega) [ZdT]
 repeat' (first
  | with_reducible refine Qa (hE) (by simp) ?_
  | (with_reducible (first | refine Qn (fun hb_=>?_) (fun hb_=>?_) | refine Qm (fun hb_=>?_) (fun hb_=>?_))<;>simp (disch:=omega) [hb_])
  | simp (disch:=omega))
 ·rw [ZlV,hb_]
  simp_all [Q4,ltB,leB]
  omega
 all_goals simp_all [ZlV,Q4]
def okC (size:Int) (closed:Bool) (c:Int):Bool:=!(QP c || W9 c) || (ltB (Xc c) size && (!closed || leB 0 (Xc c)))
def Yw (size:Int) (closed:Bool) (l:List Int) (i:Nat):Bool:=okC size closed (l.getD i 0)
def YN (size:Int) (closed:Bool) (l:List Int):Bool:=YZ (Yw size closed l) l.length
theorem Zpx (c:Int):(ltB 0 (Zhg c) && ltB 2 c)=(QP c || W9 c):=by
 rw [Bool.eq_iff_iff]
 simp only [kidsI',Bool.and_eq_true,Bool.or_eq_true,Qi,Qg,Ql,Qj,Qe,Qc,Bool.not_true,Bool.not_false,KS,Zgh]
 repeat' split
 all_goals omega
theorem Zg7 (nl:Bool) (l:List Int) (hl:Lok l) (size:Int) (hs:I64 size) (closed:Bool):Qf Tryz.prog Jq [L nl l,N size,B closed] (·=B (YN size closed l)):=by
 have hlen:=hl.1
 refine Qf.of_codeOf Zhn Qz (by simp) ⟨_,rfl,by simp⟩ ?_
 simp (disch:=omega) [Zci]
 refine XH l.length 0 (fun i t _=>t 7=N i∧YZ (Yw size closed l) i=true) (by simp) (by omega) ?_
 rintro i t1 hh hf hi ⟨e7,hj⟩
 (have e0:=hf 0 (by kernel_rfl);have e1:=hf 1 (by kernel_rfl);have e2:=hf 2 (by kernel_rfl);clear hf;simp [] at e0 e1 e2)
 simp (disch:=omega) [e0,e1,e2,e7]
 (with_reducible first | refine Qn (fun h6=>?_) (fun h6=>?_) | refine Qm (fun h6=>?_) (fun h6=>?_))
 ·simp only [Qi,Qg,Ql,Qj,Qe,Qc,Bool.not_true,Bool.not_false] at h6
  have hc:=hl.at (i:=i) (by omega)
  have hget:Yw size closed l i=okC size closed (l[i]'(by omega)):=by simp [Yw,show i < l.length by omega]
  obtain ⟨c,hce⟩:∃ c,l[i]'(by omega)=c:=⟨_,rfl⟩
  rw [hce] at hc hget
  have hkg:=Zpx c
  simp (disch:=omega) [e0,e1,e2,e7,Xu,hce]
  refine Qa (Zqy c) (by simp) ?_
  refine Zf1 (fun t h=>t 27=B (QP c || W9 c)) ?_ ?_
  ·repeat' (first
  | (with_reducible (first | refine Qn (fun hb_=>?_) (fun hb_=>?_) | refine Qm (fun hb_=>?_) (fun hb_=>?_))<;>simp (disch:=omega) [hb_,e0,e1,e2,e7,Xu,hce])
  | simp (disch:=omega) [e0,e1,e2,e7,Xu,hce])
   all_goals simp_all
  ·rintro t2 hh hf h27
   (have f0:=hf 0 (by kernel_rfl);have f1:=hf 1 (by kernel_rfl);have f2:=hf 2 (by kernel_rfl);have f7:=hf 7 (by kernel_rfl);clear hf;simp [e0,e1,e2,e7] at f0 f1 f2 f7)
   simp (disch:=omega) [h27]
   (with_reducible first | refine Qn (fun h8=>?_) (fun h8=>?_) | refine Qm (fun h8=>?_) (fun h8=>?_))
   ·have hc0:0≤c:=by simp only [Bool.or_eq_true,KS,Zgh] at h8;omega
    rw [okC,h8,ZbP] at hget
    cases closed<;>repeat' (first
  | with_reducible refine Qa (ZcX c hc hc0) (by simp) ?_
  | (with_reducible (first | refine Qn (fun hb_=>?_) (fun hb_=>?_) | refine Qm (fun hb_=>?_) (fun hb_=>?_))<;>simp (disch:=omega) [hb_,f0,f1,f2,f7,Xu,hce])
  | simp (disch:=omega) [f0,f1,f2,f7,Xu,hce])
    ·exact XI (p:=Yw size false l) (i:=i) (by omega) (by simp [hget,hb_])
    ·exact ⟨by omega,Qd (by omega),by simp [WO,hj,hget,hb_]⟩
    ·exact XI (p:=Yw size true l) (i:=i) (by omega) (by simp [hget,hb_])
    ·exact XI (p:=Yw size true l) (i:=i) (by omega) (by rw [ZbP] at hb_;simp at hb_;simp [hget,hb_])
    ·refine ⟨by omega,Qd (by omega),?_⟩
     rw [ZbP] at hb_
     simp_all [WO]
   ·simp (disch:=omega) [f0,f1,f2,f7]
    exact ⟨by omega,Qd (by omega),by simp [WO,hj,hget,okC,h8]⟩
 ·simp only [Qi,Qg,Ql,Qj,Qe,Qc,Bool.not_true,Bool.not_false] at h6
  simp (disch:=omega)
  rw [← hj,show i=l.length by omega,YN]
theorem Znv {c:Int} (h:0≤c∧c≤36):((eqB (QG c).1 3 || eqB (QG c).1 4)=(QP c || W9 c))∧((QP c || W9 c)=true→(QG c).2=Xc c):=by
 unfold QG Xc
 simp only [Q5,Qe]
 refine ⟨?_,fun h1=>?_⟩
 ·rw [Bool.eq_iff_iff]
  simp only [Bool.or_eq_true,KS,Zgh,Qe]
  repeat' split
  all_goals (simp;try omega)
 ·simp only [Bool.or_eq_true,KS,Zgh] at h1
  repeat' split
  all_goals (simp;try omega)
theorem ZgX {c:Int} {k:Nat} (h:WD c=some k):0≤c∧c≤36:=by
 rw [kidsN'] at h
 repeat' split at h
 all_goals first | omega | simp at h
theorem Zh8:∀ (l:List Int) (n:Nat) (r:List Int),Ty.skip n l=some r→∀ i,i+r.length < l.length→0≤l.getD i 0∧l.getD i 0≤36
 | l,0,r,h,i,hi=>by simp [Ty.skip] at h;subst h;omega
 | [],n+1,r,h,i,hi=>by simp [Ty.skip] at h
 | c::l,n+1,r,h,i,hi=>by
  simp only [Ty.skip] at h
  cases hk:WD c with
  | none=>simp [hk] at h
  | some k =>
   simp only [hk] at h
   cases i with
   | zero=>simpa using ZgX hk
   | succ i =>
    have:=Zh8 l (n+k) r h i (by simp at hi;omega)
    simpa using this
theorem Zgs {l:List Int} (h:wty l=true) (i:Nat) (hi:i < l.length):0≤l.getD i 0∧l.getD i 0≤36:=by
 simp [wty] at h
 exact Zh8 l 1 [] h.2 i (by simpa using hi)
theorem Zhb {s:GSys} (t:s.Tab) (nl:Bool) (l:List Int) (hl:Lok l):Qf Tryz.prog Jr [s.lv,L nl l] (·=B (wty l && YN s.size true l)):=by
 have hlen:=hl.1
 have h2:=t.lo;have h16:=t.hi
 refine Qf.of_codeOf Zhp Qz (by simp) ⟨_,rfl,by simp⟩ ?_
 simp (disch:=omega) [Zch,Qw,Qs]
 refine Qa (Zbe nl l hl) (by simp) ?_
 simp (disch:=omega)
 (with_reducible first | refine Qn (fun h1=>?_) (fun h1=>?_) | refine Qm (fun h1=>?_) (fun h1=>?_))
 ·rw [h1,Bool.true_and]
  simp (disch:=omega)
  refine XH l.length 0 (fun i t _=>t 14=N i∧YZ (Yw s.size true l) i=true) (by simp) (by omega) ?_
  rintro i t1 hh hf hi ⟨e14,hj⟩
  (have e2:=hf 2 (by kernel_rfl);have e12:=hf 12 (by kernel_rfl);have e13:=hf 13 (by kernel_rfl);clear hf;simp [] at e2 e12 e13)
  simp (disch:=omega) [e2,e12,e13,e14]
  (with_reducible first | refine Qn (fun h6=>?_) (fun h6=>?_) | refine Qm (fun h6=>?_) (fun h6=>?_))
  ·simp only [Qi,Qg,Ql,Qj,Qe,Qc,Bool.not_true,Bool.not_false] at h6
   have hc:=hl.at (i:=i) (by omega)
   have hcr:=Zgs h1 i (by omega)
   have hget:Yw s.size true l i=okC s.size true (l[i]'(by omega)):=by simp [Yw,show i < l.length by omega]
   simp only [List.getD_eq_getElem?_getD,List.getElem?_eq_getElem (show i < l.length by omega),Option.getD_some] at hcr
   obtain ⟨c,hce⟩:∃ c,l[i]'(by omega)=c:=⟨_,rfl⟩
   rw [hce] at hc hget hcr
   obtain ⟨hs1,hs2⟩:=Znv hcr
   simp (disch:=omega) [e2,e12,e13,e14,Xu,hce]
   refine Qa (Zbj c hc) (by simp) ?_
   simp (disch:=omega) [e2,e12,e13,e14]
   rw [okC] at hget
   have hI:I64 s.size:=⟨by omega,by omega⟩
   have hlo:-9223372036854775808 < s.size:=by omega
   have hwb:Q4 (QG c).2 0 (s.size - 1)=(leB 0 (QG c).2 && ltB (QG c).2 s.size):=by
    rw [Bool.eq_iff_iff];simp [Q4,Qi,Qg,Ql,Qj,Qe,Qc,Bool.not_true,Bool.not_false];omega
   simp only [Bool.not_true,Bool.false_or] at hget
   repeat' (first
  | with_reducible refine Qa (Zo9 s hI hlo _) (by simp) ?_
  | (with_reducible (first | refine Qn (fun hb_=>?_) (fun hb_=>?_) | refine Qm (fun hb_=>?_) (fun hb_=>?_))<;>simp (disch:=omega) [hb_,e2,e12,e13,e14])
  | simp (disch:=omega) [e2,e12,e13,e14])
   all_goals first
    | exact ⟨by omega,Qd (by omega),by simp_all [WO]⟩
    | exact XI (p:=Yw s.size true l) (i:=i) (by omega) (by cases hB:leB 0 (Xc c)<;>cases hC:QP c<;>cases hD:W9 c<;>simp_all)
  ·simp only [Qi,Qg,Ql,Qj,Qe,Qc,Bool.not_true,Bool.not_false] at h6
   simp (disch:=omega)
   rw [show i=l.length by omega] at hj
   rw [YN,hj]
 ·simp_all
inductive GTerm where
 | mk (op n:Int) (nl1:Bool) (ty:List Int) (nl2:Bool) (ks:List GTerm)
mutual
def GTerm.cells:GTerm→List LV
 | .mk op n nl1 ty nl2 ks=>[N op,N n,L nl1 ty,.sl false nl2 4 (QM ks)]
def QM:List GTerm→List (List LV)
 | []=>[]
 | k::ks=>k.cells::QM ks
end
abbrev GTerm.lv (t:GTerm):LV:=.agg t.cells
mutual
def GTerm.size:GTerm→Nat
 | .mk _ _ _ _ _ ks=>WV ks+1
def WV:List GTerm→Nat
 | []=>0
 | k::ks=>k.size+WV ks
end
mutual
def GTerm.wf:GTerm→Prop
 | .mk op n _ ty _ ks=>I64 op∧I64 n∧Lok ty∧ks.length≤1099511627776∧wfs ks
def wfs:List GTerm→Prop
 | []=>True
 | k::ks=>k.wf∧wfs ks
end
theorem Vz:∀ ks:List GTerm,QM ks=ks.map GTerm.cells
 | []=>by simp [QM]
 | k::ks=>by simp [QM,Vz ks]
@[simp] theorem Jc (ks:List GTerm):(QM ks).length=ks.length:=by simp [Vz]
theorem ZbR:∀ {ks:List GTerm},wfs ks ↔ ∀ k∈ks,k.wf
 | []=>by simp [wfs]
 | k::ks=>by simp [wfs,ZbR (ks:=ks)]
theorem GTerm.size_pos (t:GTerm):0 < t.size:=by cases t;simp [GTerm.size]
theorem ZgT:∀ a b:List GTerm,WV (a++b)=WV a+WV b
 | [],b=>by simp [WV]
 | k::a,b=>by simp [WV,ZgT a b];omega
theorem Zeu {ks:List GTerm} {i:Nat} (h:i < ks.length):WV (ks.drop i)=ks[i].size+WV (ks.drop (i+1)):=by
 rw [List.drop_eq_getElem_cons h,WV]
theorem Yi {ks:List GTerm} {i:Nat} (h:i < ks.length):ks[i].size≤WV ks:=by
 have:=Zeu h
 have h2:=ZgT (ks.take i) (ks.drop i)
 rw [List.take_append_drop] at h2
 omega
mutual
theorem Zg1:∀ t:GTerm,shareAll t.cells=t.cells
 | .mk op n nl1 ty nl2 ks=>by
  simp only [GTerm.cells,shareAll,share,Zbv ks]
  congr 3
  simp
theorem Zbv:∀ ks:List GTerm,Qq (QM ks)=QM ks
 | []=>by simp [QM,Qq]
 | k::ks=>by simp only [QM,Qq,Zg1 k,Zbv ks]
end
attribute [simp] Zg1 Zbv
@[simp] theorem cells_length (t:GTerm):t.cells.length=4:=by cases t;simp [GTerm.cells]
@[simp] theorem take_cells (t:GTerm):t.cells.take 4=t.cells:=List.take_of_length_le (by simp)
mutual
theorem low_cells (k:Nat):∀ t:GTerm,QA k t.cells
 | .mk op n nl1 ty nl2 ks=>by
  have:=Zer k ks
  simp [GTerm.cells,this]
theorem Zer (k:Nat):∀ ks:List GTerm,We k (QM ks)
 | []=>by simp [QM]
 | t::ks=>by simp [QM,low_cells k t,Zer k ks]
end
attribute [simp] low_cells Zer
@[simp] theorem alive_cells (t:GTerm):Wh t.cells=true:=by
 cases t;simp [GTerm.cells]
theorem Zft (ks:List GTerm) (u nl:Bool) (i:Nat) (h:i < ks.length):QU 4 (.sl u nl 4 (QM ks)) (i:Int)=some (.rp (ks[i]'h).cells):=by
 simp only [QU]
 rw [if_pos ⟨trivial,by omega,by simpa using h⟩]
 have:(QM ks).getD (i:Int).toNat []=(ks[i]'h).cells:=by
  simp [List.getD_eq_getElem?_getD,Vz,h]
 rw [this]
 simp
def YT (op:Int):Int:=if op=0∨op=1 then 0 else if op=2∨op=4∨op=5∨op=10∨op=12 then 2 else if op=3∨op=8 then 3 else if op=6∨op=7∨op=9∨op=11 then 1 else -1
def Z6 (op:Int):Bool:=eqB op 5 || eqB op 8 || eqB op 9 || eqB op 11 || eqB op 12
def Xy (op:Int):Bool:=eqB op 6 || eqB op 7 || eqB op 9
def Qr (op k:Int):Int:=if op=5∧k=1 then 2 else if (op=8∧0 < k)∨op=9∨(op=12∧k=1) then 1 else 0
theorem ZhQ (op k:Int):Qf Tryz.prog KT [N op,N k] (·=N (Qr op k)):=by
 refine Qf.of_codeOf ZnB Qz (by simp) ⟨_,rfl,by simp⟩ ?_
 simp (disch:=omega) [Zg9]
 repeat' (first
  | (with_reducible (first | refine Qn (fun hb_=>?_) (fun hb_=>?_) | refine Qm (fun hb_=>?_) (fun hb_=>?_))<;>simp (disch:=omega) [hb_])
  | simp (disch:=omega))
 all_goals simp only [Qi,Qg,Ql,Qj,Qe,Qc,Bool.not_true,Bool.not_false] at *
 all_goals simp_all [Qr]
theorem Zgv (op k:Int):Qf Tryz.prog KG [N op,N k] (·=N (Qr op k)):=by
 refine Qf.of_codeOf ZjT Qz (by simp) ⟨_,rfl,by simp⟩ ?_
 simp (disch:=omega) [Zee]
 repeat' (first
  | (with_reducible (first | refine Qn (fun hb_=>?_) (fun hb_=>?_) | refine Qm (fun hb_=>?_) (fun hb_=>?_))<;>simp (disch:=omega) [hb_])
  | simp (disch:=omega))
 all_goals simp only [Qi,Qg,Ql,Qj,Qe,Qc,Bool.not_true,Bool.not_false] at *
 all_goals simp_all [Qr]
theorem l2Has_ok (op:Int):Qf Tryz.prog ZbT [N op] (·=B (Z6 op)):=by
 refine Qf.of_codeOf ZmZ Qz (by simp) ⟨_,rfl,by simp⟩ ?_
 simp (disch:=omega) [ZfI]
 repeat' (first
  | (with_reducible (first | refine Qn (fun hb_=>?_) (fun hb_=>?_) | refine Qm (fun hb_=>?_) (fun hb_=>?_))<;>simp (disch:=omega) [hb_])
  | simp (disch:=omega))
 all_goals simp_all [Z6]
theorem ZpY (op:Int):Qf Tryz.prog VU [N op] (·=B (Xy op)):=by
 refine Qf.of_codeOf Zir Qz (by simp) ⟨_,rfl,by simp⟩ ?_
 simp (disch:=omega) [Zcv]
 repeat' (first
  | (with_reducible (first | refine Qn (fun hb_=>?_) (fun hb_=>?_) | refine Qm (fun hb_=>?_) (fun hb_=>?_))<;>simp (disch:=omega) [hb_])
  | simp (disch:=omega))
 all_goals simp_all [Xy]
theorem ops13 {op:Int} (h:Q4 op 0 12=true):op=0∨op=1∨op=2∨op=3∨op=4∨op=5∨op=6∨op=7∨op=8∨op=9∨op=10∨op=11∨op=12:=by
 rw [Q5] at h;omega
theorem ZrN (op:Int):Qf Tryz.prog Zax [N op] (·=N (YT op)):=by
 refine Qf.of_codeOf Zj6 Qz (by simp) ⟨_,rfl,by simp⟩ ?_
 simp (disch:=omega) [Zd1]
 refine Qa (Zfi _ _ _) (by simp) ?_
 simp (disch:=omega)
 (with_reducible first | refine Qn (fun h1=>?_) (fun h1=>?_) | refine Qm (fun h1=>?_) (fun h1=>?_))
 ·rcases ops13 h1 with h | h | h | h | h | h | h | h | h | h | h | h | h<;>subst h<;>simp [QU,YT,Qo]
 ·rw [Zf0] at h1
  simp [YT]
  repeat' split
  all_goals omega
def wordS (op:Int):Value:=if op=0 then .string ⟨#[120]⟩ else if op=2 then .string ⟨#[97,100,100]⟩ else if op=3 then .string ⟨#[105,102]⟩ else if op=4 then .string ⟨#[112,97,105,114]⟩ else if op=5 then .string ⟨#[115,112,108,105,116]⟩
 else if op=6 then .string ⟨#[108,101,102,116]⟩ else if op=7 then .string ⟨#[114,105,103,104,116]⟩ else if op=8 then .string ⟨#[99,97,115,101]⟩ else if op=9 then .string ⟨#[102,117,110]⟩
 else if op=10 then .string ⟨#[97,112,112]⟩ else if op=11 then .string ⟨#[98,111,120]⟩ else if op=12 then .string ⟨#[111,112,101,110]⟩ else .string ⟨#[]⟩
abbrev wordV (op:Int):LV:=.sc (wordS op)
def Ziq (op:Int):LV:=if Q4 op 0 12=true then .tup [.agg [wordV op,N (YT op),B (Z6 op),B (Xy op)],B true] else .tup [.agg [.sc (.string ⟨#[]⟩),N 0,B false,B false],B false]
@[simp] theorem low_formV (op:Int) (k:Nat):Low k (Ziq op):=by
 unfold Ziq;split<;>simp
theorem ZrP (op:Int):Qf Tryz.prog ZaL [N op] (·=Ziq op):=by
 refine Qf.of_codeOf ZkF Qz (by simp) ⟨_,rfl,by simp⟩ ?_
 simp (disch:=omega) [Zd8]
 refine Qa (ZZ _ _ _) (by simp) ?_
 simp (disch:=omega)
 (with_reducible first | refine Qn (fun h1=>?_) (fun h1=>?_) | refine Qm (fun h1=>?_) (fun h1=>?_))
 ·rcases ops13 h1 with h | h | h | h | h | h | h | h | h | h | h | h | h<;>subst h<;>simp [QU,Qo,YT,Ziq,wordS,Z6,Xy,Q4,leB,eqB]
 ·simp [Ziq,h1]
mutual
def GTerm.raw:GTerm→Prop
 | .mk op n _ ty _ ks=>I64 op∧I64 n∧(ty.length≤9223372036854775807∧∀ c∈ty,I64 c)∧ks.length≤9223372036854775807∧raws ks
def raws:List GTerm→Prop
 | []=>True
 | k::ks=>k.raw∧raws ks
end
mutual
def GTerm.w:GTerm→Nat
 | .mk _ _ _ ty _ ks=>ty.length+(ks.length+tws ks)
def tws:List GTerm→Nat
 | []=>0
 | k::ks=>k.w+tws ks
end
mutual
def GTerm.norm:GTerm→GTerm
 | .mk op n _ ty _ ks=>.mk op n false ty false (ZnM ks)
def ZnM:List GTerm→List GTerm
 | []=>[]
 | k::ks=>k.norm::ZnM ks
end
mutual
def GTerm.own:GTerm→List LV
 | .mk op n _ ty _ ks=>[N op,N n,OU true false ty,.sl true false 4 (owns ks)]
def owns:List GTerm→List (List LV)
 | []=>[]
 | k::ks=>k.own::owns ks
end
mutual
theorem Zjq:∀ t:GTerm,shareAll t.own=t.norm.cells
 | .mk op n nl1 ty nl2 ks=>by
  simp only [GTerm.own,GTerm.norm,GTerm.cells,shareAll,share,Zei ks]
  congr 3
  simp
theorem Zei:∀ ks:List GTerm,Qq (owns ks)=QM (ZnM ks)
 | []=>by simp [owns,ZnM,QM,Qq]
 | k::ks=>by simp only [owns,ZnM,QM,Qq,Zjq k,Zei ks]
end
attribute [simp] Zjq Zei
@[simp] theorem own_length (t:GTerm):t.own.length=4:=by cases t;simp [GTerm.own]
@[simp] theorem take_own (t:GTerm):t.own.take 4=t.own:=List.take_of_length_le (by simp)
@[simp] theorem alive_own (t:GTerm):Wh t.own=true:=by cases t;simp [GTerm.own]
mutual
theorem Znk (k:Nat):∀ t:GTerm,QA k t.own
 | .mk op n nl1 ty nl2 ks=>by
  have:=ZjG k ks
  simp [GTerm.own,this]
theorem ZjG (k:Nat):∀ ks:List GTerm,We k (owns ks)
 | []=>by simp [owns]
 | t::ks=>by simp [owns,Znk k t,ZjG k ks]
end
attribute [simp] Znk ZjG
mutual
def GTerm.same:GTerm→GTerm→Bool
 | .mk op n _ ty _ ks,.mk op' n' _ ty' _ ks'=>eqB op op' && (eqB n n' && ((ty == ty') && sames ks ks'))
def sames:List GTerm→List GTerm→Bool
 | [],[]=>true
 | a::a',b::b'=>a.same b && sames a' b'
 | _,_=>false
end
theorem GSys.isJoin_n {s:GSys} {n:Nat} (hn:s.size=n) (a b g:Int):s.isJoin a b g=(s.le a g && s.le b g && YZ (fun h=>s.jn a b g h) n):=by
 simp [GSys.isJoin,hn]
section
variable {s:GSys} (t:s.Tab) {a b:Int} (ha:s.G a) (hb:s.G b)
include t ha hb
theorem Vy:Qf Tryz.prog X8 [s.lv,N a,N b] (·=N (s.join a b)):=by
 refine Qf.of_codeOf Zkc Qz (by simp) ⟨_,rfl,by simp⟩ ?_
 have h2:=t.lo;have h16:=t.hi
 obtain ⟨n,hn⟩:∃ n:Nat,s.size=n:=⟨s.size.toNat,by omega⟩
 simp (disch:=omega) [ZdN,Qw,Qs]
 refine XH n 0 (fun g t _=>t 7=N g∧s.join a b=Yk (s.isJoin a b) g (n - g)) (by simp [GSys.join,hn]) (by omega) ?_
 rintro g t1 hh hf hg ⟨e7,hj⟩
 (have e1:=hf 1 (by kernel_rfl);have e2:=hf 2 (by kernel_rfl);have e3:=hf 3 (by kernel_rfl);clear hf;simp [] at e1 e2 e3)
 simp (disch:=omega) [e1,e2,e3,e7]
 (with_reducible first | refine Qn (fun h1=>?_) (fun h1=>?_) | refine Qm (fun h1=>?_) (fun h1=>?_))
 ·have hGg:=GSys.Glt h1
  simp (disch:=omega) [e1,e2,e3,e7]
  refine Qa (XW t ha hGg) (by simp) ?_
  refine Zf1 (fun t h=>t 8=B (s.le a g && s.le b g)) ?_ ?_
  ·repeat' (first
  | with_reducible refine Qa (XW t (by first | assumption | exact GSys.Gpl t _ _ | exact GSys.Gtm t _ _ | exact GSys.Glt (by assumption) | exact GSys.G0 t | exact GSys.G1 t) (by first | assumption | exact GSys.Gpl t _ _ | exact GSys.Gtm t _ _ | exact GSys.Glt (by assumption) | exact GSys.G0 t | exact GSys.G1 t)) (by simp) ?_
  | (with_reducible (first | refine Qn (fun hb_=>?_) (fun hb_=>?_) | refine Qm (fun hb_=>?_) (fun hb_=>?_))<;>simp (disch:=omega) [hb_,e1,e2,e3,e7])
  | simp (disch:=omega) [e1,e2,e3,e7])
  ·rintro t2 hh hf2 e8
   (have f1:=hf2 1 (by kernel_rfl);have f2:=hf2 2 (by kernel_rfl);have f3:=hf2 3 (by kernel_rfl);have f7:=hf2 7 (by kernel_rfl);clear hf2;simp [e1,e2,e3,e7] at f1 f2 f3 f7)
   simp (disch:=omega)
   refine Wy n 0 (fun i t _=>t 9=N i∧t 8=B (s.le a g && s.le b g && YZ (fun h=>s.jn a b g h) i)) (fun t h=>t 8=B (s.isJoin a b g)) (by simp [e8]) (by omega) ?_ ?_
   ·rintro i t3 hh hf3 hi ⟨g9,g8⟩
    (have q1:=hf3 1 (by kernel_rfl);have q2:=hf3 2 (by kernel_rfl);have q3:=hf3 3 (by kernel_rfl);have q7:=hf3 7 (by kernel_rfl);clear hf3;simp [f1,f2,f3,f7] at q1 q2 q3 q7)
    simp (disch:=omega) [q1,q2,q3,q7,g8,g9]
    repeat' (first
  | with_reducible refine Qa (XW t (by first | assumption | exact GSys.Gpl t _ _ | exact GSys.Gtm t _ _ | exact GSys.Glt (by assumption) | exact GSys.G0 t | exact GSys.G1 t) (by first | assumption | exact GSys.Gpl t _ _ | exact GSys.Gtm t _ _ | exact GSys.Glt (by assumption) | exact GSys.G0 t | exact GSys.G1 t)) (by simp) ?_
  | (with_reducible (first | refine Qn (fun hb_=>?_) (fun hb_=>?_) | refine Qm (fun hb_=>?_) (fun hb_=>?_))<;>simp (disch:=omega) [hb_,q1,q2,q3,q7,g8,g9])
  | simp (disch:=omega) [q1,q2,q3,q7,g8,g9])
    all_goals (try simp only [Qi,Qg,Ql,Qj,Qe,Qc,Bool.not_true,Bool.not_false] at *)
    ·refine ⟨by omega,Qd (by omega),?_⟩
     simp_all [WO,GSys.jn]
    ·refine ⟨by omega,Qd (by omega),?_⟩
     simp_all [WO,GSys.jn]
    ·refine ⟨by omega,Qd (by omega),?_⟩
     simp_all [WO,GSys.jn]
    ·rw [GSys.isJoin_n hn]
     cases h:YZ (fun h=>s.jn a b g h) i with
     | false=>simp [Zh2 hi h]
     | true=>simp_all
    ·rw [GSys.isJoin_n hn,show i=n by omega]
   ·rintro t4 hh hf4 g8
    (have q1:=hf4 1 (by kernel_rfl);have q2:=hf4 2 (by kernel_rfl);have q3:=hf4 3 (by kernel_rfl);have q7:=hf4 7 (by kernel_rfl);clear hf4;simp [f1,f2,f3,f7] at q1 q2 q3 q7)
    repeat' (first
  | (with_reducible (first | refine Qn (fun hb_=>?_) (fun hb_=>?_) | refine Qm (fun hb_=>?_) (fun hb_=>?_))<;>simp (disch:=omega) [hb_,q1,q2,q3,q7,g8])
  | simp (disch:=omega) [q1,q2,q3,q7,g8])
    all_goals (try simp only [Qi,Qg,Ql,Qj,Qe,Qc,Bool.not_true,Bool.not_false] at *)
    ·rw [hj,show n - g=(n - (g+1))+1 by omega,Yk,if_pos hb_]
    ·rw [hj,show n - g=(n - (g+1))+1 by omega,Yk,if_neg (by simp [hb_])]
     exact ⟨by omega,Qd (by omega),by simp⟩
 ·all_goals (try simp only [Qi,Qg,Ql,Qj,Qe,Qc,Bool.not_true,Bool.not_false] at *)
  have:g=n:=by omega
  simp_all [Yk]
theorem Zqp : Qf Tryz.prog W2 [s.lv, N a, N b] (· = N (s.join a b)) := by
  refine Qf.of_codeOf Zdf Qz (by simp) ⟨_, rfl, by simp⟩ ?_
  have h2 := t.lo; have h16 := t.hi
  obtain ⟨n, hn⟩ : ∃ n : Nat, s.size = n := ⟨s.size.toNat, by omega⟩
  simp (disch := omega) [KP, Qw, Qs]
  refine XH n 0 (fun g t _ => t 7 = N g ∧ s.join a b = Yk (s.isJoin a b) g (n - g)) (by simp [GSys.join, hn]) (by omega) ?_
  rintro g t1 hh hf hg ⟨e7, hj⟩
  (have e1 := hf 1 (by kernel_rfl); have e2 := hf 2 (by kernel_rfl); have e3 := hf 3 (by kernel_rfl); clear hf; simp [] at e1 e2 e3)
  simp (disch := omega) [e1, e2, e3, e7]
  (with_reducible first | refine Qn (fun h1 => ?_) (fun h1 => ?_) | refine Qm (fun h1 => ?_) (fun h1 => ?_))
  · have hGg := GSys.Glt h1
    simp (disch := omega) [e1, e2, e3, e7]
    refine Qa (KY t ha hGg) (by simp) ?_
    refine Zf1 (fun t h => t 27 = B (!s.le a g || !s.le b g)) ?_ ?_
    · repeat' (first
    | with_reducible refine Qa (KY t (by first | assumption | exact GSys.Gpl t _ _ | exact GSys.Gtm t _ _ | exact GSys.Glt (by assumption) | exact GSys.G0 t | exact GSys.G1 t) (by first | assumption | exact GSys.Gpl t _ _ | exact GSys.Gtm t _ _ | exact GSys.Glt (by assumption) | exact GSys.G0 t | exact GSys.G1 t)) (by simp) ?_
    | (with_reducible (first | refine Qn (fun hb_ => ?_) (fun hb_ => ?_) | refine Qm (fun hb_ => ?_) (fun hb_ => ?_)) <;> simp (disch := omega) [hb_, e1, e2, e3, e7])
    | simp (disch := omega) [e1, e2, e3, e7])
    · rintro t2 hh hf2 e8
      (have f1 := hf2 1 (by kernel_rfl); have f2 := hf2 2 (by kernel_rfl); have f3 := hf2 3 (by kernel_rfl); have f7 := hf2 7 (by kernel_rfl); clear hf2; simp [e1, e2, e3, e7] at f1 f2 f3 f7)
      simp (disch := omega) [e8]
      (with_reducible first | refine Qn (fun h3 => ?_) (fun h3 => ?_) | refine Qm (fun h3 => ?_) (fun h3 => ?_))
      · simp (disch := omega) [f7]
        all_goals (try simp only [Qi, Qg, Ql, Qj, Qe, Qc, Bool.not_true, Bool.not_false] at *)
        rw [hj, show n - g = (n - (g + 1)) + 1 by omega, Yk, if_neg (by rw [GSys.isJoin_n hn]; simp at h3; rcases h3 with h3 | h3 <;> simp [h3])]
        exact ⟨by omega, Qd (by omega), by simp⟩
      · simp (disch := omega) [f1, f2, f3, f7]
        refine Wy n 0 (fun i t _ => t 9 = N i ∧ t 8 = B (YZ (fun h => s.jn a b g h) i)) (fun t h => t 8 = B (s.isJoin a b g)) (by simp) (by omega) ?_ ?_
        · rintro i t3 hh hf3 hi ⟨g9, g8⟩
          (have q1 := hf3 1 (by kernel_rfl); have q2 := hf3 2 (by kernel_rfl); have q3 := hf3 3 (by kernel_rfl); have q7 := hf3 7 (by kernel_rfl); clear hf3; simp [f1, f2, f3, f7] at q1 q2 q3 q7)
          simp (disch := omega) [q1, q2, q3, q7, g8, g9]
          repeat' (first
    | with_reducible refine Qa (KY t (by first | assumption | exact GSys.Gpl t _ _ | exact GSys.Gtm t _ _ | exact GSys.Glt (by assumption) | exact GSys.G0 t | exact GSys.G1 t) (by first | assumption | exact GSys.Gpl t _ _ | exact GSys.Gtm t _ _ | exact GSys.Glt (by assumption) | exact GSys.G0 t | exact GSys.G1 t)) (by simp) ?_
    | (with_reducible (first | refine Qn (fun hb_ => ?_) (fun hb_ => ?_) | refine Qm (fun hb_ => ?_) (fun hb_ => ?_)) <;> simp (disch := omega) [hb_, q1, q2, q3, q7, g8, g9])
    | simp (disch := omega) [q1, q2, q3, q7, g8, g9])
          all_goals (try simp only [Qi, Qg, Ql, Qj, Qe, Qc, Bool.not_true, Bool.not_false] at *)
          · refine ⟨by omega, Qd (by omega), ?_⟩
            simp_all [WO, GSys.jn]
          · refine ⟨by omega, Qd (by omega), ?_⟩
            simp_all [WO, GSys.jn]
          · refine ⟨by omega, Qd (by omega), ?_⟩
            simp_all [WO, GSys.jn]
          · refine ⟨by omega, Qd (by omega), ?_⟩
            simp_all [WO]
          · rw [GSys.isJoin_n hn, show i = n by omega]
            simp_all
        · rintro t4 hh hf4 g8
          (have q1 := hf4 1 (by kernel_rfl); have q2 := hf4 2 (by kernel_rfl); have q3 := hf4 3 (by kernel_rfl); have q7 := hf4 7 (by kernel_rfl); clear hf4; simp [f1, f2, f3, f7] at q1 q2 q3 q7)
          repeat' (first
    | (with_reducible (first | refine Qn (fun hb_ => ?_) (fun hb_ => ?_) | refine Qm (fun hb_ => ?_) (fun hb_ => ?_)) <;> simp (disch := omega) [hb_, q1, q2, q3, q7, g8])
    | simp (disch := omega) [q1, q2, q3, q7, g8])
          all_goals (try simp only [Qi, Qg, Ql, Qj, Qe, Qc, Bool.not_true, Bool.not_false] at *)
          · rw [hj, show n - g = (n - (g + 1)) + 1 by omega, Yk, if_pos hb_]
          · rw [hj, show n - g = (n - (g + 1)) + 1 by omega, Yk, if_neg (by simp [hb_])]
            exact ⟨by omega, Qd (by omega), by simp⟩
  · all_goals (try simp only [Qi, Qg, Ql, Qj, Qe, Qc, Bool.not_true, Bool.not_false] at *)
    have : g = n := by omega
    simp_all [Yk]
end
def GSys.one (s:GSys) (a:Int):Bool:=eqB (s.pl 0 a) a && eqB (s.tm 1 a) a && eqB (s.tm a 1) a && eqB (s.tm 0 a) 0 && eqB (s.tm a 0) 0 && s.le a a
def GSys.two (s:GSys) (a b:Int):Bool:=eqB (s.pl a b) (s.pl b a) && (eqB a b || !s.le a b || !s.le b a) && leB 0 (s.join a b)
section
variable {s:GSys} (t:s.Tab) {a b:Int} (ha:s.G a) (hb:s.G b)
include t ha
theorem l1One_ok:Qf Tryz.prog ZbI [s.lv,N a] (·=B (s.one a)):=by
 refine Qf.of_codeOf ZlI Qz (by simp) ⟨_,rfl,by simp⟩ ?_
 simp (disch:=omega) [ZfG,Qw,Qs]
 repeat' (first
  | with_reducible refine Qa (ZaY t (by first | assumption | exact GSys.Gpl t _ _ | exact GSys.Gtm t _ _ | exact GSys.Glt (by assumption) | exact GSys.G0 t | exact GSys.G1 t) (by first | assumption | exact GSys.Gpl t _ _ | exact GSys.Gtm t _ _ | exact GSys.Glt (by assumption) | exact GSys.G0 t | exact GSys.G1 t)) (by simp) ?_
  | with_reducible refine Qa (Zba t (by first | assumption | exact GSys.Gpl t _ _ | exact GSys.Gtm t _ _ | exact GSys.Glt (by assumption) | exact GSys.G0 t | exact GSys.G1 t) (by first | assumption | exact GSys.Gpl t _ _ | exact GSys.Gtm t _ _ | exact GSys.Glt (by assumption) | exact GSys.G0 t | exact GSys.G1 t)) (by simp) ?_
  | with_reducible refine Qa (XW t (by first | assumption | exact GSys.Gpl t _ _ | exact GSys.Gtm t _ _ | exact GSys.Glt (by assumption) | exact GSys.G0 t | exact GSys.G1 t) (by first | assumption | exact GSys.Gpl t _ _ | exact GSys.Gtm t _ _ | exact GSys.Glt (by assumption) | exact GSys.G0 t | exact GSys.G1 t)) (by simp) ?_
  | (with_reducible (first | refine Qn (fun hb_=>?_) (fun hb_=>?_) | refine Qm (fun hb_=>?_) (fun hb_=>?_))<;>simp (disch:=omega) [hb_])
  | simp (disch:=omega))
 all_goals simp_all [GSys.one]
include hb
theorem l1Two_ok:Qf Tryz.prog Zbw [s.lv,N a,N b] (·=B (s.two a b)):=by
 refine Qf.of_codeOf ZmT Qz (by simp) ⟨_,rfl,by simp⟩ ?_
 simp (disch:=omega) [Ze8,Qw,Qs]
 repeat' (first
  | with_reducible refine Qa (ZaY t (by first | assumption | exact GSys.Gpl t _ _ | exact GSys.Gtm t _ _ | exact GSys.Glt (by assumption) | exact GSys.G0 t | exact GSys.G1 t) (by first | assumption | exact GSys.Gpl t _ _ | exact GSys.Gtm t _ _ | exact GSys.Glt (by assumption) | exact GSys.G0 t | exact GSys.G1 t)) (by simp) ?_
  | with_reducible refine Qa (XW t (by first | assumption | exact GSys.Gpl t _ _ | exact GSys.Gtm t _ _ | exact GSys.Glt (by assumption) | exact GSys.G0 t | exact GSys.G1 t) (by first | assumption | exact GSys.Gpl t _ _ | exact GSys.Gtm t _ _ | exact GSys.Glt (by assumption) | exact GSys.G0 t | exact GSys.G1 t)) (by simp) ?_
  | with_reducible refine Qa (Vy t (by first | assumption | exact GSys.Gpl t _ _ | exact GSys.Gtm t _ _ | exact GSys.Glt (by assumption) | exact GSys.G0 t | exact GSys.G1 t) (by first | assumption | exact GSys.Gpl t _ _ | exact GSys.Gtm t _ _ | exact GSys.Glt (by assumption) | exact GSys.G0 t | exact GSys.G1 t)) (by simp) ?_
  | (with_reducible (first | refine Qn (fun hb_=>?_) (fun hb_=>?_) | refine Qm (fun hb_=>?_) (fun hb_=>?_))<;>simp (disch:=omega) [hb_])
  | simp (disch:=omega))
 all_goals simp_all [GSys.two]
end
def GSys.cell (s:GSys) (i:Nat):Bool:=Q4 (s.plus.getD i 0) 0 (s.size - 1) && Q4 (s.times.getD i 0) 0 (s.size - 1)
def GSys.tabB (s:GSys):Bool:=Q4 s.size 2 16 && eqB s.plus.length (s.size * s.size) && eqB s.times.length (s.size * s.size) && eqB s.below.length (s.size * s.size) && YZ s.cell s.plus.length
theorem GSys.tab_iff {s:GSys}:s.tabB=true ↔ s.Tab:=by
 simp only [GSys.tabB,Bool.and_eq_true,Q5,Qe,Yc,GSys.cell]
 constructor
 ·rintro ⟨⟨⟨⟨h1,h2⟩,h3⟩,h4⟩,h5⟩
  refine ⟨h1.1,h1.2,h2,h3,h4,fun i=>?_,fun i=>?_⟩
  ·by_cases hi:i < s.plus.length
   ·have:=(h5 i hi).1;omega
   ·rw [List.getD_eq_getElem?_getD,List.getElem?_eq_none (by omega)];simp;omega
  ·by_cases hi:i < s.plus.length
   ·have:=(h5 i hi).2;omega
   ·rw [List.getD_eq_getElem?_getD,List.getElem?_eq_none (by omega)];simp;omega
 ·intro t
  refine ⟨⟨⟨⟨⟨t.lo,t.hi⟩,t.lp⟩,t.lt⟩,t.lb⟩,fun i _=>?_⟩
  have:=t.rp i;have:=t.rt i
  omega
theorem GSys.sq {s:GSys} (h:Q4 s.size 2 16=true):0≤s.size * s.size∧s.size * s.size≤256∧2≤s.size∧s.size≤16:=by
 rw [Q5] at h
 have h4:s.size * s.size≤16 * 16:=Int.mul_le_mul h.2 h.2 (by omega) (by omega)
 exact ⟨Int.mul_nonneg (by omega) (by omega),by omega,h⟩
theorem ZnJ (s:GSys) (hw:s.wf):Qf Tryz.prog Va [s.lv] (·=B s.tabB):=by
 refine Qf.of_codeOf Zhw Qz (by simp) ⟨_,rfl,by simp⟩ ?_
 simp (disch:=omega) [Zcg,Qw,Qs]
 refine Qa (Zfi _ _ _) (by simp) ?_
 simp (disch:=omega)
 (with_reducible first | refine Qn (fun h1=>?_) (fun h1=>?_) | refine Qm (fun h1=>?_) (fun h1=>?_))
 ·obtain ⟨h2,h3,h4,h5⟩:=GSys.sq (s:=s) h1
  simp (disch:=omega) [h1,Qd]
  repeat' (first
  | (with_reducible (first | refine Qn (fun hb_=>?_) (fun hb_=>?_) | refine Qm (fun hb_=>?_) (fun hb_=>?_))<;>simp (disch:=omega) [hb_,h1,Qd])
  | simp (disch:=omega) [h1,Qd])
  all_goals try (simp_all [GSys.tabB];done)
  ·rename_i g1 g2
   have e0:s.tabB=YZ s.cell s.plus.length:=by simp [GSys.tabB,h1,g1,g2,hb_]
   rw [e0]
   all_goals (try simp only [Qi,Qg,Ql,Qj,Qe,Qc,Bool.not_true,Bool.not_false] at *)
   refine XH s.plus.length 0 (fun i t _=>t 3=N i∧YZ s.cell i=true) (by simp) (by omega) ?_
   rintro i t1 hh hf hi ⟨e3,hj⟩
   (have e1:=hf 1 (by kernel_rfl);clear hf;simp [] at e1)
   simp (disch:=omega) [e1,e3]
   (with_reducible first | refine Qn (fun h6=>?_) (fun h6=>?_) | refine Qm (fun h6=>?_) (fun h6=>?_))
   ·simp only [Qi,Qg,Ql,Qj,Qe,Qc,Bool.not_true,Bool.not_false] at h6
    simp (disch:=omega) [e1,e3,Qd,Xu]
    have ec:s.cell i=(Q4 (s.plus[i]'(by omega)) 0 (s.size - 1) && Q4 (s.times[i]'(by omega)) 0 (s.size - 1)):=by
     simp [GSys.cell,show i < s.plus.length by omega,show i < s.times.length by omega]
    repeat' (first
  | with_reducible refine Qa (Zfi _ _ _) (by simp) ?_
  | (with_reducible (first | refine Qn (fun hb_=>?_) (fun hb_=>?_) | refine Qm (fun hb_=>?_) (fun hb_=>?_))<;>simp (disch:=omega) [hb_,e1,e3,Qd,Xu])
  | simp (disch:=omega) [e1,e3,Qd,Xu])
    ·refine ⟨by omega,by simp_all [WO]⟩
    ·exact XI (p:=s.cell) (i:=i) (by omega) (by simp_all)
    ·exact XI (p:=s.cell) (i:=i) (by omega) (by simp_all)
   ·simp only [Qi,Qg,Ql,Qj,Qe,Qc,Bool.not_true,Bool.not_false] at h6
    simp (disch:=omega) [e1,e3]
    rw [← hj,show i=s.plus.length by omega]
 ·simp_all [GSys.tabB]
def GSys.sysC (s:GSys) (n:Nat) (a b:Int):Bool:=s.two a b && YZ (fun c=>s.three a b c) n
def GSys.sysB (s:GSys) (n:Nat) (a:Int):Bool:=s.one a && YZ (fun b=>s.sysC n a b) n
def GSys.sys (s:GSys):Bool:=s.tabB && YZ (fun a=>s.sysB s.size.toNat a) s.size.toNat
theorem GSys.sys_n {s:GSys} {n:Nat} (hn:s.size=n):s.sys=(s.tabB && YZ (fun a=>s.sysB n a) n):=by simp [GSys.sys,hn]
theorem GSys.sys_of {s:GSys} (h:s.sys=true):s.Tab:=GSys.tab_iff.1 (by simp [GSys.sys] at h;exact h.1)
theorem Jp (s : GSys) (hw : s.wf) : Qf Tryz.prog Yn [s.lv] (· = B s.sys) := by
  refine Qf.of_codeOf ZhG Qz (by simp) ⟨_, rfl, by simp⟩ ?_
  simp (disch := omega) [Zce, Qw, Qs]
  refine Qa (ZnJ s hw) (by simp) ?_
  simp (disch := omega)
  (with_reducible first | refine Qn (fun h1 => ?_) (fun h1 => ?_) | refine Qm (fun h1 => ?_) (fun h1 => ?_))
  · have t := GSys.tab_iff.1 h1
    have h2 := t.lo; have h16 := t.hi
    obtain ⟨n, hn⟩ : ∃ n : Nat, s.size = n := ⟨s.size.toNat, by omega⟩
    rw [GSys.sys_n hn, h1, Bool.true_and]
    simp (disch := omega) [h1]
    refine XH n 0 (fun a t _ => t 3 = N a ∧ YZ (fun a => s.sysB n a) a = true) (by simp) (by omega) ?_
    rintro a t1 hh hf ha ⟨e3, hj⟩
    (have e1 := hf 1 (by kernel_rfl); clear hf; simp [] at e1)
    simp (disch := omega) [e1, e3]
    (with_reducible first | refine Qn (fun h3 => ?_) (fun h3 => ?_) | refine Qm (fun h3 => ?_) (fun h3 => ?_))
    · have hGa := GSys.Glt h3
      simp only [Qi, Qg, Ql, Qj, Qe, Qc, Bool.not_true, Bool.not_false] at h3
      simp (disch := omega) [e1, e3]
      refine Qa (l1One_ok t hGa) (by simp) ?_
      simp (disch := omega) [e1, e3]
      (with_reducible first | refine Qn (fun h4 => ?_) (fun h4 => ?_) | refine Qm (fun h4 => ?_) (fun h4 => ?_))
      · simp (disch := omega) [e1, e3]
        refine Wy n 0 (fun b t _ => t 4 = N b ∧ YZ (fun b => s.sysC n a b) b = true) (fun t h => YZ (fun b => s.sysC n a b) n = true) (by simp) (by omega) ?_ ?_
        · rintro b t2 hh hf2 hb ⟨e4, hj2⟩
          (have f1 := hf2 1 (by kernel_rfl); have f3 := hf2 3 (by kernel_rfl); clear hf2; simp [e1, e3] at f1 f3)
          simp (disch := omega) [f1, f3, e4]
          (with_reducible first | refine Qn (fun h5 => ?_) (fun h5 => ?_) | refine Qm (fun h5 => ?_) (fun h5 => ?_))
          · have hGb := GSys.Glt h5
            simp only [Qi, Qg, Ql, Qj, Qe, Qc, Bool.not_true, Bool.not_false] at h5
            simp (disch := omega) [f1, f3, e4]
            refine Qa (l1Two_ok t hGa hGb) (by simp) ?_
            simp (disch := omega) [f1, f3, e4]
            (with_reducible first | refine Qn (fun h6 => ?_) (fun h6 => ?_) | refine Qm (fun h6 => ?_) (fun h6 => ?_))
            · simp (disch := omega) [f1, f3, e4]
              refine Wy n 0 (fun c t _ => t 5 = N c ∧ YZ (fun c => s.three a b c) c = true) (fun t h => YZ (fun c => s.three a b c) n = true) (by simp) (by omega) ?_ ?_
              · rintro c t3 hh hf3 hc ⟨e5, hj3⟩
                (have g1 := hf3 1 (by kernel_rfl); have g3 := hf3 3 (by kernel_rfl); have g4 := hf3 4 (by kernel_rfl); clear hf3; simp [f1, f3, e4] at g1 g3 g4)
                simp (disch := omega) [g1, g3, g4, e5]
                (with_reducible first | refine Qn (fun h7 => ?_) (fun h7 => ?_) | refine Qm (fun h7 => ?_) (fun h7 => ?_))
                · have hGc := GSys.Glt h7
                  simp only [Qi, Qg, Ql, Qj, Qe, Qc, Bool.not_true, Bool.not_false] at h7
                  simp (disch := omega) [g1, g3, g4, e5]
                  repeat' (first
    | with_reducible refine Qa (Zpi t hGa hGb hGc) (by simp) ?_
    | (with_reducible (first | refine Qn (fun hb_ => ?_) (fun hb_ => ?_) | refine Qm (fun hb_ => ?_) (fun hb_ => ?_)) <;> simp (disch := omega) [hb_, g1, g3, g4, e5])
    | simp (disch := omega) [g1, g3, g4, e5])
                  · refine ⟨by omega, Qd (by omega), by simp [WO, hj3, hb_]⟩
                  · exact XI (i := a) (by omega) (by simp [GSys.sysB, h4, XI (p := fun b => s.sysC n a b) (i := b) (n := n) (by omega) (by simp [GSys.sysC, h6, XI (p := fun c => s.three a b c) (i := c) (n := n) (by omega) (by simpa using hb_)])])
                · simp only [Qi, Qg, Ql, Qj, Qe, Qc, Bool.not_true, Bool.not_false] at h7
                  simp (disch := omega) [g1, g3, g4, e5]
                  rw [← hj3, show c = n by omega]
              · rintro t4 hh hf4 hj3
                (have g1 := hf4 1 (by kernel_rfl); have g3 := hf4 3 (by kernel_rfl); have g4 := hf4 4 (by kernel_rfl); clear hf4; simp [f1, f3, e4] at g1 g3 g4)
                simp (disch := omega) [g1, g3, g4]
                exact ⟨by omega, Qd (by omega), by simp [WO, hj2, show s.sysC n a b = true by simp [GSys.sysC, h6, hj3]]⟩
            · simp (disch := omega)
              exact XI (i := a) (by omega) (by simp [GSys.sysB, h4, XI (p := fun b => s.sysC n a b) (i := b) (n := n) (by omega) (by simp_all [GSys.sysC])])
          · simp only [Qi, Qg, Ql, Qj, Qe, Qc, Bool.not_true, Bool.not_false] at h5
            simp (disch := omega) [f1, f3, e4]
            rw [← hj2, show b = n by omega]
        · rintro t2 hh hf2 hj2
          (have f1 := hf2 1 (by kernel_rfl); have f3 := hf2 3 (by kernel_rfl); clear hf2; simp [e1, e3] at f1 f3)
          simp (disch := omega) [f1, f3]
          exact ⟨by omega, Qd (by omega), by simp [WO, hj, show s.sysB n a = true by simp [GSys.sysB, h4, hj2]]⟩
      · simp (disch := omega)
        exact XI (i := a) (by omega) (by simp_all [GSys.sysB])
    · simp only [Qi, Qg, Ql, Qj, Qe, Qc, Bool.not_true, Bool.not_false] at h3
      simp (disch := omega) [e1, e3]
      rw [← hj, show a = n by omega]
  · simp_all [GSys.sys]
theorem ZhD (s : GSys) (hw : s.wf) : Qf Tryz.prog Vb [s.lv] (· = B s.sys) := by
  refine Qf.of_codeOf ZhM Qz (by simp) ⟨_, rfl, by simp⟩ ?_
  simp (disch := omega) [Zcc, Qw, Qs]
  refine Qa (ZZ _ _ _) (by simp) ?_
  simp (disch := omega)
  (with_reducible first | refine Qn (fun h1 => ?_) (fun h1 => ?_) | refine Qm (fun h1 => ?_) (fun h1 => ?_))
  · obtain ⟨h2, h3, h4, h5⟩ := GSys.sq (s := s) h1
    simp (disch := omega) [h1, Qd]
    repeat' (first
    | (with_reducible (first | refine Qn (fun hb_ => ?_) (fun hb_ => ?_) | refine Qm (fun hb_ => ?_) (fun hb_ => ?_)) <;> simp (disch := omega) [hb_, h1, Qd])
    | simp (disch := omega) [h1, Qd])
    all_goals try (simp_all [GSys.tabB, GSys.sys]; done)
    · rename_i g1 g2
      have e0 : s.tabB = YZ s.cell s.plus.length := by simp [GSys.tabB, h1, g1, g2, hb_]
      all_goals (try simp only [Qi, Qg, Ql, Qj, Qe, Qc, Bool.not_true, Bool.not_false] at *)
      refine Wy s.plus.length 0 (fun i t _ => t 43 = N i ∧ YZ s.cell i = true) (fun _ _ => s.tabB = true) (by simp) (by omega) ?_ ?_
      · rintro i t1 hh hf hi ⟨e3, hj⟩
        (have e1 := hf 1 (by kernel_rfl); have e42 := hf 42 (by kernel_rfl); clear hf; simp [] at e1 e42)
        simp (disch := omega) [e1, e42, e3]
        (with_reducible first | refine Qn (fun h6 => ?_) (fun h6 => ?_) | refine Qm (fun h6 => ?_) (fun h6 => ?_))
        · simp only [Qi, Qg, Ql, Qj, Qe, Qc, Bool.not_true, Bool.not_false] at h6
          simp (disch := omega) [e1, e3, e42, Qd, Xu]
          have ec : s.cell i = (Q4 (s.plus[i]'(by omega)) 0 (s.size - 1) && Q4 (s.times[i]'(by omega)) 0 (s.size - 1)) := by
            simp [GSys.cell, show i < s.plus.length by omega, show i < s.times.length by omega]
          have hlo : -9223372036854775808 < s.size := by omega
          have hI : I64 s.size := hw.1
          repeat' (first
    | with_reducible refine Qa (Zo9 s hI hlo _) (by simp) ?_
    | (with_reducible (first | refine Qn (fun hb_ => ?_) (fun hb_ => ?_) | refine Qm (fun hb_ => ?_) (fun hb_ => ?_)) <;> simp (disch := omega) [hb_, e1, e3, e42, Qd, Xu])
    | simp (disch := omega) [e1, e3, e42, Qd, Xu])
          · refine ⟨by omega, by simp_all [WO]⟩
          · simp only [GSys.sys, e0, XI (p := s.cell) (i := i) (n := s.plus.length) (by omega) (by simp_all)]; simp
          · simp only [GSys.sys, e0, XI (p := s.cell) (i := i) (n := s.plus.length) (by omega) (by simp_all)]; simp
        · simp only [Qi, Qg, Ql, Qj, Qe, Qc, Bool.not_true, Bool.not_false] at h6
          simp (disch := omega) [e1, e3, e42]
          rw [e0, ← hj, show i = s.plus.length by omega]
      · rintro t0 hh hf0 ht
        (have d1 := hf0 1 (by kernel_rfl); have d3 := hf0 3 (by kernel_rfl); clear hf0; simp [] at d1 d3)
        simp (disch := omega) [d1, d3]
        have t := GSys.tab_iff.1 ht
        obtain ⟨n, hn⟩ : ∃ n : Nat, s.size = n := ⟨s.size.toNat, by omega⟩
        rw [GSys.sys_n hn, ht, Bool.true_and]
        refine XH n 0 (fun a t _ => t 5 = N a ∧ YZ (fun a => s.sysB n a) a = true) (by simp) (by omega) ?_
        rintro a t1 hh hf ha ⟨e5, hj⟩
        (have e1 := hf 1 (by kernel_rfl); have e3 := hf 3 (by kernel_rfl); clear hf; simp [d1, d3] at e1 e3)
        simp (disch := omega) [e1, e3, e5]
        (with_reducible first | refine Qn (fun h6 => ?_) (fun h6 => ?_) | refine Qm (fun h6 => ?_) (fun h6 => ?_))
        · have hGa := GSys.Glt h6
          simp only [Qi, Qg, Ql, Qj, Qe, Qc, Bool.not_true, Bool.not_false] at h6
          simp (disch := omega) [e1, e3, e5]
          refine Qa (Zfx t (GSys.G0 t) hGa) (by simp) ?_
          refine Zf1 (fun t h => t 107 = B (!s.one a)) ?_ ?_
          · repeat' (first
    | with_reducible refine Qa (ZfU t (by first | assumption | exact GSys.Gpl t _ _ | exact GSys.Gtm t _ _ | exact GSys.Glt (by assumption) | exact GSys.G0 t | exact GSys.G1 t) (by first | assumption | exact GSys.Gpl t _ _ | exact GSys.Gtm t _ _ | exact GSys.Glt (by assumption) | exact GSys.G0 t | exact GSys.G1 t)) (by simp) ?_
    | with_reducible refine Qa (KY t (by first | assumption | exact GSys.Gpl t _ _ | exact GSys.Gtm t _ _ | exact GSys.Glt (by assumption) | exact GSys.G0 t | exact GSys.G1 t) (by first | assumption | exact GSys.Gpl t _ _ | exact GSys.Gtm t _ _ | exact GSys.Glt (by assumption) | exact GSys.G0 t | exact GSys.G1 t)) (by simp) ?_
    | (with_reducible (first | refine Qn (fun hb_ => ?_) (fun hb_ => ?_) | refine Qm (fun hb_ => ?_) (fun hb_ => ?_)) <;> simp (disch := omega) [hb_, e1, e3, e5])
    | simp (disch := omega) [e1, e3, e5])
            all_goals simp_all [GSys.one]
          · rintro t2 hh hf e107
            (have f1 := hf 1 (by kernel_rfl); have f3 := hf 3 (by kernel_rfl); have f5 := hf 5 (by kernel_rfl); clear hf; simp [e1, e3, e5] at f1 f3 f5)
            simp (disch := omega) [e107]
            (with_reducible first | refine Qn (fun h7 => ?_) (fun h7 => ?_) | refine Qm (fun h7 => ?_) (fun h7 => ?_))
            · simp (disch := omega)
              refine Wy n 0 (fun b t _ => t 6 = N b ∧ YZ (fun b => s.sysC n a b) b = true) (fun t h => YZ (fun b => s.sysC n a b) n = true) (by simp) (by omega) ?_ ?_
              · rintro b t3 hh hf hb ⟨g6, hj2⟩
                (have g1 := hf 1 (by kernel_rfl); have g3 := hf 3 (by kernel_rfl); have g5 := hf 5 (by kernel_rfl); clear hf; simp [f1, f3, f5] at g1 g3 g5)
                simp (disch := omega) [g1, g3, g5, g6]
                (with_reducible first | refine Qn (fun h8 => ?_) (fun h8 => ?_) | refine Qm (fun h8 => ?_) (fun h8 => ?_))
                · have hGb := GSys.Glt h8
                  simp only [Qi, Qg, Ql, Qj, Qe, Qc, Bool.not_true, Bool.not_false] at h8
                  simp (disch := omega) [g1, g3, g5, g6]
                  refine Qa (Zfx t hGa hGb) (by simp) ?_
                  refine Zf1 (fun t h => t 145 = B (!s.two a b)) ?_ ?_
                  · repeat' (first
    | with_reducible refine Qa (Zfx t (by first | assumption | exact GSys.Gpl t _ _ | exact GSys.Gtm t _ _ | exact GSys.Glt (by assumption) | exact GSys.G0 t | exact GSys.G1 t) (by first | assumption | exact GSys.Gpl t _ _ | exact GSys.Gtm t _ _ | exact GSys.Glt (by assumption) | exact GSys.G0 t | exact GSys.G1 t)) (by simp) ?_
    | with_reducible refine Qa (KY t (by first | assumption | exact GSys.Gpl t _ _ | exact GSys.Gtm t _ _ | exact GSys.Glt (by assumption) | exact GSys.G0 t | exact GSys.G1 t) (by first | assumption | exact GSys.Gpl t _ _ | exact GSys.Gtm t _ _ | exact GSys.Glt (by assumption) | exact GSys.G0 t | exact GSys.G1 t)) (by simp) ?_
    | with_reducible refine Qa (Zqp t (by first | assumption | exact GSys.Gpl t _ _ | exact GSys.Gtm t _ _ | exact GSys.Glt (by assumption) | exact GSys.G0 t | exact GSys.G1 t) (by first | assumption | exact GSys.Gpl t _ _ | exact GSys.Gtm t _ _ | exact GSys.Glt (by assumption) | exact GSys.G0 t | exact GSys.G1 t)) (by simp) ?_
    | (with_reducible (first | refine Qn (fun hb_ => ?_) (fun hb_ => ?_) | refine Qm (fun hb_ => ?_) (fun hb_ => ?_)) <;> simp (disch := omega) [hb_, g1, g3, g5, g6])
    | simp (disch := omega) [g1, g3, g5, g6])
                    all_goals simp_all [GSys.two, ZbP]
                  · rintro t4 hh hf e145
                    (have q1 := hf 1 (by kernel_rfl); have q3 := hf 3 (by kernel_rfl); have q5 := hf 5 (by kernel_rfl); have q6 := hf 6 (by kernel_rfl); clear hf; simp [g1, g3, g5, g6] at q1 q3 q5 q6)
                    simp (disch := omega) [e145]
                    (with_reducible first | refine Qn (fun h9 => ?_) (fun h9 => ?_) | refine Qm (fun h9 => ?_) (fun h9 => ?_))
                    · simp (disch := omega)
                      refine Wy n 0 (fun c t _ => t 7 = N c ∧ YZ (fun c => s.three a b c) c = true) (fun t h => YZ (fun c => s.three a b c) n = true) (by simp) (by omega) ?_ ?_
                      · rintro c t3 hh hf hc ⟨r7, hj3⟩
                        (have r1 := hf 1 (by kernel_rfl); have r3 := hf 3 (by kernel_rfl); have r5 := hf 5 (by kernel_rfl); have r6 := hf 6 (by kernel_rfl); clear hf; simp [q1, q3, q5, q6] at r1 r3 r5 r6)
                        simp (disch := omega) [r1, r3, r5, r6, r7]
                        (with_reducible first | refine Qn (fun h10 => ?_) (fun h10 => ?_) | refine Qm (fun h10 => ?_) (fun h10 => ?_))
                        · have hGc := GSys.Glt h10
                          simp only [Qi, Qg, Ql, Qj, Qe, Qc, Bool.not_true, Bool.not_false] at h10
                          simp (disch := omega) [r1, r3, r5, r6, r7]
                          repeat' (first
    | with_reducible refine Qa (Zru t hGa hGb hGc) (by simp) ?_
    | (with_reducible (first | refine Qn (fun hb_ => ?_) (fun hb_ => ?_) | refine Qm (fun hb_ => ?_) (fun hb_ => ?_)) <;> simp (disch := omega) [hb_, r1, r3, r5, r6, r7])
    | simp (disch := omega) [r1, r3, r5, r6, r7])
                          · refine ⟨by omega, Qd (by omega), by simp [WO, hj3, hb_]⟩
                          · exact XI (i := a) (by omega) (by simp [GSys.sysB, h7, XI (p := fun b => s.sysC n a b) (i := b) (n := n) (by omega) (by simp [GSys.sysC, h9, XI (p := fun c => s.three a b c) (i := c) (n := n) (by omega) (by simpa using hb_)])])
                        · simp only [Qi, Qg, Ql, Qj, Qe, Qc, Bool.not_true, Bool.not_false] at h10
                          simp (disch := omega)
                          rw [← hj3, show c = n by omega]
                      · rintro t4 hh hf hj3
                        (have r1 := hf 1 (by kernel_rfl); have r3 := hf 3 (by kernel_rfl); have r5 := hf 5 (by kernel_rfl); have r6 := hf 6 (by kernel_rfl); clear hf; simp [q1, q3, q5, q6] at r1 r3 r5 r6)
                        simp (disch := omega) [r1, r3, r5, r6]
                        exact ⟨by omega, Qd (by omega), by simp [WO, hj2, show s.sysC n a b = true by simp [GSys.sysC, h9, hj3]]⟩
                    · simp (disch := omega)
                      exact XI (i := a) (by omega) (by simp [GSys.sysB, h7, XI (p := fun b => s.sysC n a b) (i := b) (n := n) (by omega) (by simp_all [GSys.sysC])])
                · simp only [Qi, Qg, Ql, Qj, Qe, Qc, Bool.not_true, Bool.not_false] at h8
                  simp (disch := omega)
                  rw [← hj2, show b = n by omega]
              · rintro t4 hh hf hj2
                (have r1 := hf 1 (by kernel_rfl); have r3 := hf 3 (by kernel_rfl); have r5 := hf 5 (by kernel_rfl); clear hf; simp [f1, f3, f5] at r1 r3 r5)
                simp (disch := omega) [r1, r3, r5]
                exact ⟨by omega, Qd (by omega), by simp [WO, hj, show s.sysB n a = true by simp [GSys.sysB, h7, hj2]]⟩
            · simp (disch := omega)
              exact XI (i := a) (by omega) (by simp_all [GSys.sysB])
        · simp only [Qi, Qg, Ql, Qj, Qe, Qc, Bool.not_true, Bool.not_false] at h6
          simp (disch := omega)
          rw [← hj, show a = n by omega]
  · simp_all [GSys.tabB, GSys.sys]
def ZcN (nv size:Int) (closed:Bool) (op n:Int):Bool :=
 if eqB op 0=true then Q4 n 0 (nv - 1) else if eqB op 1=true then Q4 n 0 2 else if Z6 op=true then ltB n size && (leB (-1) n && (!closed || leB 0 n)) else eqB n 0
def tyB (size:Int) (closed:Bool) (op:Int) (ty:List Int):Bool:=if Xy op=true then wty ty && YN size closed ty else eqB ty.length 0
def Y4 (nv size:Int) (closed:Bool) (op n:Int) (ty:List Int) (len:Nat):Bool:=eqB len (YT op) && (ZcN nv size closed op n && tyB size closed op ty)
mutual
def W8 (nv size:Int) (closed:Bool):GTerm→Bool
 | .mk op n _ ty _ ks=>Y4 nv size closed op n ty ks.length && W5 nv size closed op 0 ks
def W5 (nv size:Int) (closed:Bool) (op:Int) (k:Nat):List GTerm→Bool
 | []=>true
 | t::ts=>W8 (nv+Qr op k) size closed t && W5 nv size closed op (k+1) ts
end
theorem Zrs (nv size:Int) (closed:Bool) (t:GTerm) (hw:t.wf) (hs:I64 size) (hv:0≤nv∧nv≤1000000) :
  Qf Tryz.prog ZaB [t.lv,N nv,N size,B closed] (·=B (match t with | .mk op n _ ty _ ks=>Y4 nv size closed op n ty ks.length)):=by
 obtain ⟨op,n,nl1,ty,nl2,ks⟩:=t
 simp only [GTerm.wf] at hw
 obtain ⟨hop,hn,hty,hk,hks⟩:=hw
 refine Qf.of_codeOf Zkp Qz (by simp) ⟨_,rfl,by simp⟩ ?_
 simp (disch:=omega) [ZdZ,Qw,Qs,GTerm.cells]
 repeat' (first
  | with_reducible refine Qa (ZrN op) (by simp) ?_
  | with_reducible refine Qa (Zfi _ _ _) (by simp) ?_
  | with_reducible refine Qa (l2Has_ok op) (by simp) ?_
  | with_reducible refine Qa (ZpY op) (by simp) ?_
  | with_reducible refine Qa (Zk8 nl1 ty hty) (by simp) ?_
  | with_reducible refine Qa (Zg7 nl1 ty hty size hs _) (by simp) ?_
  | (with_reducible (first | refine Qn (fun hb_=>?_) (fun hb_=>?_) | refine Qm (fun hb_=>?_) (fun hb_=>?_))<;>simp (disch:=omega) [hb_,Qd])
  | simp (disch:=omega) [Qd])
 all_goals simp_all [Y4,ZcN,tyB,ZbP]
theorem Zgu:∀ (d:Nat) (t:GTerm),t.size≤d→t.wf→∀ left:Int,0≤left→left≤1000000→Qf Tryz.prog ZB [t.lv,N left] (·=N (KU t.size left)):=by
 intro d
 induction d with
 | zero=>intro t h;have:=t.size_pos;omega
 | succ d ih =>
  rintro ⟨op,n,nl1,ty,nl2,ks⟩ hd hw left h0 h1
  simp only [GTerm.wf] at hw
  obtain ⟨hop,hn,hty,hk,hks⟩:=hw
  simp only [GTerm.size,GTerm.lv,GTerm.cells] at hd ⊢
  refine Qf.of_codeOf ZkQ Qz (by simp) ⟨_,rfl,by simp⟩ ?_
  simp (disch:=omega) [Zeh,Qw,Qs,GTerm.cells,Qd]
  refine XH ks.length 0 (fun i t _=>∃ m:Int,t 5=N i∧t 1=N m∧-1≤m∧m≤left∧KU (WV ks+1) left=KU (WV (ks.drop i)) m) ⟨left - 1,by simp,by simp,by omega,by omega,by unfold KU;simp;split<;>split<;>omega⟩ (by omega) ?_
  rintro i t1 hh hf hi ⟨m,e5,e1,hm,hml,he⟩
  (have e2:=hf 2 (by kernel_rfl);clear hf;simp [] at e2)
  simp (disch:=omega) [e1,e2,e5]
  (with_reducible first | refine Qn (fun h6=>?_) (fun h6=>?_) | refine Qm (fun h6=>?_) (fun h6=>?_))
  ·simp (disch:=omega) [e1,e2,e5,h6]
   simp only [Qi,Qg,Ql,Qj,Qe,Qc,Bool.not_true,Bool.not_false] at h6
   have hsd:=Zeu (ks:=ks) (i:=i) (by omega)
   have hsk:=Yi (ks:=ks) (i:=i) (by omega)
   have hwk:(ks[i]'(by omega)).wf:=ZbR.1 hks _ (List.getElem_mem _)
   (with_reducible first | refine Qn (fun h7=>?_) (fun h7=>?_) | refine Qm (fun h7=>?_) (fun h7=>?_))
   ·simp only [Qi,Qg,Ql,Qj,Qe,Qc,Bool.not_true,Bool.not_false] at h7
    have hc:=ih (ks[i]'(by omega)) (by omega) hwk m h7 (by omega)
    simp (disch:=omega) [e1,e2,e5,Zft]
    repeat' (first
  | with_reducible refine Qa (hc) (by simp) ?_
  | (with_reducible (first | refine Qn (fun hb_=>?_) (fun hb_=>?_) | refine Qm (fun hb_=>?_) (fun hb_=>?_))<;>simp (disch:=omega) [hb_,e1,e2,e5])
  | simp (disch:=omega) [e1,e2,e5])
    rw [he,hsd]
    refine ⟨by omega,Qd (by omega),?_⟩
    unfold KU;repeat' split
    all_goals omega
   ·simp only [Qi,Qg,Ql,Qj,Qe,Qc,Bool.not_true,Bool.not_false] at h7
    simp (disch:=omega) [e1,e2,e5]
    rw [he,show m=-1 by omega];unfold KU;split<;>omega
  ·simp (disch:=omega) [e1,e2,e5,h6]
   simp only [Qi,Qg,Ql,Qj,Qe,Qc,Bool.not_true,Bool.not_false] at h6
   rw [he,show i=ks.length by omega,List.drop_length];simp [WV,KU];try omega
theorem ZrA (size:Int) (closed:Bool) (hs:I64 size):∀ (d:Nat) (t:GTerm),t.size≤d→t.wf→∀ nv:Int,0≤nv→nv+2 * t.size≤1000000→Qf Tryz.prog KF [t.lv,N nv,N size,B closed] (·=B (W8 nv size closed t)):=by
 intro d
 induction d with
 | zero=>intro t h;have:=t.size_pos;omega
 | succ d ih =>
  rintro ⟨op,n,nl1,ty,nl2,ks⟩ hd hw nv h0 h1
  have hN:=Zrs nv size closed (.mk op n nl1 ty nl2 ks) hw hs ⟨h0,by omega⟩
  simp only [GTerm.wf] at hw
  obtain ⟨hop,hn,hty,hk,hks⟩:=hw
  simp only [GTerm.size,GTerm.lv,GTerm.cells] at hd h1 hN ⊢
  refine Qf.of_codeOf Zkn Qz (by simp) ⟨_,rfl,by simp⟩ ?_
  simp (disch:=omega) [ZdV,Qw,Qs,GTerm.cells]
  refine Qa hN (by simp) ?_
  simp (disch:=omega)
  (with_reducible first | refine Qn (fun h3=>?_) (fun h3=>?_) | refine Qm (fun h3=>?_) (fun h3=>?_))
  ·simp (disch:=omega)
   refine XH ks.length 0 (fun i t _=>t 9=N i∧W8 nv size closed (.mk op n nl1 ty nl2 ks)=W5 nv size closed op i (ks.drop i)) (by simp [W8,h3]) (by omega) ?_
   rintro i t1 hh hf hi ⟨e9,he⟩
   (have e1:=hf 1 (by kernel_rfl);have e2:=hf 2 (by kernel_rfl);have e3:=hf 3 (by kernel_rfl);have e4:=hf 4 (by kernel_rfl);clear hf;simp [] at e1 e2 e3 e4)
   simp (disch:=omega) [e1,e2,e3,e4,e9]
   (with_reducible first | refine Qn (fun h6=>?_) (fun h6=>?_) | refine Qm (fun h6=>?_) (fun h6=>?_))
   ·simp only [Qi,Qg,Ql,Qj,Qe,Qc,Bool.not_true,Bool.not_false] at h6
    have hsk:=Yi (ks:=ks) (i:=i) (by omega)
    have hwk:(ks[i]'(by omega)).wf:=ZbR.1 hks _ (List.getElem_mem _)
    have hA:0≤Qr op i∧Qr op i≤2:=by (unfold Qr;repeat' split)<;>omega
    have hc:=ih (ks[i]'(by omega)) (by omega) hwk (nv+Qr op i) (by omega) (by omega)
    have hfd:W5 nv size closed op i (ks.drop i)=(W8 (nv+Qr op i) size closed (ks[i]'(by omega)) && W5 nv size closed op (i+1) (ks.drop (i+1))):=by
     rw [List.drop_eq_getElem_cons (by omega),W5]
    simp (disch:=omega) [e1,e2,e3,e4,e9,Zft]
    repeat' (first
  | with_reducible refine Qa (Zgv op i) (by simp) ?_
  | with_reducible refine Qa (hc) (by simp) ?_
  | (with_reducible (first | refine Qn (fun hb_=>?_) (fun hb_=>?_) | refine Qm (fun hb_=>?_) (fun hb_=>?_))<;>simp (disch:=omega) [hb_,e1,e2,e3,e4,e9,Qd])
  | simp (disch:=omega) [e1,e2,e3,e4,e9,Qd])
    ·exact ⟨by omega,by rw [he,hfd,hb_,Bool.true_and]⟩
    ·rw [he,hfd,hb_,Bool.false_and]
   ·simp only [Qi,Qg,Ql,Qj,Qe,Qc,Bool.not_true,Bool.not_false] at h6
    simp (disch:=omega) [e1,e2]
    rw [he,show i=ks.length by omega,List.drop_length];simp [W5]
  ·simp (disch:=omega)
   simp [W8,h3]
set_option linter.unusedSectionVars false
def FnB (P:Program) (f v:LV) (b:Bool):Prop:=∃ fid vals,YO f [v]=some (fid,vals)∧QA 0 vals∧Qf P fid vals (·=B b)
theorem Zl4 {P:Program} {f v:LV} {b:Bool} {d:Nat} {K:St→Prop} {s:St} (h:FnB P f v b) (hk:K { t:=upd s.t d (B b),h:=s.h }):onFn P .no f [v] (some d) K s:=by
 obtain ⟨fid,vals,h1,h2,h3⟩:=h
 exact ⟨fid,vals,h1,Qa (rw:=.no) h3 h2 hk⟩
def numG (pg:Int→Bool) (nv:Int) (op n:Int):Bool :=
 if eqB op 0=true then Q4 n 0 (nv - 1) else if eqB op 1=true then Q4 n 0 2 else if Z6 op=true then pg n else eqB n 0
def tyG (pt:List Int→Bool) (op:Int) (ty:List Int):Bool:=if Xy op=true then pt ty else eqB ty.length 0
def Zjn (pg:Int→Bool) (pt:List Int→Bool) (nv:Int) (op n:Int) (ty:List Int) (len:Nat):Bool:=eqB len (YT op) && (numG pg nv op n && tyG pt op ty)
mutual
def ZdK (pg:Int→Bool) (pt:List Int→Bool) (nv:Int):GTerm→Bool
 | .mk op n _ ty _ ks=>Zjn pg pt nv op n ty ks.length && ZaE pg pt nv op 0 ks
def ZaE (pg:Int→Bool) (pt:List Int→Bool) (nv:Int) (op:Int) (k:Nat):List GTerm→Bool
 | []=>true
 | t::ts=>ZdK pg pt (nv+Qr op k) t && ZaE pg pt nv op (k+1) ts
end
section
variable {pg:Int→Bool} {pt:List Int→Bool} {size:Int} {closed:Bool} (hg:∀ n,pg n=(ltB n size && (leB (-1) n && (!closed || leB 0 n)))) (ht:∀ ty,pt ty=(wty ty && YN size closed ty))
include hg ht
mutual
theorem ZiE:∀ (t:GTerm) (nv:Int),ZdK pg pt nv t=W8 nv size closed t
 | .mk op n nl1 ty nl2 ks,nv=>by
  simp only [ZdK,W8,Zlr ks,Zjn,Y4,numG,ZcN,tyG,tyB,hg,ht]
theorem Zlr:∀ (ks:List GTerm) (nv op:Int) (k:Nat),ZaE pg pt nv op k ks=W5 nv size closed op k ks
 | [],_,_,_=>by simp [ZaE,W5]
 | t::ts,nv,op,k=>by simp only [ZaE,W5,ZiE t,Zlr ts]
end
end
def ZdF (f:Bool) (nodes:Int) (sz:Nat):Int:=if f=true∧nodes+sz≤400 then nodes+sz else 401
theorem Zk7 {op:Int} (h:Q4 op 0 12=false):YT op=-1:=by
 rw [Zf0] at h
 unfold YT;repeat' split
 all_goals omega
theorem Zpa {op:Int} {n:Nat} (h:eqB n (YT op)=true):Q4 op 0 12=true:=by
 cases hc:Q4 op 0 12 with
 | true=>rfl
 | false=>rw [Zk7 hc,Qe] at h;omega
theorem ZnQ (fg ft : LV) (pg : Int → Bool) (pt : List Int → Bool) (sg : share fg = fg) (st : share ft = ft) (lg : Low 0 fg) (lt : Low 0 ft)
    (hg : ∀ n, I64 n → FnB Tryz.prog fg (N n) (pg n)) (ht : ∀ nl ty, Lok ty → FnB Tryz.prog ft (L nl ty) (pt ty)) : ∀ (d : Nat) (t : GTerm), t.size ≤ d → t.wf → ∀ nv nodes : Int, 0 ≤ nodes → nodes ≤ 400 → 0 ≤ nv → nv ≤ 8 + 2 * nodes →
    Qf Tryz.prog JQ [t.lv, N nv, fg, ft, N nodes] (· = N (ZdF (ZdK pg pt nv t) nodes t.size)) := by
  intro d
  induction d with
  | zero => intro t h; have := t.size_pos; omega
  | succ d ih =>
    rintro ⟨op, n, nl1, ty, nl2, ks⟩ hd hw nv nodes h0 h1 h2 h3
    simp only [GTerm.wf] at hw
    obtain ⟨hop, hn, hty, hk, hks⟩ := hw
    simp only [GTerm.size, GTerm.lv, GTerm.cells] at hd ⊢
    refine Qf.of_codeOf ZmU Qz (by simp) ⟨_, rfl, by simp⟩ ?_
    simp (disch := omega) [ZfQ, Qw, Qs, GTerm.cells, Qd, sg, st]
    refine Qa (ZrP op) (by simp) ?_
    by_cases hf : Q4 op 0 12 = true
    · rw [Ziq, if_pos hf]
      simp (disch := omega) [sg, st]
      (with_reducible first | refine Qn (fun h4 => ?_) (fun h4 => ?_) | refine Qm (fun h4 => ?_) (fun h4 => ?_))
      · simp (disch := omega) [h4]
        simp only [Qi, Qg, Ql, Qj, Qe, Qc, Bool.not_true, Bool.not_false] at h4
        unfold ZdF; rw [if_neg (by omega)]
      · simp (disch := omega) [h4]
        simp only [Qi, Qg, Ql, Qj, Qe, Qc, Bool.not_true, Bool.not_false] at h4
        (with_reducible first | refine Qn (fun h5 => ?_) (fun h5 => ?_) | refine Qm (fun h5 => ?_) (fun h5 => ?_))
        · simp only [wpC_skip, Zms]
          refine Vn (fun t h => t 12 = B (numG pg nv op n) ∧ h[1]? = some (some [wordV op, N (YT op), B (Z6 op), B (Xy op)])) ?_ ?_
          · repeat' (first
    | with_reducible refine Qa (ZZ _ _ _) (by simp) ?_
    | with_reducible refine Zl4 (hg n hn) ?_
    | (with_reducible (first | refine Qn (fun hb_ => ?_) (fun hb_ => ?_) | refine Qm (fun hb_ => ?_) (fun hb_ => ?_)) <;> simp (disch := omega) [hb_, sg, st, Qd])
    | simp (disch := omega) [sg, st, Qd])
            all_goals simp_all [numG]
          · rintro t1 hh hf1 ⟨e12, eh⟩
            (have e1 := hf1 1 (by kernel_rfl); have e2 := hf1 2 (by kernel_rfl); have e3 := hf1 3 (by kernel_rfl); have e4 := hf1 4 (by kernel_rfl); have e5 := hf1 5 (by kernel_rfl); have e11 := hf1 11 (by kernel_rfl); clear hf1; simp [sg, st] at e1 e2 e3 e4 e5 e11)
            obtain ⟨q, hq⟩ : ∃ q, (numG pg nv op n && tyG pt op ty) = q := ⟨_, rfl⟩
            refine Vn (fun t h => t 12 = B q) ?_ ?_
            · repeat' (first
    | with_reducible refine Zl4 (ht nl1 ty hty) ?_
    | (with_reducible (first | refine Qn (fun hb_ => ?_) (fun hb_ => ?_) | refine Qm (fun hb_ => ?_) (fun hb_ => ?_)) <;> simp (disch := omega) [hb_, sg, st, e1, e2, e3, e4, e5, e11, e12, eh])
    | simp (disch := omega) [sg, st, e1, e2, e3, e4, e5, e11, e12, eh])
              all_goals rw [← hq]
              all_goals simp_all [tyG]
            · rintro t2 hh hf1 f12
              (have f1 := hf1 1 (by kernel_rfl); have f2 := hf1 2 (by kernel_rfl); have f3 := hf1 3 (by kernel_rfl); have f4 := hf1 4 (by kernel_rfl); have f5 := hf1 5 (by kernel_rfl); clear hf1; simp [e1, e2, e3, e4, e5] at f1 f2 f3 f4 f5)
              simp (disch := omega) [f12]
              (with_reducible first | refine Qn (fun h6 => ?_) (fun h6 => ?_) | refine Qm (fun h6 => ?_) (fun h6 => ?_))
              · have hN : Zjn pg pt nv op n ty ks.length = true := by simp only [Zjn, h5, hq, h6, Bool.true_and]
                simp (disch := omega) [f1, f2, f3, f4, f5]
                refine XH ks.length 0 (fun i t _ => ∃ nd : Int, t 84 = N i ∧ t 4 = N nd ∧ nodes + 1 ≤ nd ∧ nd ≤ 400 ∧ ZdF (ZdK pg pt nv (.mk op n nl1 ty nl2 ks)) nodes (WV ks + 1) = ZdF (ZaE pg pt nv op i (ks.drop i)) nd (WV (ks.drop i)))
                  ⟨nodes + 1, by simp, by simp [f4], by omega, by omega, ?_⟩ (by omega) ?_
                · simp only [ZdK, hN, Bool.true_and, List.drop_zero, ZdF]
                  congr 1 <;> grind
                rintro i t3 hh hf1 hi ⟨nd, g84, g4, hnd, hnd2, he⟩
                (have g1 := hf1 1 (by kernel_rfl); have g2 := hf1 2 (by kernel_rfl); have g3 := hf1 3 (by kernel_rfl); have g5 := hf1 5 (by kernel_rfl); have g82 := hf1 82 (by kernel_rfl); have g83 := hf1 83 (by kernel_rfl); clear hf1; simp [f1, f2, f3, f5] at g1 g2 g3 g5 g82 g83)
                simp (disch := omega) [g1, g2, g3, g4, g5, g82, g83, g84]
                (with_reducible first | refine Qn (fun h7 => ?_) (fun h7 => ?_) | refine Qm (fun h7 => ?_) (fun h7 => ?_))
                · simp only [Qi, Qg, Ql, Qj, Qe, Qc, Bool.not_true, Bool.not_false] at h7
                  have hsd := Zeu (ks := ks) (i := i) (by omega)
                  have hsk := Yi (ks := ks) (i := i) (by omega)
                  have hwk : (ks[i]'(by omega)).wf := ZbR.1 hks _ (List.getElem_mem _)
                  have hA : 0 ≤ Qr op i ∧ Qr op i ≤ 2 := by (unfold Qr; repeat' split) <;> omega
                  have hc := ih (ks[i]'(by omega)) (by omega) hwk (nv + Qr op i) nd (by omega) (by omega) (by omega) (by omega)
                  have hfd : ZaE pg pt nv op i (ks.drop i) = (ZdK pg pt (nv + Qr op i) (ks[i]'(by omega)) && ZaE pg pt nv op (i + 1) (ks.drop (i + 1))) := by
                    rw [List.drop_eq_getElem_cons (by omega), ZaE]
                  simp (disch := omega) [g1, g2, g3, g4, g5, g82, g83, g84, Zft, sg, st]
                  repeat' (first
    | with_reducible refine Qa (ZhQ op i) (by simp) ?_
    | with_reducible refine Qa hc (by simp [lg, lt]) ?_
    | (with_reducible (first | refine Qn (fun hb_ => ?_) (fun hb_ => ?_) | refine Qm (fun hb_ => ?_) (fun hb_ => ?_)) <;> simp (disch := omega) [hb_, g1, g2, g3, g4, g5, g82, g83, g84, Qd, sg, st])
    | simp (disch := omega) [g1, g2, g3, g4, g5, g82, g83, g84, Qd, sg, st])
                  all_goals simp only [Qi, Qg, Ql, Qj, Qe, Qc, Bool.not_true, Bool.not_false] at hb_
                  all_goals rw [he, hfd, hsd]
                  · unfold ZdF at hb_ ⊢
                    grind
                  · refine ⟨by omega, ?_⟩
                    unfold ZdF at hb_ ⊢
                    grind
                · simp only [Qi, Qg, Ql, Qj, Qe, Qc, Bool.not_true, Bool.not_false] at h7
                  simp (disch := omega) [g4]
                  rw [he, show i = ks.length by omega, List.drop_length]; simp [ZaE, ZdF, WV]; omega
              · simp (disch := omega)
                unfold ZdF ZdK Zjn; rw [hq]; simp [h5, h6]
        · simp (disch := omega)
          unfold ZdF ZdK Zjn; simp [h5]
    · simp only [Bool.not_eq_true] at hf
      rw [Ziq, if_neg (by simp [hf])]
      simp (disch := omega) [sg, st]
      unfold ZdF ZdK Zjn
      rw [Zk7 hf, show eqB (ks.length : Int) (-1) = false by rw [Qc]; omega]
      simp
theorem Zjz {ty:List Int} (h:wty ty=true):YN 16 false ty=true:=by
 rw [YN,Yc]
 intro i hi
 have:=Zgs h i hi
 simp only [Yw,okC,Xc]
 generalize ty.getD i 0=c at *
 have h3:ltB (if 35≤c then -1 else if 19≤c then c - 19 else c - 3) 16=true:=by
  rw [Qi];repeat' split
  all_goals omega
 rw [h3];simp
theorem Zgd (n:Int) (h:I64 n):FnB Tryz.prog (.fn XM []) (N n) (Q4 n (-1) 15):=by
 refine ⟨XM,[N n],by simp [YO],by simp,?_⟩
 refine Qf.of_codeOf ZcI Qz (by simp) ⟨_,rfl,by simp⟩ ?_
 simp (disch:=omega) [KL]
 repeat' (first
  | with_reducible refine Qa (ZZ _ _ _) (by simp) ?_
  | (with_reducible (first | refine Qn (fun hb_=>?_) (fun hb_=>?_) | refine Qm (fun hb_=>?_) (fun hb_=>?_))<;>simp (disch:=omega) [hb_])
  | simp (disch:=omega))
theorem ZgC (nl:Bool) (ty:List Int) (h:Lok ty):FnB Tryz.prog (.fn W3 []) (L nl ty) (wty ty) :=
 ⟨W3,[L nl ty],by simp [YO],by simp,Zbe nl ty h⟩
def GTerm.writ (t:GTerm):Bool:=decide (t.size≤400) && W8 8 16 false t
theorem Zis (t:GTerm) (hw:t.wf):Qf Tryz.prog Jy [t.lv] (·=N (ZdF (W8 8 16 false t) 0 t.size)):=by
 refine Qf.of_codeOf ZeK Qz (by simp) ⟨_,rfl,by simp⟩ ?_
 have hc:=ZnQ (.fn XM []) (.fn W3 []) (fun n=>Q4 n (-1) 15) wty (by simp) (by simp) (by simp) (by simp) Zgd ZgC t.size t (by omega) hw 8 0 (by omega) (by omega) (by omega) (by omega)
 rw [ZiE (size:=16) (closed:=false) (fun n=>by rw [Bool.eq_iff_iff];simp [Q4,Qi,Qg,Ql,Qj,Qe,Qc,Bool.not_true,Bool.not_false];omega) (fun ty=>by
  cases h:wty ty with
  | false=>simp
  | true=>simp [Zjz h])] at hc
 simp (disch:=omega) [VT,Qw,Qs]
 repeat' (first
  | with_reducible refine Qa (hc) (by simp) ?_
  | (with_reducible (first | refine Qn (fun hb_=>?_) (fun hb_=>?_) | refine Qm (fun hb_=>?_) (fun hb_=>?_))<;>simp (disch:=omega) [hb_])
  | simp (disch:=omega))
theorem ZaR (t:GTerm) (hw:t.wf):Qf Tryz.prog ZX [t.lv] (·=B t.writ):=by
 refine Qf.of_codeOf Zgy Qz (by simp) ⟨_,rfl,by simp⟩ ?_
 have h2:leB (ZdF (W8 8 16 false t) 0 t.size) 400=t.writ:=by
  rw [Bool.eq_iff_iff]
  simp only [Qi,Qg,Ql,Qj,Qe,Qc,Bool.not_true,Bool.not_false,ZdF,GTerm.writ,Bool.and_eq_true,decide_eq_true_eq]
  split<;>grind
 simp (disch:=omega) [Zbd,Qw,Qs]
 repeat' (first
  | with_reducible refine Qa (Zis t hw) (by simp) ?_
  | (with_reducible (first | refine Qn (fun hb_=>?_) (fun hb_=>?_) | refine Qm (fun hb_=>?_) (fun hb_=>?_))<;>simp (disch:=omega) [hb_,h2])
  | simp (disch:=omega) [h2])
def okT (size:Int) (c:Bool×List Int):Bool:=wty c.2 && YN size true c.2
def okAt (size:Int) (ctx:Wz) (i:Nat):Bool:=okT size (ctx.getD i (true,[]))
theorem ZhP {size:Int} {ctx:Wz} {i:Nat} (h:i < ctx.length):okAt size ctx i=okT size ctx[i]:=by simp [okAt,h]
def Ze1 (size:Int) (ctx:Wz):Bool:=leB ctx.length 8 && YZ (okAt size ctx) ctx.length
theorem Zl6 (s:GSys) (t:s.Tab) (nl:Bool) (ctx:Wz) (hw:ctx.wf):Qf Tryz.prog Kv [s.lv,LC nl ctx] (·=B (Ze1 s.size ctx)):=by
 refine Qf.of_codeOf ZgB Qz (by simp) ⟨_,rfl,by simp⟩ ?_
 have h2:=t.lo;have h16:=t.hi
 have hlen:=hw.1
 have hI:I64 s.size:=⟨by omega,by omega⟩
 simp (disch:=omega) [ZaU,Qw,Qs]
 (with_reducible first | refine Qn (fun h1=>?_) (fun h1=>?_) | refine Qm (fun h1=>?_) (fun h1=>?_))
 ·simp (disch:=omega)
  rw [ZbP] at h1;simp at h1;simp [Ze1,h1]
 ·simp (disch:=omega)
  have e8:Ze1 s.size ctx=YZ (okAt s.size ctx) ctx.length:=by rw [ZbP] at h1;simp at h1;simp [Ze1,h1]
  rw [e8]
  refine XH ctx.length 0 (fun i t _=>t 5=N i∧YZ (okAt s.size ctx) i=true) (by simp) (by omega) ?_
  rintro i t1 hh hf hi ⟨e5,hj⟩
  (have e1:=hf 1 (by kernel_rfl);have e2:=hf 2 (by kernel_rfl);clear hf;simp [] at e1 e2)
  simp (disch:=omega) [e1,e2,e5]
  (with_reducible first | refine Qn (fun h6=>?_) (fun h6=>?_) | refine Qm (fun h6=>?_) (fun h6=>?_))
  ·simp only [Qi,Qg,Ql,Qj,Qe,Qc,Bool.not_true,Bool.not_false] at h6
   have hL:Lok (ctx[i]'(by omega)).2:=hw.2 _ (List.getElem_mem _)
   have ha:=ZhP (size:=s.size) (ctx:=ctx) (i:=i) (by omega)
   simp (disch:=omega) [e1,e2,e5,Zcj]
   rcases h:ctx[i]'(by omega) with ⟨nl1,ty⟩
   rw [h] at hL ha
   simp only at hL
   repeat' (first
  | with_reducible refine Qa (Zk8 nl1 ty hL) (by simp) ?_
  | with_reducible refine Qa (Zg7 nl1 ty hL s.size hI true) (by simp) ?_
  | (with_reducible (first | refine Qn (fun hb_=>?_) (fun hb_=>?_) | refine Qm (fun hb_=>?_) (fun hb_=>?_))<;>simp (disch:=omega) [hb_,e1,e2,e5,Zcj,h])
  | simp (disch:=omega) [e1,e2,e5,Zcj,h])
   all_goals first
    | exact ⟨by omega,Qd (by omega),by simp_all [WO,okT]⟩
    | exact (XI (p:=okAt s.size ctx) (i:=i) (by omega) (by simp_all [okT]))
  ·simp only [Qi,Qg,Ql,Qj,Qe,Qc,Bool.not_true,Bool.not_false] at h6
   simp (disch:=omega)
   rw [show i=ctx.length by omega] at hj
   rw [hj]
theorem Zjs (s:GSys) (t:s.Tab) (c:Bool×List Int) (hL:Lok c.2):FnB Tryz.prog (.fn Yh [.rp s.cells]) (eC c) (!okT s.size c):=by
 refine ⟨Yh,[eC c,.rp s.cells],by simp [YO],by simp,?_⟩
 refine Qf.of_codeOf ZeC Qz (by simp) ⟨_,rfl,by simp⟩ ?_
 obtain ⟨nl1,ty⟩:=c
 simp (disch:=omega) [VN]
 repeat' (first
  | with_reducible refine Qa (Zhb t nl1 ty hL) (by simp) ?_
  | (with_reducible (first | refine Qn (fun hb_=>?_) (fun hb_=>?_) | refine Qm (fun hb_=>?_) (fun hb_=>?_))<;>simp (disch:=omega) [hb_])
  | simp (disch:=omega))
 all_goals simp [okT]
theorem Zmv (f:LV) (p:Bool×List Int→Bool) (sf:share f=f) (lf:Low 0 f) (nl:Bool) (ctx:Wz) (hw:ctx.wf) (hp:∀ c∈ctx,FnB Tryz.prog f (eC c) (p c)) :
  Qf Tryz.prog Xo [LC nl ctx,f] (fun r=>∃ n:Int,r=N n∧leB 0 n=ctx.any p):=by
 have hlen:=hw.1
 refine Qf.of_codeOf JH Qz (by simp) ⟨N (if ctx.any p=true then 0 else -1),⟨_,rfl,by split<;>simp_all [leB]⟩,by simp⟩ ?_
 simp (disch:=omega) [Yl]
 refine XH ctx.length 0 (fun i t _=>t 8=N i∧ctx.any p=(ctx.drop i).any p) (by simp) (by omega) ?_
 rintro i t1 hh hf hi ⟨e8,hj⟩
 (have e0:=hf 0 (by kernel_rfl);have e1:=hf 1 (by kernel_rfl);have e6:=hf 6 (by kernel_rfl);have e7:=hf 7 (by kernel_rfl);clear hf;simp [sf] at e0 e1 e6 e7)
 simp (disch:=omega) [e0,e1,e6,e7,e8]
 (with_reducible first | refine Qn (fun h6=>?_) (fun h6=>?_) | refine Qm (fun h6=>?_) (fun h6=>?_))
 ·simp only [Qi,Qg,Ql,Qj,Qe,Qc,Bool.not_true,Bool.not_false] at h6
  have hd:=List.drop_eq_getElem_cons (l:=ctx) (i:=i) (by omega)
  have hpc:=hp (ctx[i]'(by omega)) (List.getElem_mem _)
  simp (disch:=omega) [e0,e1,e6,e7,e8,Zcj,sf]
  repeat' (first
  | with_reducible refine Zl4 hpc ?_
  | (with_reducible (first | refine Qn (fun hb_=>?_) (fun hb_=>?_) | refine Qm (fun hb_=>?_) (fun hb_=>?_))<;>simp (disch:=omega) [hb_,e0,e1,e6,e7,e8,Zcj,sf])
  | simp (disch:=omega) [e0,e1,e6,e7,e8,Zcj,sf])
  ·rw [hj,hd,List.any_cons,hb_,Bool.true_or,Ql];omega
  ·exact ⟨by omega,Qd (by omega),by rw [hj,hd,List.any_cons,hb_,Bool.false_or]⟩
 ·simp only [Qi,Qg,Ql,Qj,Qe,Qc,Bool.not_true,Bool.not_false] at h6
  simp (disch:=omega)
  rw [hj,show i=ctx.length by omega,List.drop_length];simp [leB]
theorem Zom {P:Program} {K:St→Prop} {s:St} {rw:Rw} {d:Nat} {f:FuncId} {vals:List LV} {R:LV→Prop} (c:Qf P f vals R) (hl:QA 0 vals) (hk:∀ r,R r→K { t:=upd s.t d r,h:=s.h }) (hrw:rw≠.fr∧rw.isAp=false:=by simp [Rw.isAp]):YY P rw f vals (some d) K s:=Qk c hl hk hrw
theorem ZhJ (f:LV) (p:Bool×List Int→Bool) (sf:share f=f) (lf:Low 0 f) (nl:Bool) (ctx:Wz) (hw:ctx.wf) (hp:∀ c∈ctx,FnB Tryz.prog f (eC c) (p c)) :
  Qf Tryz.prog Xb [LC nl ctx,f] (·=B (ctx.any p)):=by
 refine Qf.of_codeOf Z7 Qz (by simp) ⟨_,rfl,by simp⟩ ?_
 simp (disch:=omega) [XV,sf]
 refine Zom (Zmv f p sf lf nl ctx hw hp) (by simp [lf]) ?_
 rintro r ⟨n,rfl,hn⟩
 simp (disch:=omega) [sf,hn]
theorem Znp {ctx:Wz} {size:Int}:∀ n,n≤ctx.length→YZ (okAt size ctx) n=!((ctx.take n).any fun c=>!okT size c)
 | 0,_=>by simp
 | n+1,h=>by
  rw [WO,Znp n (by omega),ZhP (by omega),List.take_succ_eq_append_getElem (by omega),List.any_append]
  simp [Bool.not_or]
theorem Zm2 (s:GSys) (t:s.Tab) (nl:Bool) (ctx:Wz) (hw:ctx.wf):Qf Tryz.prog Ko [s.lv,LC nl ctx] (·=B (Ze1 s.size ctx)):=by
 refine Qf.of_codeOf Zgj Qz (by simp) ⟨_,rfl,by simp⟩ ?_
 have hlen:=hw.1
 have hc:=ZhJ (.fn Yh [.rp s.cells]) (fun c=>!okT s.size c) (by simp) (by simp) nl ctx hw (fun c hc=>Zjs s t c (hw.2 c hc))
 have ha:=Znp (ctx:=ctx) (size:=s.size) ctx.length (by omega)
 rw [List.take_length] at ha
 simp (disch:=omega) [ZaO,Qw,Qs]
 repeat' (first
  | with_reducible refine Qa (hc) (by simp) ?_
  | (with_reducible (first | refine Qn (fun hb_=>?_) (fun hb_=>?_) | refine Qm (fun hb_=>?_) (fun hb_=>?_))<;>simp (disch:=omega) [hb_])
  | simp (disch:=omega))
 all_goals simp_all [Ze1]
structure GSes where
 sys:GSys
 nl:Bool
 ctx:Wz
 term:GTerm
def GSes.cells (x:GSes):List LV:=x.sys.cells++(LC x.nl x.ctx::x.term.cells)
abbrev GSes.lv (x:GSes):LV:=.agg x.cells
def GSes.wf (x:GSes):Prop:=x.sys.wf∧x.ctx.wf∧x.term.wf
def GSes.ok (x:GSes):Bool:=x.sys.sys && (Ze1 x.sys.size x.ctx && x.term.writ)
def Rok (l:List Int):Prop:=l.length≤9223372036854775807∧∀ n∈l,I64 n
def GSys.raw (s:GSys):Prop:=I64 s.size∧Rok s.plus∧Rok s.times∧s.below.length≤9223372036854775807
def GSys.w (s:GSys):Nat:=s.plus.length+(s.times.length+s.below.length)
def GSys.norm (s:GSys):GSys:={ s with n1:=false,n2:=false,n3:=false }
def GSys.own (s:GSys):List LV:=[N s.size,OU true false s.plus,OU true false s.times,OB true false s.below]
@[simp] theorem GSys.share_own (s:GSys):shareAll s.own=s.norm.cells:=by simp [GSys.own,GSys.norm]
@[simp] theorem GSys.low_own (s:GSys) (k:Nat):QA k s.own:=by simp [GSys.own]
@[simp] theorem GSys.own_length (s:GSys):s.own.length=4:=rfl
def GSys.same (a b:GSys):Bool:=eqB a.size b.size && ((a.plus == b.plus) && ((a.times == b.times) && (a.below == b.below)))
def GSes.raw (x:GSes):Prop:=x.sys.raw∧x.ctx.raw∧x.term.raw
def GSes.w (x:GSes):Nat:=x.sys.w+((x.ctx.length+cws x.ctx)+x.term.w)
def GSes.norm (x:GSes):GSes:=⟨x.sys.norm,false,x.ctx.norm,x.term.norm⟩
def GSes.own (x:GSes):List LV:=x.sys.own++(x.ctx.own::x.term.own)
@[simp] theorem Zfr:∀ a b:List LV,shareAll (a++b)=shareAll a++shareAll b
 | [],b=>by simp [shareAll]
 | x::a,b=>by simp [shareAll,Zfr a b]
@[simp] theorem Zh0 (k:Nat):∀ a b:List LV,QA k (a++b) ↔ QA k a∧QA k b
 | [],b=>by simp
 | x::a,b=>by simp [Zh0 k a b,and_assoc]
@[simp] theorem GSes.share_own (x:GSes):shareAll x.own=x.norm.cells:=by
 simp [GSes.own,GSes.norm,GSes.cells,Wz.norm]
@[simp] theorem GSes.low_own (x:GSes) (k:Nat):QA k x.own:=by simp [GSes.own]
@[simp] theorem GSes.low_cells (x:GSes) (k:Nat):QA k x.cells:=by simp [GSes.cells]
@[simp] theorem GSes.share_cells (x:GSes):shareAll x.cells=x.cells:=by simp [GSes.cells]
@[simp] theorem GSes.cells_length (x:GSes):x.cells.length=9:=by simp [GSes.cells]
@[simp] theorem GSes.own_length (x:GSes):x.own.length=9:=by simp [GSes.own]
@[simp] theorem GSes.take_cells (x:GSes):x.cells.take 9=x.cells:=List.take_of_length_le (by simp)
@[simp] theorem GSes.take_own (x:GSes):x.own.take 9=x.own:=List.take_of_length_le (by simp)
@[simp] theorem GSes.alive_own (x:GSes):Wh x.own=true:=by simp [GSes.own,GSys.own]
@[simp] theorem GSes.alive_cells (x:GSes):Wh x.cells=true:=by simp [GSes.cells]
def GSes.same (a b:GSes):Bool:=a.sys.same b.sys && (sameC a.ctx b.ctx && a.term.same b.term)
open Go
open Go.TL (GM.all Rep Qb Qv Qx LV)
open Go.TL (N B)
variable {H:Type} {enc:TypeId×Value→H} {P:Program} {w:World} {base:Nat} {spare:Nat→Bool} {held:Bool}
def Vd (w:World) (xs:List LV) (cs:List Value):Prop:=Qb (GM.all w) [] xs cs []∧∀ c∈cs,c.oneCell'=true
theorem Vd.nil:Vd w [] []:=⟨by simp [Qb],by simp⟩
theorem Vd.cons {x : LV} {v : Value} {xs : List LV} {cs : List Value} (h : Rep (GM.all w) [] x v []) (h1 : v.oneCell' = true) (ht : Vd w xs cs) : Vd w (x :: xs) (v :: cs) := by
  refine ⟨?_, by intro c hc; simp only [List.mem_cons] at hc; rcases hc with rfl | hc; · exact h1
                 · exact ht.2 c hc⟩
  simp only [Qb]
  exact ⟨v, cs, [], [], rfl, rfl, h, ht.1⟩
theorem Vd.app {xs ys:List LV} {cs ds:List Value} (h1:Vd w xs cs) (h2:Vd w ys ds):Vd w (xs++ys) (cs++ds):=by
 induction xs generalizing cs with
 | nil =>
  obtain ⟨h,_⟩:=h1
  simp only [Qb] at h
  rw [h.1];simpa using h2
 | cons x xs ih =>
  obtain ⟨h,hc⟩:=h1
  simp only [Qb] at h
  obtain ⟨v,ws,O1,O2,rfl,hO,g1,g2⟩:=h
  obtain ⟨rfl,rfl⟩:=List.append_eq_nil_iff.1 hO.symm
  exact Vd.cons g1 (hc v (by simp)) (ih ⟨g2,fun c hc'=>hc c (by simp [hc'])⟩)
theorem Vd.length {xs:List LV} {cs:List Value} (h:Vd w xs cs):cs.length=xs.length:=by
 induction xs generalizing cs with
 | nil=>have:=h.1;simp only [Qb] at this;rw [this.1];rfl
 | cons x xs ih =>
  obtain ⟨h,hc⟩:=h
  simp only [Qb] at h
  obtain ⟨v,ws,O1,O2,rfl,hO,g1,g2⟩:=h
  obtain ⟨rfl,rfl⟩:=List.append_eq_nil_iff.1 hO.symm
  simp [ih ⟨g2,fun c hc'=>hc c (by simp [hc'])⟩]
theorem Vd.cells {xs:List LV} {cs:List Value} (h:Vd w xs cs) (b off:Nat) (hc:∀ i,i < cs.length→w.cell? ⟨b,off+i,none⟩=cs[i]?):Qv (GM.all w) [] xs b off []:=by
 induction xs generalizing cs off with
 | nil=>simp [Qv]
 | cons x xs ih =>
  obtain ⟨h,h1⟩:=h
  simp only [Qb] at h
  obtain ⟨v,ws,O1,O2,rfl,hO,g1,g2⟩:=h
  obtain ⟨rfl,rfl⟩:=List.append_eq_nil_iff.1 hO.symm
  simp only [Qv]
  refine ⟨v,[],[],rfl,by simpa [GM.all] using hc 0 (by simp),h1 v (by simp),g1,ih ⟨g2,fun c hc'=>h1 c (by simp [hc'])⟩ (off+1) fun i hi=>?_⟩
  have:=hc (i+1) (by simpa using hi)
  rw [show off+1+i=off+(i+1) by omega]
  simpa using this
theorem Zid {a:Addr} {n:Nat} {cs:List Value} (h:w.cells? base a n=some cs):cs.length=n∧∀ i,i < n→w.cell? (a.add i)=cs[i]?:=by
 unfold World.cells? at h
 split at h
 ·refine ⟨by simpa using mapM_some_length h,fun i hi=>by simpa [hi] using mapM_some_get h i i (by simp [hi])⟩
 ·simp at h
theorem Zlt {a:Addr} {v:Value} (h:w.cell? a=some v):a.spot=none:=by
 unfold World.cell? at h
 split at h
 ·split at h
  ·simp at h
  ·rename_i hs;simpa using hs
 ·simp at h
theorem add_at {b off i:Nat}:(⟨b,off,none⟩:Addr).add i=⟨b,off+i,none⟩:=by
 unfold Addr.add;split<;>simp_all
theorem rd_slice {α:Type} (e:α→List LV) (Q:α→Prop) {t et:TypeId} {sz:Nat} (hsz:P.cellsOf et=sz) (hpos:0 < sz) (ht:P.underlying t=some (.slice et)) {fuel:Nat}
  (each:∀ n cs y,n < fuel→DataW.trod enc P w base spare held n et cs=some y→∃ r,Q r∧Vd w (e r) cs∧(e r).length=sz)
  {cs:List Value} {x:DataW H×List MemPlace} (h:DataW.trod enc P w base spare held fuel t cs=some x) :
  ∃ (nl:Bool) (l:List α),(∀ r∈l,Q r)∧l.length≤9223372036854775807∧Vd w [.sl false nl sz (l.map e)] cs:=by
 rcases DataW.trod_slice ht h with ⟨rfl,_⟩ | ⟨a,len,cap,elems,rest,n,rfl,rfl,_,_,hlc,hcm,hlen,hel,_,_⟩
 ·exact ⟨true,[],by simp,by simp,Vd.cons (by simp [Rep]) rfl Vd.nil⟩
 ·rw [hsz] at hel
  have get:∀ i,i < len→∃ r,Q r∧(e r).length=sz∧a.spot=none∧Qv (GM.all w) [] (e r) a.block (a.off+i * sz) []:=by
   intro i hi
   have h1:=hel i hi
   have h2:elems[i]?=some (elems[i]'(by omega)):=List.getElem?_eq_getElem _
   rw [h2,Option.bind_eq_some_iff] at h1
   obtain ⟨cs',hc,htr⟩:=h1
   obtain ⟨r,hq,hv,hl⟩:=each n cs' _ (by omega) htr
   obtain ⟨hcl,hcg⟩:=Zid hc
   have hs:a.spot=none:=by
    by_cases hi0:i=0
    ·have:=hcg 0 hpos
     rw [List.getElem?_eq_getElem (by omega)] at this
     have hs:=Zlt this
     simpa [hi0,Addr.add] using hs
    ·have h0:=hel 0 (by omega)
     have h2:elems[0]?=some (elems[0]'(by omega)):=List.getElem?_eq_getElem _
     rw [h2,Option.bind_eq_some_iff] at h0
     obtain ⟨cs0,hc0,_⟩:=h0
     obtain ⟨hcl0,hcg0⟩:=Zid hc0
     have:=hcg0 0 hpos
     rw [List.getElem?_eq_getElem (by omega)] at this
     have hs:=Zlt this
     simpa [Addr.add] using hs
   refine ⟨r,hq,hl,hs,hv.cells _ _ fun j hj=>?_⟩
   have:=hcg j (by omega)
   rw [← this]
   obtain ⟨b,off,sp⟩:=a
   simp only at hs
   subst hs
   rw [add_at,add_at]
  have Qh:∀ k i,i+k=len→∃ l:List α,l.length=k∧(∀ r∈l,Q r)∧Qx (GM.all w) [] (l.map e) sz a.block (a.off+i * sz) []:=by
   intro k
   induction k with
   | zero=>intro i hi;exact ⟨[],rfl,by simp,by simp [Qx]⟩
   | succ k ih =>
    intro i hi
    obtain ⟨r,hq,hl,_,hc⟩:=get i (by omega)
    obtain ⟨l,h1,h2,h3⟩:=ih (i+1) (by omega)
    refine ⟨r::l,by simp [h1],by simpa using ⟨hq,h2⟩,?_⟩
    simp only [List.map_cons,Qx]
    refine ⟨[],[],rfl,hl,hc,?_⟩
    rw [show a.off+i * sz+sz=a.off+(i+1) * sz by rw [Nat.add_mul];omega]
    exact h3
  obtain ⟨l,h1,h2,h3⟩:=Qh len 0 (by omega)
  have hmx:maxLen=9223372036854775807:=by decide
  refine ⟨false,l,h2,by omega,Vd.cons ?_ rfl Vd.nil⟩
  obtain ⟨b,off,sp⟩:=a
  simp only [Rep]
  refine .inr ⟨trivial,b,off,sp,cap,[],by simp [h1],?_,by simp [h1,hlc],by simpa using h3,.inr ⟨.inl trivial,rfl⟩⟩
  by_cases h0:len=0
  ·right
   refine ⟨?_,.inl trivial⟩
   simp;exact List.eq_nil_of_length_eq_zero (by omega)
  ·left
   obtain ⟨_,_,_,hs,_⟩:=get 0 (by omega)
   exact hs
theorem rd_byte {t:TypeId} (ht:P.underlying t=some (.int .u8)) {fuel:Nat} {cs:List Value} {x:DataW H×List MemPlace} (h:DataW.trod enc P w base spare held fuel t cs=some x) :
  ∃ n:Int,(0≤n∧n≤255)∧Vd w [.sc (.int .u8 n)] cs:=by
 obtain ⟨n,rfl,_,hw⟩:=DataW.trod_int ht h
 refine ⟨n,?_,Vd.cons (by simp [Rep]) rfl Vd.nil⟩
 simp [Lit.wf,IntKind.min,IntKind.max,IntKind.signed,IntKind.bits] at hw
 omega
theorem rd_bytes {t et:TypeId} (he:P.underlying et=some (.int .u8)) (hsz:P.cellsOf et=1) (ht:P.underlying t=some (.slice et)) {fuel:Nat} {cs:List Value} {x:DataW H×List MemPlace}
  (h:DataW.trod enc P w base spare held fuel t cs=some x):∃ D:Go.TL.Dr,(∀ b∈D.bs,0≤b∧b≤255)∧Vd w [D.lv] cs:=by
 obtain ⟨nl,l,hq,hl,hv⟩:=rd_slice (fun n=>[.sc (.int .u8 n)]) (fun n=>0≤n∧n≤255) hsz (by omega) ht (fun n cs y _ hy=>by
  obtain ⟨m,h1,h2⟩:=rd_byte he hy
  exact ⟨m,h1,h2,rfl⟩) h
 exact ⟨⟨nl,l⟩,hq,hv⟩
def mmLV (mx:Bool) (x y:LV):Option LV:=match x,y with
 | .sc (.int k a),.sc (.int _ b)=>some (.sc (.int k (if (if mx then b > a else b < a) then b else a)))
 | _,_=>none
@[simp] theorem step_mm {s:St} {d:Nat} {mx:Bool} {x y:X}:TL.step (.minmax d mx x y) s=(mmLV mx (TL.get s.t x) (TL.get s.t y)).map (s.put d):=by
 simp only [TL.step,mmLV]
 split<;>simp_all
@[simp] theorem mm_min {k k':IntKind} {a b:Int}:mmLV false (.sc (.int k a)) (.sc (.int k' b))=some (.sc (.int k (if b < a then b else a))):=by simp [mmLV]
@[simp] theorem mm_max {k k':IntKind} {a b:Int}:mmLV true (.sc (.int k a)) (.sc (.int k' b))=some (.sc (.int k (if a < b then b else a))):=by simp [mmLV]
def W1 {α:Type} (f:Nat→Nat→α) (size a b:Nat):List α:=((List.range a).flatMap fun x=>(List.range size).map fun y=>f x y)++(List.range b).map fun y=>f a y
theorem ZgN {α:Type} (f:Nat→Nat→α) (size:Nat):W1 f size 0 0=[]:=by simp [W1]
theorem Vv {α:Type} (f:Nat→Nat→α) (size a b:Nat):W1 f size a (b+1)=W1 f size a b++[f a b]:=by
 simp [W1,List.range_succ]
theorem Ze4 {α:Type} (f:Nat→Nat→α) (size a:Nat):W1 f size (a+1) 0=W1 f size a size:=by
 simp [W1,List.range_succ]
abbrev OI (l:List Int):LV:=.sl true l.isEmpty 1 (l.map fun n=>[N n])
abbrev OBl (l:List Bool):LV:=.sl true l.isEmpty 1 (l.map fun b=>[B b])
theorem Je {α:Type} (f:Nat→Nat→α) (size:Nat):∀ a b,(W1 f size a b).length=a * size+b
 | 0,b=>by simp [W1]
 | a+1,b=>by
  have h1:=Je f size a size
  rw [← Ze4] at h1
  have:(W1 f size (a+1) b).length=(W1 f size (a+1) 0).length+b:=by simp [W1]
  rw [this,h1,Nat.add_mul];omega
theorem Zlc {l:List Int} {x:Int} (h:l.length < 1099511627776):WS 1 (OI l) (.sl true false 1 [[N x]])=some (OI (l++[x])):=by
 simp only [WS]
 rw [if_pos ⟨.inl trivial,.inl trivial,.inl trivial,by simp [most];omega⟩]
 simp
theorem app_B {l:List Bool} {x:Bool} (h:l.length < 1099511627776):WS 1 (OBl l) (.sl true false 1 [[B x]])=some (OBl (l++[x])):=by
 simp only [WS]
 rw [if_pos ⟨.inl trivial,.inl trivial,.inl trivial,by simp [most];omega⟩]
 simp
theorem Zgc {a b size:Nat} (hs:size≤100) (ha:a < size) (hb:b < size):a * size+b < 1099511627776:=by
 have:a * size≤100 * 100:=Nat.mul_le_mul (by omega) hs
 omega
def nPl (n a b:Nat):Int:=min ((a:Int)+b) (n+1)
def nTm (n a b:Nat):Int:=min ((a:Int) * b) (n+1)
def nBl (n:Nat) (bound:Bool) (a b:Nat):Bool:=eqB a b || (eqB b (n+1) || (bound && leB a b))
abbrev numSys (n:Nat) (bound:Bool):LV:=.agg [N (n+2),OI (W1 (nPl n) (n+2) (n+2) 0),OI (W1 (nTm n) (n+2) (n+2) 0),OBl (W1 (nBl n bound) (n+2) (n+2) 0)]
theorem Zrr {a b n:Nat} (hn:n≤14) (ha:a < n+2) (hb:b < n+2):(0:Int)≤(a:Int) * b∧(a:Int) * b≤256:=by
 have:a * b≤16 * 16:=Nat.mul_le_mul (by omega) (by omega)
 have e:((a * b:Nat):Int)=(a:Int) * b:=by simp
 omega
theorem Za9 (a b:Int):Qf Tryz.prog Zg [N a,N b] (·=N (min a b)):=by
 refine Qf.of_codeOf ZlM Qz (by simp) ⟨_,rfl,by simp⟩ ?_
 simp (disch:=omega) [Zfk]
 repeat' (first
  | (with_reducible (first | refine Qn (fun hb_=>?_) (fun hb_=>?_) | refine Qm (fun hb_=>?_) (fun hb_=>?_))<;>simp (disch:=omega) [hb_])
  | simp (disch:=omega))
 all_goals simp only [Qi,Qg,Ql,Qj,Qe,Qc,Bool.not_true,Bool.not_false] at *
 all_goals omega
theorem ZfH (n : Nat) (h1 : 1 ≤ n) (hn : n ≤ 14) (bound : Bool) : Qf Tryz.prog Z2 [N n, B bound] (· = numSys n bound) := by
  refine Qf.of_codeOf Zgo Qz (by simp) ⟨_, rfl, by simp⟩ ?_
  have hwi : Q4 n 1 14 = true := by rw [Q5]; omega
  simp (disch := omega) [Zbk]
  refine Qa (Zfi _ _ _) (by simp) ?_
  simp (disch := omega) [hwi, Qd]
  refine Wy (n + 2) 0 (fun a t h => t 7 = N a ∧ h = [some [N 0, .sl true true 1 [], .sl true true 1 [], .sl true true 1 []], some [N (n + 2), OI (W1 (nPl n) (n + 2) a 0), OI (W1 (nTm n) (n + 2) a 0), OBl (W1 (nBl n bound) (n + 2) a 0)]])
    (fun t h => h = [some [N 0, .sl true true 1 [], .sl true true 1 [], .sl true true 1 []], some [N (n + 2), OI (W1 (nPl n) (n + 2) (n + 2) 0), OI (W1 (nTm n) (n + 2) (n + 2) 0), OBl (W1 (nBl n bound) (n + 2) (n + 2) 0)]]) (by simp [ZgN]) (by omega) ?_ ?_
  · rintro a t1 hh hf ha ⟨e7, rfl⟩
    (have e0 := hf 0 (by kernel_rfl); have e1 := hf 1 (by kernel_rfl); have e4 := hf 4 (by kernel_rfl); have e5 := hf 5 (by kernel_rfl); have e6 := hf 6 (by kernel_rfl); clear hf; simp [] at e0 e1 e4 e5 e6)
    simp (disch := omega) [e0, e1, e5, e6, e7]
    (with_reducible first | refine Qn (fun h2 => ?_) (fun h2 => ?_) | refine Qm (fun h2 => ?_) (fun h2 => ?_))
    · simp only [Qi, Qg, Ql, Qj, Qe, Qc, Bool.not_true, Bool.not_false] at h2
      simp (disch := omega) [e0, e1, e5, e6, e7]
      refine Wy (n + 2) 0 (fun b t h => t 8 = N b ∧ h = [some [N 0, .sl true true 1 [], .sl true true 1 [], .sl true true 1 []], some [N (n + 2), OI (W1 (nPl n) (n + 2) a b), OI (W1 (nTm n) (n + 2) a b), OBl (W1 (nBl n bound) (n + 2) a b)]])
        (fun t h => h = [some [N 0, .sl true true 1 [], .sl true true 1 [], .sl true true 1 []], some [N (n + 2), OI (W1 (nPl n) (n + 2) a (n + 2)), OI (W1 (nTm n) (n + 2) a (n + 2)), OBl (W1 (nBl n bound) (n + 2) a (n + 2))]]) (by simp) (by omega) ?_ ?_
      · rintro b t2 hh hf hb' ⟨f8, rfl⟩
        (have f0 := hf 0 (by kernel_rfl); have f1 := hf 1 (by kernel_rfl); have f4 := hf 4 (by kernel_rfl); have f5 := hf 5 (by kernel_rfl); have f6 := hf 6 (by kernel_rfl); have f7 := hf 7 (by kernel_rfl); clear hf; simp [e0, e1, e4, e5, e6, e7] at f0 f1 f4 f5 f6 f7)
        simp (disch := omega) [f0, f1, f5, f6, f7, f8]
        (with_reducible first | refine Qn (fun h3 => ?_) (fun h3 => ?_) | refine Qm (fun h3 => ?_) (fun h3 => ?_))
        · simp only [Qi, Qg, Ql, Qj, Qe, Qc, Bool.not_true, Bool.not_false] at h3
          have hm := Zrr hn (a := a) (b := b) (by omega) (by omega)
          have hsm := Zgc (size := n + 2) (by omega) (a := a) (b := b) (by omega) (by omega)
          have a1 := Zlc (x := nPl n a b) (l := W1 (nPl n) (n + 2) a b) (by rw [Je]; exact hsm)
          have a2 := Zlc (x := nTm n a b) (l := W1 (nTm n) (n + 2) a b) (by rw [Je]; exact hsm)
          have a3 := fun x => app_B (x := x) (l := W1 (nBl n bound) (n + 2) a b) (by rw [Je]; exact hsm)
          rw [← Vv] at a1 a2
          have m1 := Za9 ((a : Int) + b) (n + 1)
          have m2 := Za9 ((a : Int) * b) (n + 1)
          rw [show min ((a : Int) + b) (n + 1) = nPl n a b from rfl] at m1
          rw [show min ((a : Int) * b) (n + 1) = nTm n a b from rfl] at m2
          have hst : ∀ x, x = nBl n bound a b → W1 (nBl n bound) (n + 2) a b ++ [x] = W1 (nBl n bound) (n + 2) a (b + 1) := by rintro x rfl; rw [Vv]
          clear e0 e1 e4 e5 e6 e7 hst
          cases bound <;> (
    simp (disch := omega) [f0, f1, f5, f6, f7, f8, Qd]
    repeat' (first
    | with_reducible refine Qa (m1) (by simp) ?_
    | with_reducible refine Qa (m2) (by simp) ?_
    | (with_reducible (first | refine Qn (fun hb_ => ?_) (fun hb_ => ?_) | refine Qm (fun hb_ => ?_) (fun hb_ => ?_)) <;> simp (disch := omega) [hb_, f0, f1, f5, f6, f7, f8, Qd, a1, a2, a3])
    | simp (disch := omega) [f0, f1, f5, f6, f7, f8, Qd, a1, a2, a3]))
          all_goals clear f0 f1 f4 f5 f6 f7 f8 m1 m2 a1 a2 a3
          all_goals refine ⟨by omega, ?_⟩
          all_goals rw [Vv]
          all_goals simp_all [nBl]
        · simp only [Qi, Qg, Ql, Qj, Qe, Qc, Bool.not_true, Bool.not_false] at h3
          simp (disch := omega)
          rw [show b = n + 2 by omega]; simp
      · rintro t2 hh hf rfl
        (have f7 := hf 7 (by kernel_rfl); clear hf; simp [e7] at f7)
        simp (disch := omega) [f7, Ze4]
        exact ⟨by omega, Qd (by omega)⟩
    · simp only [Qi, Qg, Ql, Qj, Qe, Qc, Bool.not_true, Bool.not_false] at h2
      simp (disch := omega)
      rw [show a = n + 2 by omega]; simp
  · rintro t1 hh hf rfl
    (have e4 := hf 4 (by kernel_rfl); have e5 := hf 5 (by kernel_rfl); clear hf; simp [] at e4 e5)
    simp (disch := omega) [e4, e5]
theorem wrap_i64 (n:Int):I64 (IntKind.i64.wrap n):=by
 unfold I64;rw [IntKind.wrap_i64];omega
def andI (a b:Int):Int:=IntKind.i64.wrap (BitVec.ofInt 64 a &&& BitVec.ofInt 64 b).toNat
def xorI (a b:Int):Int:=IntKind.i64.wrap (BitVec.ofInt 64 a ^^^ BitVec.ofInt 64 b).toNat
def shrI (a b:Int):Int:=a.fdiv (2 ^ (min b.toNat 64))
@[simp] theorem bin_and {a b:Int}:Xq .num .and (N a) (N b)=some (N (andI a b)):=rfl
@[simp] theorem bin_xor {a b:Int}:Xq .num .xor (N a) (N b)=some (N (xorI a b)):=rfl
@[simp] theorem bin_shr {a b:Int}:Xq .num .shr (N a) (.sc (.int .u64 b))=if b < 0 then none else some (N (shrI a b)):=by simp [Xq,shrI,IntKind.bits]
theorem Js {a b:Int}:Xq .num .rem (N a) (N b)=if b=0 then none else some (N (a.tmod b)):=by
 simp only [Xq,Z9]
 by_cases h:b=0<;>simp [h]
theorem ZqH {a b:Int}:Xq .num .quo (N a) (N b)=if b=0 then none else some (N (IntKind.i64.wrap (a.tdiv b))):=by
 simp only [Xq,Z9]
 by_cases h:b=0<;>simp [h]
theorem ZoR (a:Int):0≤andI a 255∧andI a 255≤255:=by
 unfold andI
 have h:(BitVec.ofInt 64 a &&& BitVec.ofInt 64 255).toNat≤255:=by
  rw [BitVec.toNat_and]
  exact Nat.le_trans Nat.and_le_right (by decide)
 rw [IntWalk.i64_in _ (by omega)]
 omega
theorem and_I64 (a b:Int):I64 (andI a b):=wrap_i64 _
theorem Zdd:∀ {ct:LV} {D:Dr},share ct=D.lv→ct.alive=true
 | .sc _,D,h=>rfl
 | .sl _ _ _ _,D,h=>rfl
 | .ha _ _ _ _ _,D,h=>rfl
 | .ptr _ _,D,h=>rfl
 | .rp _,D,h=>rfl
 | .fn _ _,D,h=>rfl
 | .fnm _ _,D,h=>rfl
 | .agg _,D,h=>rfl
 | .tup _,D,h=>rfl
 | .raw _,D,h=>by simp [Dr.lv] at h
 | .dead,D,h=>by simp [Dr.lv] at h
 | .both u t,D,h=>by
  simp only [share] at h
  have:=Zdd h
  simp only [LV.alive,this,Bool.true_and]
  split
  ·simp [Dr.lv] at h
  ·rfl
theorem idx_D {D:Dr} {i:Int} (h0:0≤i) (h1:i < D.bs.length):QU 1 D.lv i=some (.rp [.sc (.int .u8 (D.bs.getD i.toNat 0))]):=by
 have:=Zgr (fun b:Int=>LV.sc (.int .u8 b)) (by simp) D.bs false D.nl i h0 h1
 rw [Dr.lv,this,List.getD_eq_getElem?_getD,List.getElem?_eq_getElem (show i.toNat < D.bs.length by omega)]
 rfl
theorem byte_D {D:Dr} (h:D.ok) {i:Int} (h0:0≤i) (h1:i < D.bs.length):0≤D.bs.getD i.toNat 0∧D.bs.getD i.toNat 0≤255:=by
 rw [List.getD_eq_getElem?_getD,List.getElem?_eq_getElem (show i.toNat < D.bs.length by omega)]
 exact h.byte _ (List.getElem_mem _)
section
variable (D:Dr) (ok:D.ok)
include ok
theorem Zlv:Q0 Tryz.prog D YE [] (fun r=>∃ b,r=N b∧0≤b∧b≤255):=by
 refine Q0.of_codeOf ZjJ Qz (by simp) ⟨N 0,0,rfl,by omega,by omega⟩ ?_
 intro h1 h3 ct i k hct hk
 have al:=Zdd hct
 have hlen:=ok.len
 simp (disch:=omega) [ZdO,al,hct]
 (with_reducible first | refine Qn (fun h5=>?_) (fun h5=>?_) | refine Qm (fun h5=>?_) (fun h5=>?_))
 ·simp only [Qi,Qg,Ql,Qj,Qe,Qc,Bool.not_true,Bool.not_false] at h5
  have hb:=byte_D ok hk.1 h5
  have hi:=hk.1
  simp (disch:=omega) [al,hct,idx_D hk.1 h5,Qd]
  (first | refine Wb (.inr rfl) rfl ?_ (by simp) ?_ | refine QQ (.inr rfl) rfl ?_ (by simp) ?_)
  ·exact ⟨by omega,by omega,(wrap_i64 _).1,(wrap_i64 _).2⟩
  ·simp;exact ZoR _
 ·simp (disch:=omega) [al,hct]
  (first | refine Wb (.inr rfl) rfl ?_ (by simp) ?_ | refine QQ (.inr rfl) rfl ?_ (by simp) ?_)
  ·exact ⟨hk.1,hk.2.1,(wrap_i64 _).1,(wrap_i64 _).2⟩
  ·simp;exact ZoR _
theorem Wn (n:Int) (hn:I64 n):Q0 Tryz.prog D QE [N n] (fun r=>∃ m,r=N m∧0≤m∧(0 < n→m < n)∧(n≤0→m=0)):=by
 refine Q0.of_codeOf Zcy Qz (by simp) ⟨N 0,0,rfl,by omega,by omega,by omega⟩ ?_
 intro h1 h3 ct i k hct hk
 have hb:=Zlv D ok
 simp (disch:=omega) [V6]
 (with_reducible first | refine Qn (fun h5=>?_) (fun h5=>?_) | refine Qm (fun h5=>?_) (fun h5=>?_))
 ·simp only [Qi,Qg,Ql,Qj,Qe,Qc,Bool.not_true,Bool.not_false] at h5
  simp (disch:=omega)
  (first | refine Wb (.inr rfl) rfl ?_ (by simp) ?_ | refine QQ (.inr rfl) rfl ?_ (by simp) ?_)
  ·exact hk
  ·simp<;>omega
 ·simp only [Qi,Qg,Ql,Qj,Qe,Qc,Bool.not_true,Bool.not_false] at h5
  simp (disch:=omega)
  have hz:¬ n=0:=by omega
  have rem:∀ a:Int,0≤a→0≤a.tmod n∧a.tmod n < n:=fun a ha=>by
   rw [Int.tmod_eq_emod_of_nonneg ha]
   exact ⟨Int.emod_nonneg _ hz,Int.emod_lt_of_pos _ (by omega)⟩
  (with_reducible first | refine Qn (fun h6=>?_) (fun h6=>?_) | refine Qm (fun h6=>?_) (fun h6=>?_))
  ·simp (disch:=omega)
   refine Qp hb hct hk ?_
   rintro r i1 k1 hk1 ⟨b,rfl,hb0,hb1⟩
   simp (disch:=omega) [Js,hz]
   (first | refine Wb (.inr rfl) rfl ?_ (by simp) ?_ | refine QQ (.inr rfl) rfl ?_ (by simp) ?_)
   ·exact hk1
   ·have:=rem b hb0
    simp;omega
  ·simp (disch:=omega)
   refine Qp hb hct hk ?_
   rintro r i1 k1 hk1 ⟨a,rfl,ha0,ha1⟩
   simp (disch:=omega)
   refine Qp hb hct hk1 ?_
   rintro r i2 k2 hk2 ⟨b,rfl,hb0,hb1⟩
   simp (disch:=omega)
   refine Qp hb hct hk2 ?_
   rintro r i3 k3 hk3 ⟨c,rfl,hc0,hc1⟩
   simp (disch:=omega)
   refine Qp hb hct hk3 ?_
   rintro r i4 k4 hk4 ⟨d,rfl,hd0,hd1⟩
   simp (disch:=omega) [Js,hz,Qd]
   (first | refine Wb (.inr rfl) rfl ?_ (by simp) ?_ | refine QQ (.inr rfl) rfl ?_ (by simp) ?_)
   ·exact hk4
   ·have:=rem (a * 16777216+b * 65536+c * 256+d) (by omega)
    simp;omega
theorem X9 (n:Int) (hn:I64 n):Q0 Tryz.prog D WF [N n] (fun r=>∃ b,r=B b):=by
 refine Q0.of_codeOf Zkz Qz (by simp) ⟨B true,true,rfl⟩ ?_
 intro h1 h3 ct i k hct hk
 simp (disch:=omega) [Zec]
 refine Qp (Wn D ok n hn) hct hk ?_
 rintro r i1 k1 hk1 ⟨m,rfl,_⟩
 simp (disch:=omega)
 (first | refine Wb (.inr rfl) rfl ?_ (by simp) ?_ | refine QQ (.inr rfl) rfl ?_ (by simp) ?_)
 ·exact hk1
 ·simp
theorem JI (nl:Bool) (l:List Int) (h0:l≠[]) (hl:l.length≤1099511627776):Q0 Tryz.prog D Yb [L nl l] (fun r=>∃ m,r=N m∧m∈l):=by
 obtain ⟨x,hx⟩:=List.exists_mem_of_ne_nil l h0
 refine Q0.of_codeOf ZgJ Qz (by simp) ⟨N x,x,rfl,hx⟩ ?_
 intro h1 h3 ct i k hct hk
 have hpos:0 < l.length:=List.length_pos_iff.2 h0
 simp (disch:=omega) [Zbc]
 refine Qp (Wn D ok l.length (by unfold I64;omega)) hct hk ?_
 rintro r i1 k1 hk1 ⟨m,rfl,hm0,hm1,_⟩
 have hm:=hm1 (by omega)
 simp (disch:=omega) [Xu l false nl m hm0 hm]
 (first | refine Wb (.inr rfl) rfl ?_ (by simp) ?_ | refine QQ (.inr rfl) rfl ?_ (by simp) ?_)
 ·exact hk1
 ·simp
end
theorem l1Max_ok (a b:Int):Qf Tryz.prog ZbH [N a,N b] (·=N (max a b)):=by
 refine Qf.of_codeOf ZmW Qz (by simp) ⟨_,rfl,by simp⟩ ?_
 simp (disch:=omega) [Zfs]
 repeat' (first
  | (with_reducible (first | refine Qn (fun hb_=>?_) (fun hb_=>?_) | refine Qm (fun hb_=>?_) (fun hb_=>?_))<;>simp (disch:=omega) [hb_])
  | simp (disch:=omega))
 all_goals simp only [Qi,Qg,Ql,Qj,Qe,Qc,Bool.not_true,Bool.not_false] at *
 all_goals omega
def lX (n a:Nat):Int:=((n:Int)+1 - a).tmod (n+1)
theorem Zfm {m k:Int} (h0:0≤m) (hk:0 < k):0≤m.tmod k∧m.tmod k < k:=by
 rw [Int.tmod_eq_emod_of_nonneg h0]
 exact ⟨Int.emod_nonneg _ (by omega),Int.emod_lt_of_pos _ hk⟩
theorem lX_rng {n a:Nat} (h:a≤n):0≤lX n a∧lX n a≤n:=by
 have:=Zfm (m:=(n:Int)+1 - a) (k:=n+1) (by omega) (by omega)
 unfold lX;omega
def lPl (n a b:Nat):Int:=((n:Int)+1 - max (lX n a) (lX n b)).tmod (n+1)
def lTm (n a b:Nat):Int:=((n:Int)+1 - min (lX n a) (lX n b)).tmod (n+1)
def lBl (n a b:Nat):Bool:=leB (lX n a) (lX n b)
abbrev ZaI (size:Nat) (p t:Nat→Nat→Int) (b:Nat→Nat→Bool):LV:=.agg [N size,OI (W1 p size size 0),OI (W1 t size size 0),OBl (W1 b size size 0)]
theorem ZcC (n : Nat) (h1 : 1 ≤ n) (hn : n ≤ 15) : Qf Tryz.prog XA [N n] (· = ZaI (n + 1) (lPl n) (lTm n) (lBl n)) := by
  refine Qf.of_codeOf Zew Qz (by simp) ⟨_, rfl, by simp⟩ ?_
  have hwi : Q4 n 1 15 = true := by rw [Q5]; omega
  simp (disch := omega) [V5]
  refine Qa (Zfi _ _ _) (by simp) ?_
  simp (disch := omega) [hwi, Qd]
  refine Wy (n + 1) 0 (fun a t h => t 4 = N a ∧ h = [some [N 0, .sl true true 1 [], .sl true true 1 [], .sl true true 1 []], some [N (n + 1), OI (W1 (lPl n) (n + 1) a 0), OI (W1 (lTm n) (n + 1) a 0), OBl (W1 (lBl n) (n + 1) a 0)]])
    (fun t h => h = [some [N 0, .sl true true 1 [], .sl true true 1 [], .sl true true 1 []], some [N (n + 1), OI (W1 (lPl n) (n + 1) (n + 1) 0), OI (W1 (lTm n) (n + 1) (n + 1) 0), OBl (W1 (lBl n) (n + 1) (n + 1) 0)]]) (by simp [ZgN]) (by omega) ?_ ?_
  · rintro a t1 hh hf ha ⟨e4, rfl⟩
    (have e0 := hf 0 (by kernel_rfl); have e2 := hf 2 (by kernel_rfl); have e3 := hf 3 (by kernel_rfl); clear hf; simp [] at e0 e2 e3)
    simp (disch := omega) [e0, e2, e3, e4]
    (with_reducible first | refine Qn (fun h2 => ?_) (fun h2 => ?_) | refine Qm (fun h2 => ?_) (fun h2 => ?_))
    · simp only [Qi, Qg, Ql, Qj, Qe, Qc, Bool.not_true, Bool.not_false] at h2
      simp (disch := omega) [e0, e2, e3, e4]
      refine Wy (n + 1) 0 (fun b t h => t 5 = N b ∧ h = [some [N 0, .sl true true 1 [], .sl true true 1 [], .sl true true 1 []], some [N (n + 1), OI (W1 (lPl n) (n + 1) a b), OI (W1 (lTm n) (n + 1) a b), OBl (W1 (lBl n) (n + 1) a b)]])
        (fun t h => h = [some [N 0, .sl true true 1 [], .sl true true 1 [], .sl true true 1 []], some [N (n + 1), OI (W1 (lPl n) (n + 1) a (n + 1)), OI (W1 (lTm n) (n + 1) a (n + 1)), OBl (W1 (lBl n) (n + 1) a (n + 1))]]) (by simp) (by omega) ?_ ?_
      · rintro b t2 hh hf hb' ⟨f5, rfl⟩
        (have f0 := hf 0 (by kernel_rfl); have f2 := hf 2 (by kernel_rfl); have f3 := hf 3 (by kernel_rfl); have f4 := hf 4 (by kernel_rfl); clear hf; simp [e0, e2, e3, e4] at f0 f2 f3 f4)
        simp (disch := omega) [f0, f2, f3, f4, f5]
        (with_reducible first | refine Qn (fun h3 => ?_) (fun h3 => ?_) | refine Qm (fun h3 => ?_) (fun h3 => ?_))
        · simp only [Qi, Qg, Ql, Qj, Qe, Qc, Bool.not_true, Bool.not_false] at h3
          have xa := lX_rng (n := n) (a := a) (by omega)
          have xb := lX_rng (n := n) (a := b) (by omega)
          have hsm := Zgc (size := n + 1) (by omega) (a := a) (b := b) (by omega) (by omega)
          have a1 := Zlc (x := lPl n a b) (l := W1 (lPl n) (n + 1) a b) (by rw [Je]; exact hsm)
          have a2 := Zlc (x := lTm n a b) (l := W1 (lTm n) (n + 1) a b) (by rw [Je]; exact hsm)
          have a3 := app_B (x := lBl n a b) (l := W1 (lBl n) (n + 1) a b) (by rw [Je]; exact hsm)
          rw [← Vv] at a1 a2 a3
          have m1 := l1Max_ok (lX n a) (lX n b)
          have m2 := Za9 (lX n a) (lX n b)
          have hz : ¬ (n : Int) + 1 = 0 := by omega
          have q1 : ((n : Int) + 1 - a).tmod (n + 1) = lX n a := rfl
          have q2 : ((n : Int) + 1 - b).tmod (n + 1) = lX n b := rfl
          have q3 : ((n : Int) + 1 - max (lX n a) (lX n b)).tmod (n + 1) = lPl n a b := rfl
          have q4 : ((n : Int) + 1 - min (lX n a) (lX n b)).tmod (n + 1) = lTm n a b := rfl
          have q5 : leB (lX n a) (lX n b) = lBl n a b := rfl
          clear e0 e2 e3 e4
          simp (disch := omega) [f0, f2, f3, f4, f5, Qd, Js, hz, q1, q2]
          repeat' (first
    | with_reducible refine Qa (m1) (by simp) ?_
    | with_reducible refine Qa (m2) (by simp) ?_
    | (with_reducible (first | refine Qn (fun hb_ => ?_) (fun hb_ => ?_) | refine Qm (fun hb_ => ?_) (fun hb_ => ?_)) <;> simp (disch := omega) [hb_, f0, f2, f3, f4, f5, Qd, Js, hz, q1, q2, q3, q4, q5, a1, a2, a3])
    | simp (disch := omega) [f0, f2, f3, f4, f5, Qd, Js, hz, q1, q2, q3, q4, q5, a1, a2, a3])
          all_goals omega
        · simp only [Qi, Qg, Ql, Qj, Qe, Qc, Bool.not_true, Bool.not_false] at h3
          simp (disch := omega)
          rw [show b = n + 1 by omega]; simp
      · rintro t2 hh hf rfl
        (have f4 := hf 4 (by kernel_rfl); clear hf; simp [e4] at f4)
        simp (disch := omega) [f4, Ze4]
        exact ⟨by omega, Qd (by omega)⟩
    · simp only [Qi, Qg, Ql, Qj, Qe, Qc, Bool.not_true, Bool.not_false] at h2
      simp (disch := omega)
      rw [show a = n + 1 by omega]; simp
  · rintro t1 hh hf rfl
    (have e2 := hf 2 (by kernel_rfl); have e3 := hf 3 (by kernel_rfl); clear hf; simp [] at e2 e3)
    simp (disch := omega) [e2, e3]
def ZR (n g:Int):Int:=if g=0 then 0 else if g=1 then 1 else if g≤n+1 then (g - 1).tdiv n else g.tdiv n
def Yx (n g:Int):Int:=if g < 2 then g else if g≤n+1 then (g - 1).tmod n else g.tmod n
def pairI (n x y:Int):Int:=if x * n+y=0 then 0 else if x * n+y=n+1 then 1 else if x * n+y < n+1 then x * n+y+1 else x * n+y
theorem Zii {a n:Int} (h0:0≤a) (h1:a≤100000) (hn:0 < n):-9223372036854775808≤a.tdiv n∧a.tdiv n≤9223372036854775807:=by
 rw [Int.tdiv_eq_ediv_of_nonneg h0]
 have h2:=Int.ediv_nonneg h0 (Int.le_of_lt hn)
 have h3:=Int.ediv_le_self n h0
 omega
theorem ZjC (n g:Int) (hn:1≤n∧n≤100) (hg:0≤g∧g≤10000):Qf Tryz.prog J3 [N n,N g] (·=N (ZR n g)):=by
 refine Qf.of_codeOf ZiF Qz (by simp) ⟨_,rfl,by simp⟩ ?_
 have hz:¬ n=0:=by omega
 simp (disch:=omega) [ZcJ]
 repeat' (first
  | (with_reducible (first | refine Qn (fun hb_=>?_) (fun hb_=>?_) | refine Qm (fun hb_=>?_) (fun hb_=>?_))<;>simp (disch:=omega) [hb_,Qd,ZqH,hz])
  | simp (disch:=omega) [Qd,ZqH,hz])
 all_goals simp only [Qi,Qg,Ql,Qj,Qe,Qc,Bool.not_true,Bool.not_false] at *
 all_goals unfold ZR
 all_goals simp_all
 ·exact Qd (Zii (a:=g - 1) (n:=n) (by omega) (by omega) (by omega))
 ·rw [if_neg (by omega)];exact Qd (Zii (a:=g) (n:=n) (by omega) (by omega) (by omega))
theorem Zg8 (n g:Int) (hn:1≤n∧n≤100) (hg:0≤g∧g≤10000):Qf Tryz.prog Jm [N n,N g] (·=N (Yx n g)):=by
 refine Qf.of_codeOf Zhv Qz (by simp) ⟨_,rfl,by simp⟩ ?_
 have hz:¬ n=0:=by omega
 simp (disch:=omega) [Zb8]
 repeat' (first
  | (with_reducible (first | refine Qn (fun hb_=>?_) (fun hb_=>?_) | refine Qm (fun hb_=>?_) (fun hb_=>?_))<;>simp (disch:=omega) [hb_,Qd,Js,hz])
  | simp (disch:=omega) [Qd,Js,hz])
 all_goals simp only [Qi,Qg,Ql,Qj,Qe,Qc,Bool.not_true,Bool.not_false] at *
 all_goals unfold Yx
 all_goals (try simp_all)
 all_goals (repeat' split)
 all_goals (first | rfl | omega)
theorem Zk1 (n x y:Int) (hn:1≤n∧n≤100) (hx:0≤x∧x≤1000) (hy:0≤y∧y≤1000):Qf Tryz.prog Zw [N n,N x,N y] (·=N (pairI n x y)):=by
 refine Qf.of_codeOf ZkB Qz (by simp) ⟨_,rfl,by simp⟩ ?_
 have h0:0≤x * n:=Int.mul_nonneg (by omega) (by omega)
 have h1:x * n≤1000 * 100:=Int.le_trans (Int.mul_le_mul_of_nonneg_right (by omega) (by omega)) (Int.mul_le_mul_of_nonneg_left (by omega) (by omega))
 simp (disch:=omega) [Zd9,Qd]
 repeat' (first
  | (with_reducible (first | refine Qn (fun hb_=>?_) (fun hb_=>?_) | refine Qm (fun hb_=>?_) (fun hb_=>?_))<;>simp (disch:=omega) [hb_,Qd])
  | simp (disch:=omega) [Qd])
 all_goals simp only [Qi,Qg,Ql,Qj,Qe,Qc,Bool.not_true,Bool.not_false] at *
 all_goals unfold pairI
 all_goals (try simp_all)
 all_goals (repeat' split)
 all_goals (first | rfl | omega)
def tabG (size:Nat) (p t:Nat→Nat→Int) (b:Nat→Nat→Bool):GSys :=
 ⟨size,(W1 p size size 0).isEmpty,W1 p size size 0,(W1 t size size 0).isEmpty,W1 t size size 0,(W1 b size size 0).isEmpty,W1 b size size 0⟩
theorem Zrk (size:Nat) (p t:Nat→Nat→Int) (b:Nat→Nat→Bool):share (ZaI size p t b)=(tabG size p t b).lv:=by simp [ZaI,tabG]
theorem Zm5 (a b:GSys) (ha:a.wf) (hb:b.wf) (sa:a.sys=true) (sb:b.sys=true) (h16:a.size * b.size≤16):Qf Tryz.prog Kl [a.lv,b.lv] (·=B true):=by
 refine Qf.of_codeOf Zgk Qz (by simp) ⟨_,rfl,by simp⟩ ?_
 have s1:=Jp a ha
 have s2:=Jp b hb
 rw [sa] at s1
 rw [sb] at s2
 have ta:=GSys.sys_of sa
 have tb:=GSys.sys_of sb
 have p0:0≤a.size * b.size:=Int.mul_nonneg (by have:=ta.lo;omega) (by have:=tb.lo;omega)
 simp (disch:=omega) [ZaP,Qw,Qs]
 repeat' (first
  | with_reducible refine Qa (s1) (by simp) ?_
  | with_reducible refine Qa (s2) (by simp) ?_
  | (with_reducible (first | refine Qn (fun hb_=>?_) (fun hb_=>?_) | refine Qm (fun hb_=>?_) (fun hb_=>?_))<;>simp (disch:=omega) [hb_,Qd,Qs])
  | simp (disch:=omega) [Qd,Qs])
 all_goals simp_all [Ql]
def pPl (a b:GSys) (n:Nat) (g h:Nat):Int:=pairI n (a.pl (ZR n g) (ZR n h)) (b.pl (Yx n g) (Yx n h))
def pTm (a b:GSys) (n:Nat) (g h:Nat):Int:=pairI n (a.tm (ZR n g) (ZR n h)) (b.tm (Yx n g) (Yx n h))
def pBl (a b:GSys) (n:Nat) (g h:Nat):Bool:=a.le (ZR n g) (ZR n h) && b.le (Yx n g) (Yx n h)
theorem Zgl (a b : GSys) (ha : a.wf) (hb : b.wf) (sa : a.sys = true) (sb : b.sys = true) (m n : Nat) (em : a.size = m) (en : b.size = n) (h16 : m * n ≤ 16)
    (hG : ∀ g : Nat, g < m * n → (a.G (ZR n g) ∧ b.G (Yx n g))) : Qf Tryz.prog Ys [a.lv, b.lv] (· = .tup [ZaI (m * n) (pPl a b n) (pTm a b n) (pBl a b n), B true]) := by
  refine Qf.of_codeOf ZcU Qz (by simp) ⟨_, rfl, by simp⟩ ?_
  have ta := GSys.sys_of sa
  have tb := GSys.sys_of sb
  have hz : a.size * b.size = ((m * n : Nat) : Int) := by rw [em, en]; simp
  have hp := Zm5 a b ha hb sa sb (by rw [hz]; omega)
  have hn : 2 ≤ n ∧ n ≤ 16 := by have := tb.lo; have := tb.hi; omega
  have hz' : (m : Int) * n = ((m * n : Nat) : Int) := by simp
  obtain ⟨sz, hsz⟩ : ∃ sz, m * n = sz := ⟨_, rfl⟩
  rw [hsz] at hG hz hz' h16 ⊢
  simp (disch := omega) [K4, Qw, Qs]
  repeat' (first
    | with_reducible refine Qa (hp) (by simp) ?_
    | (with_reducible (first | refine Qn (fun hb_ => ?_) (fun hb_ => ?_) | refine Qm (fun hb_ => ?_) (fun hb_ => ?_)) <;> simp (disch := omega) [hb_, Qd, Qs, Qw])
    | simp (disch := omega) [Qd, Qs, Qw])
  simp (disch := omega) [em, en, hz', Qd]
  refine Wy sz 0 (fun a' t h => t 8 = N a' ∧ h = [none, none, some [N 0, .sl true true 1 [], .sl true true 1 [], .sl true true 1 []], some [N sz, OI (W1 (pPl a b n) sz a' 0), OI (W1 (pTm a b n) sz a' 0), OBl (W1 (pBl a b n) sz a' 0)]])
    (fun t h => h = [none, none, some [N 0, .sl true true 1 [], .sl true true 1 [], .sl true true 1 []], some [N sz, OI (W1 (pPl a b n) sz sz 0), OI (W1 (pTm a b n) sz sz 0), OBl (W1 (pBl a b n) sz sz 0)]]) (by simp [ZgN]) (by omega) ?_ ?_
  · rintro g t1 hh hf hg ⟨e8, rfl⟩
    (have e2 := hf 2 (by kernel_rfl); have e3 := hf 3 (by kernel_rfl); have e4 := hf 4 (by kernel_rfl); have e5 := hf 5 (by kernel_rfl); have e6 := hf 6 (by kernel_rfl); have e7 := hf 7 (by kernel_rfl); clear hf; simp [em, en] at e2 e3 e4 e5 e6 e7)
    simp (disch := omega) [e2, e3, e4, e5, e6, e7, e8]
    (with_reducible first | refine Qn (fun h2 => ?_) (fun h2 => ?_) | refine Qm (fun h2 => ?_) (fun h2 => ?_))
    · simp only [Qi, Qg, Ql, Qj, Qe, Qc, Bool.not_true, Bool.not_false] at h2
      simp (disch := omega) [e2, e3, e4, e5, e6, e7, e8]
      refine Wy sz 0 (fun k t h => t 9 = N k ∧ h = [none, none, some [N 0, .sl true true 1 [], .sl true true 1 [], .sl true true 1 []], some [N sz, OI (W1 (pPl a b n) sz g k), OI (W1 (pTm a b n) sz g k), OBl (W1 (pBl a b n) sz g k)]])
        (fun t h => h = [none, none, some [N 0, .sl true true 1 [], .sl true true 1 [], .sl true true 1 []], some [N sz, OI (W1 (pPl a b n) sz g sz), OI (W1 (pTm a b n) sz g sz), OBl (W1 (pBl a b n) sz g sz)]]) (by simp) (by omega) ?_ ?_
      · rintro k t2 hh hf hk ⟨f9, rfl⟩
        (have f2 := hf 2 (by kernel_rfl); have f3 := hf 3 (by kernel_rfl); have f4 := hf 4 (by kernel_rfl); have f5 := hf 5 (by kernel_rfl); have f6 := hf 6 (by kernel_rfl); have f7 := hf 7 (by kernel_rfl); have f8 := hf 8 (by kernel_rfl); clear hf; simp [e2, e3, e4, e5, e6, e7, e8] at f2 f3 f4 f5 f6 f7 f8)
        simp (disch := omega) [f2, f3, f4, f5, f6, f7, f8, f9]
        (with_reducible first | refine Qn (fun h3 => ?_) (fun h3 => ?_) | refine Qm (fun h3 => ?_) (fun h3 => ?_))
        · simp only [Qi, Qg, Ql, Qj, Qe, Qc, Bool.not_true, Bool.not_false] at h3
          obtain ⟨x1, y1⟩ := hG g (by omega)
          obtain ⟨x2, y2⟩ := hG k (by omega)
          have hsm := Zgc (size := sz) (by omega) (a := g) (b := k) (by omega) (by omega)
          have a1 := Zlc (x := pPl a b n g k) (l := W1 (pPl a b n) sz g k) (by rw [Je]; exact hsm)
          have a2 := Zlc (x := pTm a b n g k) (l := W1 (pTm a b n) sz g k) (by rw [Je]; exact hsm)
          have a3 := fun x => app_B (x := x) (l := W1 (pBl a b n) sz g k) (by rw [Je]; exact hsm)
          rw [← Vv] at a1 a2
          have c1 := ZjC n g (by omega) (by omega)
          have c2 := Zg8 n g (by omega) (by omega)
          have c3 := ZjC n k (by omega) (by omega)
          have c4 := Zg8 n k (by omega) (by omega)
          have rng : ∀ {s : GSys}, s.Tab → ∀ z, s.G z → 0 ≤ z ∧ z ≤ 1000 := fun ts z hz => ⟨hz.1, by have := hz.2; have := ts.hi; omega⟩
          have d1 := ZaY ta x1 x2
          have d2 := ZaY tb y1 y2
          have d3 := Zba ta x1 x2
          have d4 := Zba tb y1 y2
          have d5 := XW ta x1 x2
          have d6 := XW tb y1 y2
          have p1 : Qf Tryz.prog Zw [N n, N (a.pl (ZR n g) (ZR n k)), N (b.pl (Yx n g) (Yx n k))] (· = N (pPl a b n g k)) := Zk1 n _ _ (by omega) (rng ta _ (GSys.Gpl ta _ _)) (rng tb _ (GSys.Gpl tb _ _))
          have p2 : Qf Tryz.prog Zw [N n, N (a.tm (ZR n g) (ZR n k)), N (b.tm (Yx n g) (Yx n k))] (· = N (pTm a b n g k)) := Zk1 n _ _ (by omega) (rng ta _ (GSys.Gtm ta _ _)) (rng tb _ (GSys.Gtm tb _ _))
          have hB : (a.le (ZR n g) (ZR n k) && b.le (Yx n g) (Yx n k)) = pBl a b n g k := rfl
          clear e2 e3 e4 e5 e6 e7 e8
          repeat' (first
    | with_reducible refine Qa (c1) (by simp) ?_
    | with_reducible refine Qa (c2) (by simp) ?_
    | with_reducible refine Qa (c3) (by simp) ?_
    | with_reducible refine Qa (c4) (by simp) ?_
    | with_reducible refine Qa (d1) (by simp) ?_
    | with_reducible refine Qa (d2) (by simp) ?_
    | with_reducible refine Qa (d3) (by simp) ?_
    | with_reducible refine Qa (d4) (by simp) ?_
    | with_reducible refine Qa (d5) (by simp) ?_
    | with_reducible refine Qa (d6) (by simp) ?_
    | with_reducible refine Qa (p1) (by simp) ?_
    | with_reducible refine Qa (p2) (by simp) ?_
    | (with_reducible (first | refine Qn (fun hb_ => ?_) (fun hb_ => ?_) | refine Qm (fun hb_ => ?_) (fun hb_ => ?_)) <;> simp (disch := omega) [hb_, f2, f3, f4, f5, f6, f7, f8, f9, Qd, a1, a2, a3])
    | simp (disch := omega) [f2, f3, f4, f5, f6, f7, f8, f9, Qd, a1, a2, a3])
          all_goals clear f2 f3 f4 f5 f6 f7 f8 f9 a1 a2 a3 c1 c2 c3 c4 d1 d2 d3 d4 d5 d6 p1 p2
          all_goals refine ⟨by omega, ?_⟩
          all_goals rw [Vv]
          all_goals simp_all [pBl]
        · simp only [Qi, Qg, Ql, Qj, Qe, Qc, Bool.not_true, Bool.not_false] at h3
          simp (disch := omega)
          rw [show k = sz by omega]; simp
      · rintro t2 hh hf rfl
        (have f8 := hf 8 (by kernel_rfl); clear hf; simp [e8] at f8)
        simp (disch := omega) [f8, Ze4]
        exact ⟨by omega, Qd (by omega)⟩
    · simp only [Qi, Qg, Ql, Qj, Qe, Qc, Bool.not_true, Bool.not_false] at h2
      simp (disch := omega)
      rw [show g = sz by omega]; simp
  · rintro t1 hh hf rfl
    (have e4 := hf 4 (by kernel_rfl); have e5 := hf 5 (by kernel_rfl); have e7 := hf 7 (by kernel_rfl); clear hf; simp [] at e4 e5 e7)
    simp (disch := omega) [e4, e5, e7]
set_option maxRecDepth 100000
inductive DS where
 | count (n:Nat) | bound (n:Nat) | level (n:Nat) | prod (n:Nat)
def DS.ok:DS→Bool
 | .count n=>decide (1≤n) && decide (n≤3)
 | .bound n=>decide (1≤n) && decide (n≤3)
 | .level n=>decide (1≤n) && decide (n≤3)
 | .prod n=>decide (1≤n) && decide (n≤2)
def Kt (n:Nat) (bound:Bool):GSys:=tabG (n+2) (nPl n) (nTm n) (nBl n bound)
def Zc3 (n:Nat):GSys:=tabG (n+1) (lPl n) (lTm n) (lBl n)
def Zlj (n:Nat):GSys:=tabG (3 * (n+1)) (pPl (Kt 1 false) (Zc3 n) (n+1)) (pTm (Kt 1 false) (Zc3 n) (n+1)) (pBl (Kt 1 false) (Zc3 n) (n+1))
def DS.sys:DS→GSys
 | .count n=>Kt n false
 | .bound n=>Kt n true
 | .level n=>Zc3 n
 | .prod n=>Zlj n
def DS.lv:DS→LV
 | .count n=>ZaI (n+2) (nPl n) (nTm n) (nBl n false)
 | .bound n=>ZaI (n+2) (nPl n) (nTm n) (nBl n true)
 | .level n=>ZaI (n+1) (lPl n) (lTm n) (lBl n)
 | .prod n=>ZaI (3 * (n+1)) (pPl (Kt 1 false) (Zc3 n) (n+1)) (pTm (Kt 1 false) (Zc3 n) (n+1)) (pBl (Kt 1 false) (Zc3 n) (n+1))
theorem DS.share (d:DS):share d.lv=d.sys.lv:=by
 cases d<;>simp only [DS.lv,DS.sys,Kt,Zc3,Zlj,Zrk]
theorem Zmk:(Kt 1 false).sys=true∧(Kt 2 false).sys=true∧(Kt 3 false).sys=true:=by decide +kernel
theorem ZmY:(Kt 1 true).sys=true∧(Kt 2 true).sys=true∧(Kt 3 true).sys=true:=by decide +kernel
theorem ZlK:(Zc3 1).sys=true∧(Zc3 2).sys=true∧(Zc3 3).sys=true:=by decide +kernel
theorem ZoJ:(Zlj 1).sys=true∧(Zlj 2).sys=true:=by decide +kernel
def GSys.wfB (s:GSys):Bool:=decide (s.size≤100) && decide (0≤s.size) && decide (s.plus.length≤10000) && decide (s.times.length≤10000) && decide (s.below.length≤10000) && s.plus.all (fun n=>decide (0≤n) && decide (n≤100)) && s.times.all (fun n=>decide (0≤n) && decide (n≤100))
theorem GSys.wf_B {s:GSys} (h:s.wfB=true):s.wf:=by
 simp only [GSys.wfB,Bool.and_eq_true,decide_eq_true_eq,List.all_eq_true] at h
 obtain ⟨⟨⟨⟨⟨⟨h1,h2⟩,h3⟩,h4⟩,h5⟩,h6⟩,h7⟩:=h
 exact ⟨by unfold I64;omega,by omega,by omega,by omega,fun n hn=>by have:=h6 n hn;unfold I64;omega,fun n hn=>by have:=h7 n hn;unfold I64;omega⟩
theorem ZgP:(Kt 1 false).wfB=true∧(Kt 2 false).wfB=true∧(Kt 3 false).wfB=true∧(Kt 1 true).wfB=true∧(Kt 2 true).wfB=true∧(Kt 3 true).wfB=true:=by decide +kernel
theorem Zh7:(Zc3 1).wfB=true∧(Zc3 2).wfB=true∧(Zc3 3).wfB=true∧(Zlj 1).wfB=true∧(Zlj 2).wfB=true:=by decide +kernel
theorem DS.sound (d:DS) (h:d.ok=true):d.sys.sys=true∧d.sys.wf:=by
 have key:∀ n,1≤n→n≤3→n=1∨n=2∨n=3:=fun n _ _=>by omega
 cases d with
 | count n =>
  simp only [DS.ok,Bool.and_eq_true,decide_eq_true_eq] at h
  rcases key n h.1 h.2 with rfl | rfl | rfl
  ·exact ⟨Zmk.1,GSys.wf_B ZgP.1⟩
  ·exact ⟨Zmk.2.1,GSys.wf_B ZgP.2.1⟩
  ·exact ⟨Zmk.2.2,GSys.wf_B ZgP.2.2.1⟩
 | bound n =>
  simp only [DS.ok,Bool.and_eq_true,decide_eq_true_eq] at h
  rcases key n h.1 h.2 with rfl | rfl | rfl
  ·exact ⟨ZmY.1,GSys.wf_B ZgP.2.2.2.1⟩
  ·exact ⟨ZmY.2.1,GSys.wf_B ZgP.2.2.2.2.1⟩
  ·exact ⟨ZmY.2.2,GSys.wf_B ZgP.2.2.2.2.2⟩
 | level n =>
  simp only [DS.ok,Bool.and_eq_true,decide_eq_true_eq] at h
  rcases key n h.1 h.2 with rfl | rfl | rfl
  ·exact ⟨ZlK.1,GSys.wf_B Zh7.1⟩
  ·exact ⟨ZlK.2.1,GSys.wf_B Zh7.2.1⟩
  ·exact ⟨ZlK.2.2,GSys.wf_B Zh7.2.2.1⟩
 | prod n =>
  simp only [DS.ok,Bool.and_eq_true,decide_eq_true_eq] at h
  rcases (show n=1∨n=2 by omega) with rfl | rfl
  ·exact ⟨ZoJ.1,GSys.wf_B Zh7.2.2.2.1⟩
  ·exact ⟨ZoJ.2,GSys.wf_B Zh7.2.2.2.2⟩
theorem Zix (n:Nat) (h1:1≤n) (hn:n≤14):Qf Tryz.prog Zj [N n] (·=ZaI (n+2) (nPl n) (nTm n) (nBl n true)):=by
 refine Qf.of_codeOf Zem Qz (by simp) ⟨_,rfl,by simp⟩ ?_
 have h:=ZfH n h1 hn true
 simp (disch:=omega) [VR]
 repeat' (first
  | with_reducible refine Qa (h) (by simp) ?_
  | (with_reducible (first | refine Qn (fun hb_=>?_) (fun hb_=>?_) | refine Qm (fun hb_=>?_) (fun hb_=>?_))<;>simp (disch:=omega) [hb_])
  | simp (disch:=omega))
 all_goals simp
theorem VQ (n:Nat) (h1:1≤n) (hn:n≤14):Qf Tryz.prog XC [N n] (·=ZaI (n+2) (nPl n) (nTm n) (nBl n false)):=by
 refine Qf.of_codeOf ZeX Qz (by simp) ⟨_,rfl,by simp⟩ ?_
 have h:=ZfH n h1 hn false
 simp (disch:=omega) [VV]
 repeat' (first
  | with_reducible refine Qa (h) (by simp) ?_
  | (with_reducible (first | refine Qn (fun hb_=>?_) (fun hb_=>?_) | refine Qm (fun hb_=>?_) (fun hb_=>?_))<;>simp (disch:=omega) [hb_])
  | simp (disch:=omega))
 all_goals simp
def Zmd (n:Nat):Bool:=(List.range (3 * (n+1))).all fun g=>decide (0≤ZR (n+1) g) && decide (ZR (n+1) g < 3) && decide (0≤Yx (n+1) g) && decide (Yx (n+1) g < n+1)
theorem Zlm:Zmd 1=true∧Zmd 2=true:=by decide +kernel
theorem ZpK (n:Nat) (h1:1≤n) (hn:n≤2):Qf Tryz.prog Ys [(Kt 1 false).lv,(Zc3 n).lv] (·=.tup [(DS.prod n).lv,B true]):=by
 have hp:Zmd n=true:=by
  rcases (show n=1∨n=2 by omega) with rfl | rfl
  ·exact Zlm.1
  ·exact Zlm.2
 have q1:=DS.sound (.count 1) rfl
 have q2:=DS.sound (.level n) (by simp [DS.ok];omega)
 refine Zgl (Kt 1 false) (Zc3 n) q1.2 q2.2 q1.1 q2.1 3 (n+1) rfl rfl (by omega) fun g hg=>?_
 simp only [Zmd,List.all_eq_true,List.mem_range,Bool.and_eq_true,decide_eq_true_eq] at hp
 have:=hp g hg
 refine ⟨⟨this.1.1.1,this.1.1.2⟩,this.1.2,?_⟩
 show _ < ((n+1:Nat):Int)
 simpa using this.2
section
variable (D:Dr) (ok:D.ok)
include ok
theorem ZjA:Q0 Tryz.prog D JU [] (fun r=>∃ d:DS,d.ok=true∧r=d.lv):=by
 refine Q0.of_codeOf Zh3 Qz (by simp) ⟨_,.count 1,rfl,rfl⟩ ?_
 intro h1 h3 ct i k hct hk
 simp (disch:=omega) [Zc4]
 refine Qp (Wn D ok 3 (by unfold I64;omega)) hct hk ?_
 rintro r i1 k1 hk1 ⟨m,rfl,hm0,hm1,_⟩
 have hm:=hm1 (by omega)
 obtain ⟨n,rfl⟩:∃ n:Nat,m=n:=⟨m.toNat,by omega⟩
 have e1:(1:Int)+n=((n+1:Nat):Int):=by simp;omega
 have w1:Qf Tryz.prog Zj [N (1+n)] (·=(DS.bound (n+1)).lv):=by rw [e1];exact Zix (n+1) (by omega) (by omega)
 have w2:Qf Tryz.prog XC [N (1+n)] (·=(DS.count (n+1)).lv):=by rw [e1];exact VQ (n+1) (by omega) (by omega)
 have w3:Qf Tryz.prog XA [N (1+n)] (·=(DS.level (n+1)).lv):=by rw [e1];exact ZcC (n+1) (by omega) (by omega)
 have w4:Qf Tryz.prog XC [N 1] (·=(DS.count 1).lv):=VQ 1 (by omega) (by omega)
 have cells:∀ d:DS,∃ a b c e,d.lv=.agg [a,b,c,e]∧a.alive=true∧b.alive=true∧c.alive=true∧e.alive=true∧Low 0 d.lv:=fun d=>by
  cases d<;>exact ⟨_,_,_,_,rfl,rfl,rfl,rfl,rfl,by simp [DS.lv]⟩
 simp (disch:=omega) [Qd]
 obtain ⟨a1,a2,a3,a4,ea,al1,al2,al3,al4,la⟩:=cells (.bound (n+1))
 rw [ea] at w1
 refine Qa w1 (by rw [← ea] at *;simp) ?_
 simp (disch:=omega) [Qd]
 refine Qp (Wn D ok 8 (by unfold I64;omega)) hct hk1 ?_
 rintro r i2 k2 hk2 ⟨m,rfl,_⟩
 simp (disch:=omega) [Qd]
 obtain ⟨b1,b2,b3,b4,eb,bl1,bl2,bl3,bl4,lb⟩:=cells (.count (n+1))
 obtain ⟨c1,c2,c3,c4,ec,cl1,cl2,cl3,cl4,lc⟩:=cells (.level (n+1))
 have okn:∀ d:DS,(d=.bound (n+1)∨d=.count (n+1)∨d=.level (n+1))→d.ok=true:=by
  rintro d (rfl | rfl | rfl)<;>(simp [DS.ok];omega)
 rw [eb] at w2
 rw [ec] at w3
 have fin:∀ (x1 x2 x3 x4:LV) (d:DS),d.ok=true→d.lv=.agg [x1,x2,x3,x4]→∀ (e:Exit) (s:St) (i' k':Int) (z:List LV),z.length=4→e=.ret→s.t 2=.ptr (h1.length+(h3.length+1)) 0→WR D i' k' →
   s.h=h1++some [ct,N i',N k']::(h3++[some [x1,x2,x3,x4],some z])→ZfV D [.cell 2 true 4] h1 h3 ct (fun r=>∃ d:DS,d.ok=true∧r=d.lv) e s:=by
  intro x1 x2 x3 x4 d hd hl e s i' k' z hz he ht hk hh
  obtain ⟨y1,y2,y3,y4,ey,_,_,_,_,ly⟩:=cells d
  exact Zim (j:=0) (.inr he) ht hh (by omega) rfl rfl rfl hk (by rw [← hl];exact ly) ⟨d,hd,hl.symm⟩
 repeat' (first
  | with_reducible refine Qa (w2) (by simp) ?_
  | with_reducible refine Qa (w3) (by simp) ?_
  | with_reducible refine Qa (w4) (by simp) ?_
  | (with_reducible (first | refine Qn (fun hb_=>?_) (fun hb_=>?_) | refine Qm (fun hb_=>?_) (fun hb_=>?_))<;>simp (disch:=omega) [hb_,Qd,al1,al2,al3,al4,bl1,bl2,bl3,bl4,cl1,cl2,cl3,cl4])
  | simp (disch:=omega) [Qd,al1,al2,al3,al4,bl1,bl2,bl3,bl4,cl1,cl2,cl3,cl4])
 any_goals (first
  | exact fin _ _ _ _ _ (okn _ (.inr (.inl rfl))) eb _ _ _ _ _ rfl rfl rfl hk2 rfl
  | exact fin _ _ _ _ _ (okn _ (.inr (.inr rfl))) ec _ _ _ _ _ rfl rfl rfl hk2 rfl
  | exact fin _ _ _ _ _ (okn _ (.inl rfl)) ea _ _ _ _ _ rfl rfl rfl hk2 rfl)
 refine Qp (Wn D ok 2 (by unfold I64;omega)) hct hk2 ?_
 rintro r i3 k3 hk3 ⟨m3,rfl,hn0,hn1,_⟩
 have hm3:=hn1 (by omega)
 obtain ⟨n3,rfl⟩:∃ n:Nat,m3=n:=⟨m3.toNat,by omega⟩
 have v3:Qf Tryz.prog XA [N (1+n3)] (·=(DS.level (n3+1)).lv):=by rw [show (1:Int)+n3=((n3+1:Nat):Int) by simp;omega];exact ZcC (n3+1) (by omega) (by omega)
 obtain ⟨d1,d2,d3,d4,ed,dl1,dl2,dl3,dl4,ld⟩:=cells (.level (n3+1))
 obtain ⟨f1,f2,f3,f4,ef,fl1,fl2,fl3,fl4,lf⟩:=cells (.count 1)
 obtain ⟨g1,g2,g3,g4,eg,gl1,gl2,gl3,gl4,lg⟩:=cells (.prod (n3+1))
 have v4:=ZpK (n3+1) (by omega) (by omega)
 have sd:=DS.share (.level (n3+1))
 have sf:=DS.share (.count 1)
 rw [ed,show (DS.level (n3+1)).sys=Zc3 (n3+1) from rfl] at sd
 rw [ef,show (DS.count 1).sys=Kt 1 false from rfl] at sf
 rw [← sf,← sd,eg] at v4
 rw [ed] at v3
 have la:∀ (d:DS) {x1 x2 x3 x4:LV},d.lv=.agg [x1,x2,x3,x4]→Low 0 (share (.agg [x1,x2,x3,x4])):=fun d x1 x2 x3 x4 he=>by rw [← he,DS.share];simp
 have lsd:=la _ ed
 have lsf:=la _ ef
 simp only [ZrR,ZjY,Znh,Zra,Zao,ZbM] at v4 lsd lsf
 simp (disch:=omega) [Qd]
 refine Qa v3 (by simp) ?_
 simp (disch:=omega) [Qd]
 rw [show share (DS.count 1).lv=.agg [share f1,share f2,share f3,share f4] by rw [ef];simp]
 refine Qa v4 (by simp only [Zao,Zra,ZbM];exact ⟨lsf,lsd,trivial⟩) ?_
 simp (disch:=omega) [Qd,gl1,gl2,gl3,gl4]
 exact fin _ _ _ _ (.prod (n3+1)) (by simp [DS.ok];omega) eg _ _ _ _ _ rfl rfl rfl hk3 rfl
end
end Go.Proofs.YthdkhhebanogbaaGreat
namespace Go.Proofs.YthdkhhebanogbaaGreat.Ty
inductive RT where
 | nd (c:Int) (ks:List RT)
mutual
def RT.flat:RT→List Int
 | .nd c ks=>c::WP ks
def WP:List RT→List Int
 | []=>[]
 | t::ts=>t.flat++WP ts
end
mutual
def RT.ok:RT→Prop
 | .nd c ks=>WD c=some ks.length∧oks ks
def oks:List RT→Prop
 | []=>True
 | t::ts=>t.ok∧oks ts
end
theorem ZhN:∀ {ts:List RT},oks ts ↔ ∀ t∈ts,t.ok
 | []=>by simp [oks]
 | t::ts=>by simp [oks,ZhN (ts:=ts)]
theorem Kg:∀ (ts us:List RT),WP (ts++us)=WP ts++WP us
 | [],us=>by simp [WP]
 | t::ts,us=>by simp [WP,Kg ts us]
theorem parse:∀ (l:List Int) (n:Nat) (r:List Int),Ty.skip n l=some r→∃ ts:List RT,ts.length=n∧oks ts∧l=WP ts++r
 | l,0,r,h=>by simp [Ty.skip] at h;exact ⟨[],rfl,by simp [oks],by simp [WP,h]⟩
 | [],n+1,r,h=>by simp [Ty.skip] at h
 | c::l,n+1,r,h=>by
  simp only [Ty.skip] at h
  cases hk:WD c with
  | none=>simp [hk] at h
  | some k =>
   simp only [hk] at h
   obtain ⟨ts,h1,h2,h3⟩:=parse l (n+k) r h
   refine ⟨.nd c (ts.take k)::ts.drop k,by simp;omega,?_,?_⟩
   ·rw [ZhN] at h2
    simp only [oks,RT.ok,ZhN,hk]
    refine ⟨⟨by simp;omega,fun t ht=>h2 t (List.mem_of_mem_take ht)⟩,fun t ht=>h2 t (List.mem_of_mem_drop ht)⟩
   ·rw [h3]
    simp only [WP,RT.flat,List.cons_append]
    rw [← Kg,List.take_append_drop]
mutual
theorem RT.skip_flat:∀ (t:RT) (r:List Int),t.ok→Ty.skip 1 (t.flat++r)=some r
 | .nd c ks,r,h=>by
  simp only [RT.ok] at h
  simp only [RT.flat,List.cons_append,Ty.skip,h.1]
  rw [Nat.zero_add]
  exact Zi5 ks r h.2
theorem Zi5:∀ (ts:List RT) (r:List Int),oks ts→Ty.skip ts.length (WP ts++r)=some r
 | [],r,_=>by simp [WP,Ty.skip]
 | t::ts,r,h=>by
  simp only [oks] at h
  simp only [WP,List.append_assoc,List.length_cons]
  rw [Nat.add_comm,Zjb,RT.skip_flat t _ h.1]
  exact Zi5 ts r h.2
end
theorem RT.flat_pos (t:RT):0 < t.flat.length:=by cases t;simp [RT.flat]
theorem ZnH {l:List Int} (h:wty l=true):∃ t:RT,t.ok∧l=t.flat∧l.length≤40:=by
 simp [wty] at h
 obtain ⟨⟨h1,h2⟩,h3⟩:=h
 obtain ⟨ts,g1,g2,g3⟩:=parse l 1 [] h3
 match ts,g1 with
 | [t],_ =>
  simp only [oks] at g2
  exact ⟨t,g2.1,by simpa [WP] using g3,h2⟩
theorem tree_wty {t:RT} (h:t.ok) (hl:t.flat.length≤40):wty t.flat=true:=by
 have:=RT.skip_flat t [] h
 rw [List.append_nil] at this
 have:=t.flat_pos
 simp [wty, *];omega
theorem Zey {t:RT} (h:t.ok) (r:List Int) (len:Nat):KK 1 (t.flat++r) len=(len:Int) - r.length:=by
 unfold KK
 rw [RT.skip_flat t r h]
end Go.Proofs.YthdkhhebanogbaaGreat.Ty
namespace Go.Proofs.YthdkhhebanogbaaGreat
open Go Go.TL
open Go.Proofs.YthdkhhebanogbaaGreat.Ty
set_option linter.unusedSimpArgs false
set_option linter.unusedVariables false
set_option linter.unusedSectionVars false
set_option maxRecDepth 20000
set_option maxHeartbeats 4000000
theorem Zfj {l r:List Int} {u nl:Bool} (h:l.length+r.length≤1099511627776):WS 1 (OU true false l) (OU u nl r)=some (OU true false (l++r)):=by
 simp only [WS]
 rw [if_pos ⟨.inl trivial,.inl trivial,.inl trivial,by simp only [List.length_map];exact h⟩]
 simp only [Bool.true_or,Bool.false_and]
 rw [OU,List.map_append]
def Vo (c:Int) (ctx:Wz) (k:Nat):List Int:=c::((ctx.take k).map (·.2)).flatten
theorem ZpZ (c:Int) (ctx:Wz) (k:Nat) (h:k < ctx.length):Vo c ctx (k+1)=Vo c ctx k++ctx[k].2:=by
 rw [Vo,Vo,List.take_succ_eq_append_getElem h,List.map_append,List.flatten_append,List.cons_append]
 simp only [List.map_cons,List.map_nil,List.flatten_cons,List.flatten_nil,List.append_nil]
theorem Zrg (c:Int) (ctx:Wz) (k:Nat) (h:k≤ctx.length):(Vo c ctx k).length≤1+cws ctx:=by
 have key:∀ (ctx:Wz),((ctx.map (·.2)).flatten).length=cws ctx:=by
  intro ctx
  induction ctx with
  | nil=>simp [cws]
  | cons a l ih=>simp [cws,ih]
 have h2:∀ (ctx:Wz) (k:Nat),cws (ctx.take k)≤cws ctx:=by
  intro ctx
  induction ctx with
  | nil=>intro k;simp
  | cons a l ih=>intro k;cases k with
   | zero=>simp [cws]
   | succ k=>simp [cws];exact ih k
 simp only [Vo,List.length_cons,key]
 have:=h2 ctx k
 omega
theorem Zlo (c:Int) (nl:Bool) (ctx:Wz) (hw:ctx.length≤1000000) (hl:cws ctx≤1000000000):Qf Tryz.prog Wj [N c,LC nl ctx] (·=OU true false (c::(ctx.map (·.2)).flatten)):=by
 obtain ⟨z,hz⟩:∃ z,c::(ctx.map (·.2)).flatten=z:=⟨_,rfl⟩
 rw [hz]
 refine Qf.of_codeOf ZjV Qz (by simp) ⟨_,rfl,by simp⟩ ?_
 simp (disch:=omega) [Zea]
 refine Wy ctx.length 0 (fun i t _=>t 6=N i∧t 5=OU true false (Vo c ctx i)) (fun t _=>t 5=OU true false z) (by simp [Vo]) (by omega) ?_ ?_
 ·rintro i t1 hh hf hi ⟨e6,e5⟩
  (have e1:=hf 1 (by kernel_rfl);clear hf;simp [] at e1)
  simp (disch:=omega) [e1,e5,e6]
  (with_reducible first | refine Qn (fun h1=>?_) (fun h1=>?_) | refine Qm (fun h1=>?_) (fun h1=>?_))
  ·simp only [Qi,Qg,Ql,Qj,Qe,Qc,Bool.not_true,Bool.not_false] at h1
   simp (disch:=omega) [e1,e5,e6,Zcj]
   have hm:=Zq1 (List.getElem_mem (show i < ctx.length by omega))
   have hg:=Zrg c ctx i (by omega)
   rw [Zfj (by omega),← ZpZ c ctx i (by omega)]
   simp (disch:=omega) [e1,e5,e6,Qd]
   omega
  ·simp only [Qi,Qg,Ql,Qj,Qe,Qc,Bool.not_true,Bool.not_false] at h1
   simp (disch:=omega) [e5]
   rw [show i=ctx.length by omega,← hz];simp [Vo]
 ·rintro t1 hh hf e5
  simp (disch:=omega) [e5]
theorem Zbq (c:Int) (nl n1:Bool) (a:List Int) (hl:a.length≤100000):Qf Tryz.prog Wj [N c,.sl false nl 1 [[L n1 a]]] (·=OU true false (c::a)):=by
 have:=Zlo c nl [(n1,a)] (by simp) (by simp [cws];omega)
 simp only [List.map_cons,List.map_nil,List.flatten_cons,List.flatten_nil,List.append_nil] at this
 exact this
theorem XT (c:Int) (nl n1 n2:Bool) (a b:List Int) (ha:a.length≤100000) (hb:b.length≤100000):Qf Tryz.prog Wj [N c,.sl false nl 1 [[L n1 a],[L n2 b]]] (·=OU true false (c::(a++b))):=by
 have:=Zlo c nl [(n1,a),(n2,b)] (by simp) (by simp [cws];omega)
 simp only [List.map_cons,List.map_nil,List.flatten_cons,List.flatten_nil,List.append_nil] at this
 exact this
mutual
def RT.gr (size:Int) (data:Bool):RT→Prop
 | .nd c ks=>okC size true c=true∧(data=true→QP c=false)∧grs size data ks
def grs (size:Int) (data:Bool):List RT→Prop
 | []=>True
 | t::ts=>RT.gr size data t∧grs size data ts
end
def Zi1 (size:Int) (data:Bool) (n:Nat) (l:List Int):Prop:=∃ t:RT,t.ok∧RT.gr size data t∧l=t.flat∧l.length≤n
theorem Zrm {size g:Int} (h0:0≤g) (h1:g < size) (h2:size≤16):WD (3+g)=some 2∧okC size true (3+g)=true∧QP (3+g)=true:=by
 have ha:QP (3+g)=true:=by simp [QP];omega
 have hk:WD (3+g)=some 2:=by unfold WD;rw [if_neg (by omega),if_pos (.inr (.inr ha))]
 have hg:Xc (3+g)=g:=by unfold Xc;rw [if_neg (by omega),if_neg (by omega)];omega
 refine ⟨hk,?_,ha⟩
 simp [okC,hg,ltB,leB,h1,h0]
theorem okC_box {size g:Int} (h0:0≤g) (h1:g < size) (h2:size≤16):WD (19+g)=some 1∧okC size true (19+g)=true∧QP (19+g)=false:=by
 have ha:QP (19+g)=false:=by simp [QP];omega
 have hb:W9 (19+g)=true:=by simp [W9];omega
 have hk:WD (19+g)=some 1:=by unfold WD;rw [if_neg (by omega),if_neg (by rintro (h | h | h);omega;omega;rw [ha] at h;simp at h),if_pos hb]
 have hg:Xc (19+g)=g:=by unfold Xc;rw [if_neg (by omega),if_pos (by omega)];omega
 refine ⟨hk,?_,ha⟩
 simp [okC,hg,ltB,leB,h1,h0]
theorem ZfA {size:Int} {data:Bool} {n:Nat} (hn:1≤n):Zi1 size data n [0] :=
 ⟨.nd 0 [],by simp [RT.ok,WD,oks],by simp [RT.gr,grs,okC,QP,W9],by simp [RT.flat,WP],by simpa using hn⟩
theorem tyIn_one {size c:Int} {data:Bool} {n m:Nat} {a:List Int} (ha:Zi1 size data n a) (hk:WD c=some 1) (ho:okC size true c=true) (hd:data=true→QP c=false) (hm:n+1≤m):Zi1 size data m (c::a):=by
 obtain ⟨t,h1,h2,rfl,h4⟩:=ha
 exact ⟨.nd c [t],by simp [RT.ok,oks,hk,h1],by simp only [RT.gr,grs];exact ⟨ho,hd,h2,trivial⟩,by simp [RT.flat,WP],by simp;omega⟩
theorem Zh1 {size c:Int} {data:Bool} {n k m:Nat} {a b:List Int} (ha:Zi1 size data n a) (hb:Zi1 size data k b) (hk:WD c=some 2) (ho:okC size true c=true) (hd:data=true→QP c=false) (hm:n+k+1≤m):Zi1 size data m (c::(a++b)):=by
 obtain ⟨t,h1,h2,rfl,h4⟩:=ha
 obtain ⟨u,g1,g2,rfl,g4⟩:=hb
 exact ⟨.nd c [t,u],by simp [RT.ok,oks,hk,h1,g1],by simp only [RT.gr,grs];exact ⟨ho,hd,h2,g2,trivial⟩,by simp [RT.flat,WP],by simp;omega⟩
theorem kids12:WD 1=some 2∧WD 2=some 2:=by decide
theorem okC12 (size:Int):okC size true 1=true∧okC size true 2=true∧QP 1=false∧QP 2=false:=by simp [okC,QP,W9]
section
variable (D:Dr) (ok:D.ok)
include ok
theorem Jd (s : GSys) (hs : 1 ≤ s.size ∧ s.size ≤ 16) (data : Bool) : ∀ deep : Nat, deep ≤ 12 → Q0 Tryz.prog D WB [s.lv, N deep, B data] (fun r => ∃ l, r = OU true false l ∧ Zi1 s.size data (2 ^ (deep + 1) - 1) l) := by
  intro deep
  induction deep with
  | zero =>
    intro _
    refine Q0.of_codeOf Vm Qz (by simp) ⟨_, [0], rfl, ZfA (by simp)⟩ ?_
    intro h1 h3 ct i k hct hk
    simp (disch := omega) [J7, Qw, Qs]
    refine Qp (Wn D ok 6 (by unfold I64; omega)) hct hk ?_
    rintro r i1 k1 hk1 ⟨m, rfl, hm0, hm1, _⟩
    repeat' (first
    | (with_reducible (first | refine Qn (fun hb_ => ?_) (fun hb_ => ?_) | refine Qm (fun hb_ => ?_) (fun hb_ => ?_)) <;> simp (disch := omega) [hb_, Qd])
    | simp (disch := omega) [Qd])
    all_goals (first | refine Wb (.inr rfl) rfl ?_ (by simp) ?_ | refine QQ (.inr rfl) rfl ?_ (by simp) ?_)
    all_goals first | exact hk1 | exact ⟨[0], by simp, ZfA (by simp)⟩
  | succ deep ih =>
    intro hd
    have ih := ih (by omega)
    have hp : 1 ≤ 2 ^ (deep + 1) := Nat.one_le_two_pow
    have hp2 : 2 ^ (deep + 1 + 1) = 2 * 2 ^ (deep + 1) := by rw [Nat.pow_succ]; omega
    have hp3 : 2 ^ (deep + 1) ≤ 2 ^ 13 := Nat.pow_le_pow_right (by omega) (by omega)
    refine Q0.of_codeOf Vm Qz (by simp) ⟨_, [0], rfl, ZfA (by omega)⟩ ?_
    intro h1 h3 ct i k hct hk
    have hsI : I64 s.size := by unfold I64; omega
    have glen : ∀ {l : List Int}, Zi1 s.size data (2 ^ (deep + 1) - 1) l → l.length ≤ 100000 := fun h => by obtain ⟨_, _, _, _, h⟩ := h; omega
    have num : ∃ l, OU true false [0] = OU true false l ∧ Zi1 s.size data (2 ^ (deep + 1 + 1) - 1) l := ⟨[0], rfl, ZfA (by omega)⟩
    simp (disch := omega) [J7, Qw, Qs]
    refine Qp (Wn D ok 6 (by unfold I64; omega)) hct hk ?_
    rintro r i1 k1 hk1 ⟨m, rfl, hm0, hm1, _⟩
    cases data
    all_goals
      repeat' (first
    | (with_reducible (first | refine Qn (fun hb_ => ?_) (fun hb_ => ?_) | refine Qm (fun hb_ => ?_) (fun hb_ => ?_)) <;> simp (disch := omega) [hb_, Qd])
    | simp (disch := omega) [Qd])
      · (first | refine Wb (.inr rfl) rfl ?_ (by simp) ?_ | refine QQ (.inr rfl) rfl ?_ (by simp) ?_)
        · exact hk1
        · exact num
      · (first | refine Wb (.inr rfl) rfl ?_ (by simp) ?_ | refine QQ (.inr rfl) rfl ?_ (by simp) ?_)
        · exact hk1
        · exact num
      · refine Qp ih hct hk1 ?_
        rintro r i2 k2 hk2 ⟨l, rfl, hl⟩
        have ll := glen hl
        repeat' (first
    | (with_reducible (first | refine Qn (fun hb_ => ?_) (fun hb_ => ?_) | refine Qm (fun hb_ => ?_) (fun hb_ => ?_)) <;> simp (disch := omega) [hb_, Qd])
    | simp (disch := omega) [Qd])
        ·
          refine Qp (Wn D ok s.size hsI) hct hk2 ?_
          rintro r i3 k3 hk3 ⟨g, rfl, hg0, hg1, _⟩
          have hg := hg1 (by omega)
          obtain ⟨q1, q2, q3⟩ := okC_box hg0 hg hs.2
          simp (disch := omega) [Qd]
          refine Qa (Zbq _ _ _ _ ll) (by simp) ?_
          simp (disch := omega) [Qd]
          (first | refine Wb (.inr rfl) rfl ?_ (by simp) ?_ | refine QQ (.inr rfl) rfl ?_ (by simp) ?_)
          · exact hk3
          · exact ⟨(19 + g) :: l, by simp, tyIn_one hl q1 q2 (fun _ => q3) (by omega)⟩
        all_goals first
          | (refine Qp (Wn D ok s.size hsI) hct hk2 ?_
             rintro r i3 k3 hk3 ⟨g, rfl, hg0, hg1, _⟩
             have hg := hg1 (by omega)
             obtain ⟨q1, q2, q3⟩ := Zrm hg0 hg hs.2
             simp (disch := omega) [Qd]
             refine Qp ih hct hk3 ?_
             rintro r i4 k4 hk4 ⟨l2, rfl, hl2⟩
             have ll2 := glen hl2
             simp (disch := omega) [Qd]
             refine Qa (XT _ _ _ _ _ _ ll ll2) (by simp) ?_
             simp (disch := omega) [Qd]
             (first | refine Wb (.inr rfl) rfl ?_ (by simp) ?_ | refine QQ (.inr rfl) rfl ?_ (by simp) ?_)
             · exact hk4
             · exact ⟨(3 + g) :: (l ++ l2), by simp, Zh1 hl hl2 q1 q2 (fun h => by simp at h) (by omega)⟩)
          | (refine Qp ih hct hk2 ?_
             rintro r i4 k4 hk4 ⟨l2, rfl, hl2⟩
             have ll2 := glen hl2
             simp (disch := omega) [Qd]
             refine Qa (XT _ _ _ _ _ _ ll ll2) (by simp) ?_
             simp (disch := omega) [Qd]
             (first | refine Wb (.inr rfl) rfl ?_ (by simp) ?_ | refine QQ (.inr rfl) rfl ?_ (by simp) ?_)
             · exact hk4
             · first
                 | (refine ⟨2 :: (l ++ l2), ?_, Zh1 hl hl2 kids12.2 (okC12 _).2.1 (fun _ => (okC12 s.size).2.2.2) (by omega)⟩; simp; done)
                 | (refine ⟨1 :: (l ++ l2), ?_, Zh1 hl hl2 kids12.1 (okC12 _).1 (fun _ => (okC12 s.size).2.2.1) (by omega)⟩; simp; done))
end
abbrev ZoS {α:Type} (e:α→LV) (l:List α):List (List LV):=l.map fun x=>[e x]
theorem Zig {α:Type} (v:α→Value):∀ (l:List α) (n:Nat) (cells:List LV) (bs:List Box),KO (ZoS (fun x=>.sc (v x)) l) 1 n cells bs ↔ cells=l.map (fun x=>.sc (v x))∧bs=[]
 | [],n,cells,bs=>by simp [KO]
 | x::l,n,cells,bs=>by
  simp only [ZoS,List.map_cons,KO,Jl,Th]
  constructor
  ·rintro ⟨c1,b1,c2,b2,_,⟨y,b3,ys',b4,⟨rfl,rfl⟩,⟨rfl,rfl⟩,rfl,rfl⟩,h2,rfl,rfl⟩
   obtain ⟨rfl,rfl⟩:=(Zig v l _ _ _).1 h2
   simp
  ·rintro ⟨rfl,rfl⟩
   exact ⟨[.sc (v x)],[],l.map (fun x=>.sc (v x)),[],rfl,⟨.sc (v x),[],[],[],⟨rfl,rfl⟩,⟨rfl,rfl⟩,rfl,rfl⟩,(Zig v l _ _ _).2 ⟨rfl,rfl⟩,rfl,rfl⟩
theorem ZnO {α:Type} (v:α→Value) {u nl:Bool} {l:List α} {n:Nat} {y:LV} {bs:List Box}:Th (.sl u nl 1 (ZoS (fun x=>.sc (v x)) l)) n y bs ↔ (l=[]∧y=.sl false nl 1 []∧bs=[]) ∨
  (nl=false∧l≠[]∧∃ slack cap,(l.length≤cap∧l.length * 1+slack=cap * 1)∧y=.ha n 1 0 l.length cap∧bs=[some (l.map (fun x=>.sc (v x))++List.replicate slack .dead)]):=by
 simp only [Th,Zig,List.length_map,List.map_eq_nil_iff]
 constructor
 ·rintro (⟨h1,h2,h3⟩ | ⟨h1,h2,cells,bs',slack,cap,⟨rfl,rfl⟩,h3,h4,h5⟩)
  ·exact .inl ⟨h1,h2,h3⟩
  ·exact .inr ⟨h1,by simpa using h2,slack,cap,h3,by simpa using h4,by simpa using h5⟩
 ·rintro (⟨h1,h2,h3⟩ | ⟨h1,h2,slack,cap,h3,h4,h5⟩)
  ·exact .inl ⟨h1,h2,h3⟩
  ·exact .inr ⟨h1,by simpa using h2,_,[],slack,cap,⟨rfl,rfl⟩,h3,by simpa using h4,by simpa using h5⟩
theorem Za8 {α:Type} (v:α→Value) (u nl:Bool) (l:List α) (h:l=[]∨(u=true∧nl=false)):Wf (.sl u nl 1 (ZoS (fun x=>.sc (v x)) l)):=by
 simp only [Wf]
 refine ⟨?_,?_⟩
 ·rcases h with rfl | ⟨rfl,rfl⟩
  ·left;rfl
  ·right;simp
 ·clear h
  induction l with
  | nil=>simp [Wx]
  | cons x l ih=>simp only [ZoS,List.map_cons,Wx,WI,Wf];exact ⟨⟨trivial,trivial⟩,ih⟩
@[simp] theorem bin_rem3 {a:Int}:Xq .num .rem (.sc (.int .i64 a)) (.sc (.int .i64 3))=some (.sc (.int .i64 (a.tmod 3))):=by simp [Xq,Z9]
theorem Zmz {H:List Box} {p sz n cap:Nat} {xs:List LV} (hl:H[p]?=some (some xs)) (hx:xs.length=cap * sz) (hn:n≤cap):Qs H (.ha p sz 0 n cap)=some (.sl true false sz (Qo sz n xs),H.set p none):=by
 simp only [Qs,hl]
 rw [if_pos ⟨hx,hn⟩]
theorem ZcZ (l : List Int) (ex : List LV) : ∀ n, n ≤ l.length → Qo 1 n (l.map N ++ ex) = (l.take n).map fun x => [N x] := by
  induction l with
  | nil => intro n hn; have : n = 0 := by simpa using hn
           subst this; rfl
  | cons a l ih =>
    intro n hn
    cases n with
    | zero => rfl
    | succ n =>
      have := ih n (by simpa using hn)
      simp only [Qo, List.map_cons, List.cons_append, List.take_succ_cons, List.take_zero, List.drop_succ_cons, List.drop_zero, this]
theorem Zhf (l:List Int) (ex:List LV) (i:Nat) (v:Int) (h:i < l.length):splice (l.map N++ex) i [N v]=(l.set i v).map N++ex:=by
 unfold splice
 rw [List.take_append_of_le_length (by simp;omega),List.drop_append_of_le_length (by simp;omega),List.set_eq_take_append_cons_drop,if_pos h]
 simp
theorem ZfJ (l:List Int) (ex:List LV) (i:Nat) (v:Int) (h:i < l.length):Qo 1 l.length (List.take i (l.map N++ex)++N v::List.drop (i+1) (l.map N++ex))=(l.set i v).map fun x=>[N x]:=by
 have h1:=Zhf l ex i v h
 have e:List.take i (l.map N++ex)++N v::List.drop (i+1) (l.map N++ex)=splice (l.map N++ex) i [N v]:=by unfold splice;simp
 rw [e,h1]
 have h2:=ZcZ (l.set i v) ex l.length (by simp)
 rw [h2,List.take_of_length_le (by simp)]
theorem Zq7 {l sz off n cap:Nat} (h:0 < n):QU sz (.ha l sz off n cap) 0=some (.ptr l (off * sz)):=by
 have:=Kn (l:=l) (sz:=sz) (off:=off) (n:=n) (cap:=cap) (i:=0) h
 simpa using this
def Zg6 (n:Nat) (l:List Int):Prop:=l.length≤n∧∀ x∈l,I64 x
section
variable (D:Dr) (ok:D.ok)
include ok
theorem l1New_ok (h:List Box):QN Tryz.prog ZbA [D.lv] h (fun r h'=>∃ k,r=.ptr h.length 0∧WR D 0 k∧h'=h++[some [D.lv,N 0,N k]]):=by
 refine QN.of_codeOf Zl0 Qz (by simp) ⟨_,_,0,rfl,⟨by omega,by omega,by omega,by omega⟩,rfl⟩ ?_
 have hlen:=ok.len
 simp (disch:=omega) [Zfv]
 refine Wy D.bs.length 0 (fun i t h'=>h'=h∧t 4=N i∧∃ k,t 3=N k∧I64 k) (fun t h'=>h'=h∧∃ k,t 3=N k∧I64 k) ⟨by simp,by simp,_,by simp;rfl,wrap_i64 _⟩ (by omega) ?_ ?_
 ·rintro i t1 hh hf hi ⟨rfl,e4,k,e3,hk⟩
  (have e0:=hf 0 (by kernel_rfl);clear hf;simp [] at e0)
  by_cases h1:i < D.bs.length
  ·have hb1:ltB (i:Int) D.bs.length=true:=by rw [Qi];omega
   simp (disch:=omega) [e0,e3,e4,hb1]
   by_cases h2:i < 4000
   ·have hb2:ltB (i:Int) 4000=true:=by rw [Qi];omega
    simp (disch:=omega) [e0,e3,e4,hb1,hb2,idx_D (D:=D) (i:=i) (by omega) (by omega),Qd]
    exact ⟨by omega,and_I64 _ _⟩
   ·have hb2:ltB (i:Int) 4000=false:=by rw [Qg];omega
    simp (disch:=omega) [e0,e3,e4,hb1,hb2]
    exact hk
  ·have hb1:ltB (i:Int) D.bs.length=false:=by rw [Qg];omega
   simp (disch:=omega) [e0,e3,e4,hb1]
   exact hk
 ·rintro t1 hh hf ⟨rfl,k,e3,hk⟩
  (have e0:=hf 0 (by kernel_rfl);clear hf;simp [] at e0)
  simp (disch:=omega) [e0,e3,Qw]
  refine Wd (.inr rfl) (by simp) ⟨by simp,k,⟨by omega,by omega,hk.1,hk.2⟩,by simp⟩
end
theorem big_ok (D:Dr):Qf Tryz.prog ZeG [D.lv] (·=B (ltB 1048576 D.bs.length)):=by
 refine Qf.of_codeOf ZpJ Qz (by simp) ⟨_,rfl,by simp⟩ ?_
 simp (disch:=omega) [ZiH]
theorem Zqt (n1 n2:Bool) (a b:List Int) (ha:a.length≤1099511627776):Qf Tryz.prog KN [L n1 a,L n2 b] (·=B (a == b)):=by
 generalize hq:(a == b)=q
 refine Qf.of_codeOf Zoe Qz (by simp) ⟨_,rfl,by simp⟩ ?_
 simp (disch:=omega) [Zhi]
 (with_reducible first | refine Qn (fun h1=>?_) (fun h1=>?_) | refine Qm (fun h1=>?_) (fun h1=>?_))
 ·simp (disch:=omega) [h1]
  simp only [Qi,Qg,Ql,Qj,Qe,Qc,Bool.not_true,Bool.not_false] at h1
  refine XH a.length 0 (fun i t _=>t 5=N i∧q=(a.drop i == b.drop i)) (by simp [hq]) (by omega) ?_
  rintro i t1 hh hf hi ⟨e5,hj⟩
  (have e0:=hf 0 (by kernel_rfl);have e1:=hf 1 (by kernel_rfl);clear hf;simp [] at e0 e1)
  simp (disch:=omega) [e0,e1,e5]
  (with_reducible first | refine Qn (fun h6=>?_) (fun h6=>?_) | refine Qm (fun h6=>?_) (fun h6=>?_))
  ·simp only [Qi,Qg,Ql,Qj,Qe,Qc,Bool.not_true,Bool.not_false] at h6
   have hd1:=List.drop_eq_getElem_cons (l:=a) (i:=i) (by omega)
   have hd2:=List.drop_eq_getElem_cons (l:=b) (i:=i) (by omega)
   have hq2:q=(a[i]'(by omega) == b[i]'(by omega) && (a.drop (i+1) == b.drop (i+1))):=by rw [hj,hd1,hd2];rfl
   clear hd1 hd2 hj
   simp (disch:=omega) [e0,e1,e5,Xu]
   repeat' (first
  | (with_reducible (first | refine Qn (fun hb_=>?_) (fun hb_=>?_) | refine Qm (fun hb_=>?_) (fun hb_=>?_))<;>simp (disch:=omega) [hb_,e0,e1,e5,Qd])
  | simp (disch:=omega) [e0,e1,e5,Qd])
   all_goals simp only [Qi,Qg,Ql,Qj,Qe,Qc,Bool.not_true,Bool.not_false] at hb_
   ·exact ⟨by omega,by simp [hq2,hb_]⟩
   ·simp [hq2,hb_]
  ·simp only [Qi,Qg,Ql,Qj,Qe,Qc,Bool.not_true,Bool.not_false] at h6
   simp (disch:=omega)
   rw [hj,List.drop_of_length_le (by omega),List.drop_of_length_le (by omega)];simp
 ·simp (disch:=omega) [h1]
  simp only [Qi,Qg,Ql,Qj,Qe,Qc,Bool.not_true,Bool.not_false] at h1
  rw [← hq];simp;intro h;exact h1 (by rw [h])
def okL (size:Int) (l:List Int):Bool:=wty l && YN size true l
def WC (l:List Int):List Int:=(Ty.skip 1 l.tail).getD []
def QK (l:List Int):List Int:=l.tail.take (l.tail.length - (WC l).length)
def hd (l:List Int):Int:=l.headD 0
@[simp] theorem Zna (c:Int) (l:List Int):hd (c::l)=c:=rfl
theorem ZpO {size:Int} {closed:Bool} {l:List Int}:YN size closed l=true ↔ ∀ c∈l,okC size closed c=true:=by
 unfold YN
 rw [Yc]
 constructor
 ·intro h c hc
  obtain ⟨i,hi,rfl⟩:=List.getElem_of_mem hc
  have:=h i hi
  simpa [Yw,hi] using this
 ·intro h i hi
  have:=h l[i] (List.getElem_mem _)
  simpa [Yw,hi] using this
theorem Yu {size:Int} {l:List Int}:okL size l=true ↔ ∃ t:RT,t.ok∧l=t.flat∧l.length≤40∧∀ c∈l,okC size true c=true:=by
 unfold okL
 rw [Bool.and_eq_true,ZpO]
 constructor
 ·rintro ⟨h1,h2⟩
  obtain ⟨t,h3,h4,h5⟩:=ZnH h1
  exact ⟨t,h3,h4,h5,h2⟩
 ·rintro ⟨t,h3,rfl,h5,h2⟩
  exact ⟨tree_wty h3 h5,h2⟩
theorem Zqr {l:List Int} (h:wty l=true):1≤l.length∧l.length≤40:=by
 simp [wty] at h;omega
theorem JJ {size:Int} {l:List Int} (h:okL size l=true):wty l=true:=by
 unfold okL at h;rw [Bool.and_eq_true] at h;exact h.1
theorem QH {size:Int} {l:List Int} (h:okL size l=true):1≤l.length∧l.length≤40:=Zqr (JJ h)
theorem ZqW {l:List Int} (h:wty l=true):∀ n∈l,0≤n∧n≤36:=by
 intro n hn
 obtain ⟨i,hi,rfl⟩:=List.getElem_of_mem hn
 have:=Zgs h i hi
 simpa [List.getD_eq_getElem?_getD,hi] using this
theorem ZbW {l:List Int} (h:wty l=true):Lok l:=⟨by have:=Zqr h;omega,fun n hn=>by have:=ZqW h n hn;unfold I64;omega⟩
theorem ZbJ {c:Int} {t:RT} {r:List Int} (h:t.ok):WC (c::(t.flat++r))=r:=by
 unfold WC
 rw [List.tail_cons,RT.skip_flat t r h];rfl
theorem Zb5 {c:Int} {t:RT} {r:List Int} (h:t.ok):QK (c::(t.flat++r))=t.flat:=by
 unfold QK
 rw [ZbJ h,List.tail_cons]
 simp
theorem JW {size:Int} {l:List Int} (h:okL size l=true) (h2:WD (hd l)=some 2):l=hd l::(QK l++WC l)∧okL size (QK l)=true∧okL size (WC l)=true:=by
 obtain ⟨⟨c,ks⟩,h3,rfl,h5,h6⟩:=Yu.1 h
 simp only [RT.ok] at h3
 simp only [RT.flat] at h2 h5 h6 ⊢
 simp only [Zna] at h2
 rw [h2] at h3
 obtain ⟨a,b,rfl⟩:∃ a b,ks=[a,b]:=by
  match ks,h3.1 with
  | [a,b],_=>exact ⟨a,b,rfl⟩
  | [],h=>simp at h
  | [_],h=>simp at h
  | _::_::_::_,h=>simp at h
 simp only [oks] at h3
 simp only [WP,List.append_nil] at h5 h6 ⊢
 rw [Zb5 h3.2.1,ZbJ h3.2.1]
 simp only [List.length_cons,List.length_append] at h5
 refine ⟨rfl,Yu.2 ⟨a,h3.2.1,rfl,by omega,fun c hc=>h6 c (by simp [hc])⟩,Yu.2 ⟨b,h3.2.2.1,rfl,by omega,fun c hc=>h6 c (by simp [hc])⟩⟩
theorem ZhO {size:Int} {l:List Int} (h:okL size l=true) (h2:WD (hd l)=some 1):l=hd l::QK l∧WC l=[]∧okL size (QK l)=true:=by
 obtain ⟨⟨c,ks⟩,h3,rfl,h5,h6⟩:=Yu.1 h
 simp only [RT.ok] at h3
 simp only [RT.flat] at h2 h5 h6 ⊢
 simp only [Zna] at h2
 rw [h2] at h3
 obtain ⟨a,rfl⟩:∃ a,ks=[a]:=by
  match ks,h3.1 with
  | [a],_=>exact ⟨a,rfl⟩
  | [],h=>simp at h
  | _::_::_,h=>simp at h
 simp only [oks] at h3
 simp only [WP] at h5 h6 ⊢
 rw [Zb5 h3.2.1,ZbJ h3.2.1]
 simp only [List.length_cons,List.length_append] at h5
 refine ⟨by simp,rfl,Yu.2 ⟨a,h3.2.1,rfl,by omega,fun c hc=>h6 c (by simp [hc])⟩⟩
theorem okL_none {size:Int} {l:List Int} (h:okL size l=true) (h2:WD (hd l)=some 0):l=[hd l]:=by
 obtain ⟨⟨c,ks⟩,h3,rfl,h5,h6⟩:=Yu.1 h
 simp only [RT.ok] at h3
 simp only [RT.flat] at h2 h5 h6 ⊢
 simp only [Zna] at h2
 rw [h2] at h3
 obtain rfl:ks=[]:=by
  match ks,h3.1 with
  | [],_=>rfl
  | _::_,h=>simp at h
 simp [WP]
theorem ZbF {size c:Int} {a b:List Int} (ha:okL size a=true) (hb:okL size b=true) (hc:WD c=some 2) (h2:okC size true c=true) (hl:(c::(a++b)).length≤40):okL size (c::(a++b))=true:=by
 obtain ⟨t,h3,rfl,_,h4⟩:=Yu.1 ha
 obtain ⟨u,h5,rfl,_,h6⟩:=Yu.1 hb
 refine Yu.2 ⟨.nd c [t,u],?_,by simp [RT.flat,WP],hl,fun x hx=>?_⟩
 ·simp only [RT.ok,oks]
  exact ⟨hc,h3,h5,trivial⟩
 ·rcases List.mem_cons.1 hx with rfl | hx
  ·exact h2
  ·rcases List.mem_append.1 hx with hx | hx
   ·exact h4 x hx
   ·exact h6 x hx
theorem ZqK {size c:Int} {a:List Int} (ha:okL size a=true) (hc:WD c=some 1) (h2:okC size true c=true) (hl:(c::a).length≤40):okL size (c::a)=true:=by
 obtain ⟨t,h3,rfl,_,h4⟩:=Yu.1 ha
 refine Yu.2 ⟨.nd c [t],?_,by simp [RT.flat,WP],hl,fun x hx=>?_⟩
 ·simp only [RT.ok,oks]
  exact ⟨hc,h3,trivial⟩
 ·rcases List.mem_cons.1 hx with rfl | hx
  ·exact h2
  ·exact h4 x hx
theorem Zl9 (size:Int):okL size [0]=true :=
 Yu.2 ⟨.nd 0 [],by simp [RT.ok,oks,WD],by simp [RT.flat,WP],by simp,fun c hc=>by simp at hc;subst hc;simp [okC,QP,W9]⟩
theorem Yj {size:Int} {l:List Int} (h:okL size l=true):okC size true (hd l)=true∧0≤hd l∧hd l≤36∧l≠[]∧hd l∈l:=by
 obtain ⟨⟨c,ks⟩,h3,rfl,h5,h6⟩:=Yu.1 h
 simp only [RT.ok] at h3
 have:=ZgX h3.1
 simp only [RT.flat] at h6 ⊢
 refine ⟨h6 c (by simp),by simpa using this.1,by simpa using this.2,by simp,by simp⟩
theorem Kw {size c:Int} (h:okC size true c=true) (h2:QP c=true∨W9 c=true):0≤Xc c∧Xc c < size:=by
 unfold okC at h
 have:(QP c || W9 c)=true:=by rcases h2 with h | h<;>simp [h]
 rw [this] at h
 simp [Ql,Qi] at h
 omega
inductive TT where
 | mk (ty needs:List Int) (kids:List TT)
def TT.ty:TT→List Int | .mk t _ _=>t
def TT.needs:TT→List Int | .mk _ n _=>n
def TT.kids:TT→List TT | .mk _ _ k=>k
@[simp] theorem TT.ty_mk {a b:List Int} {c:List TT}:(TT.mk a b c).ty=a:=rfl
@[simp] theorem TT.needs_mk {a b:List Int} {c:List TT}:(TT.mk a b c).needs=b:=rfl
@[simp] theorem TT.kids_mk {a b:List Int} {c:List TT}:(TT.mk a b c).kids=c:=rfl
inductive Res where
 | ok (x:TT)
 | bad (f:Int) (p:List Int)
def QC (op:Int) (ty:List Int) (i:Nat) (first:List Int):List (List Int) :=
 if op=9 then [ty] else if Qr op i=0 then [] else if op=5 then [WC first,QK first] else if op=8 then [if i=1 then QK first else WC first] else [QK first]
def JB (op:Int) (i:Nat):Int×Int :=
 if op=2∨(op=3∧i=0) then (0,2) else if op=5∧i=0 then (1,4) else if op=8∧i=0 then (2,5) else if op=10∧i=0 then (3,6) else if op=12∧i=0 then (4,7) else (-1,0)
def QO (s:GSys) (op n:Int) (i:Nat) (c:Int):Int :=
 if 0≤(JB op i).1∧(QG c).1≠(JB op i).1 then (JB op i).2 else if i=0∧(op=5∨op=8∨op=12)∧s.le 1 n=false then 8 else 0
def XZ (s:GSys) (a b:List Int):List Int:=List.zipWith s.pl a b
def XU (s:GSys) (a b:List Int):List Int:=List.zipWith s.join a b
def QY (s:GSys) (g:Int) (a:List Int):List Int:=a.map (s.tm g)
def Wu (s:GSys) (l:List Int) (g:Int):Bool:=l.all fun u=>s.le u g
def zeros (n:Nat):List Int:=List.replicate n 0
def Xl (ty nd:List Int):Int×List Int×List Int:=if ty.length≤40 then (0,ty,nd) else (3,[],[])
def ndP (op:Int) (ds:List TT) (i:Nat):List Int:=(ds.getD i (.mk [] [] [])).needs.drop (Qr op i).toNat
def usP (op:Int) (ds:List TT) (i:Nat):List Int:=(ds.getD i (.mk [] [] [])).needs.take (Qr op i).toNat
def tyP (ds:List TT) (i:Nat):List Int:=(ds.getD i (.mk [] [] [])).ty
def Wi (s:GSys) (ctx:List (List Int)) (op n:Int) (ty:List Int) (ds:List TT):Int×List Int×List Int :=
 if op=0 then (0,ctx.getD n.toNat [],(zeros ctx.length).set n.toNat 1)
 else if op=1 then (0,[0],zeros ctx.length)
 else if op=2 then (0,[0],XZ s (ndP op ds 0) (ndP op ds 1))
 else if op=3 then (if tyP ds 1=tyP ds 2 then (0,tyP ds 1,XZ s (ndP op ds 0) (XU s (ndP op ds 1) (ndP op ds 2))) else (3,[],[]))
 else if op=4 then Xl (1::(tyP ds 0++tyP ds 1)) (XZ s (ndP op ds 0) (ndP op ds 1))
 else if op=5 then (if Wu s (usP op ds 1) n=true then (0,tyP ds 1,XZ s (QY s n (ndP op ds 0)) (ndP op ds 1)) else (9,[],[]))
 else if op=6 then Xl (2::(tyP ds 0++ty)) (ndP op ds 0)
 else if op=7 then Xl (2::(ty++tyP ds 0)) (ndP op ds 0)
 else if op=8 then (if tyP ds 1=tyP ds 2 then (if Wu s (usP op ds 1) n=true∧Wu s (usP op ds 2) n=true then (0,tyP ds 1,XZ s (QY s n (ndP op ds 0)) (XU s (ndP op ds 1) (ndP op ds 2))) else (9,[],[])) else (3,[],[]))
 else if op=9 then (if Wu s (usP op ds 0) n=true then Xl ((3+n)::(ty++tyP ds 0)) (ndP op ds 0) else (9,[],[]))
 else if op=10 then (0,WC (tyP ds 0),XZ s (ndP op ds 0) (QY s (QG (hd (tyP ds 0))).2 (ndP op ds 1)))
 else if op=11 then Xl ((19+n)::tyP ds 0) (QY s n (ndP op ds 0))
 else (if Wu s (usP op ds 1) (s.tm n (QG (hd (tyP ds 0))).2)=true then (0,tyP ds 1,XZ s (QY s n (ndP op ds 0)) (ndP op ds 1)) else (9,[],[]))
inductive KRes where
 | ok (ds:List TT)
 | bad (f:Int) (p:List Int)
def first (ds:List TT):List Int:=tyP ds 0
mutual
def Qt (s:GSys) (ctx:List (List Int)):GTerm→Res
 | .mk op n _ ty _ ks=>match Q9 s ctx op n ty [] ks with
  | .bad f p=>.bad f p
  | .ok ds=>if (Wi s ctx op n ty ds).1=0 then .ok (.mk (Wi s ctx op n ty ds).2.1 (Wi s ctx op n ty ds).2.2 ds) else .bad (Wi s ctx op n ty ds).1 []
def Q9 (s:GSys) (ctx:List (List Int)) (op n:Int) (ty:List Int) (ds:List TT):List GTerm→KRes
 | []=>.ok ds
 | k::ks=>match Qt s (QC op ty ds.length (first ds)++ctx) k with
  | .bad f p=>.bad f ((ds.length:Int)::p)
  | .ok x=>if QO s op n ds.length (hd x.ty)≠0 then .bad (QO s op n ds.length (hd x.ty)) []
   else if op=10∧ds.length=1∧x.ty≠QK (first ds) then .bad 3 [] else Q9 s ctx op n ty (ds++[x]) ks
end
def TT.good (s:GSys) (n:Nat) (x:TT):Prop:=okL s.size x.ty=true∧x.needs.length=n∧∀ u∈x.needs,s.G u
theorem Znj:∀ n:Fin 37,((QG ((n.val:Nat):Int)).1=0 ↔ n.val=0)∧((QG ((n.val:Nat):Int)).1=1 ↔ n.val=1)∧((QG ((n.val:Nat):Int)).1=2 ↔ n.val=2) ∧
  ((QG ((n.val:Nat):Int)).1=3 ↔ QP ((n.val:Nat):Int)=true)∧((QG ((n.val:Nat):Int)).1=4 ↔ W9 ((n.val:Nat):Int)=true) ∧
  ((QP ((n.val:Nat):Int)=true∨W9 ((n.val:Nat):Int)=true)→(QG ((n.val:Nat):Int)).2=Xc ((n.val:Nat):Int)):=by decide
theorem Kq {c:Int} (h0:0≤c) (h1:c≤36):((QG c).1=0 ↔ c=0)∧((QG c).1=1 ↔ c=1)∧((QG c).1=2 ↔ c=2)∧((QG c).1=3 ↔ QP c=true)∧((QG c).1=4 ↔ W9 c=true)∧((QP c=true∨W9 c=true)→(QG c).2=Xc c):=by
 have:=Znj ⟨c.toNat,by omega⟩
 simp only [show ((c.toNat:Nat):Int)=c by omega] at this
 obtain ⟨a,b,c',d,e,f⟩:=this
 exact ⟨a.trans (by omega),b.trans (by omega),c'.trans (by omega),d,e,f⟩
theorem Xt:WD 1=some 2∧WD 2=some 2:=by decide
theorem JK {c:Int} (h:QP c=true):WD c=some 2:=by
 unfold WD
 rw [KS] at h
 rw [if_neg (by omega),if_pos]
 right;right;rw [KS];exact h
theorem Zdr {c:Int} (h:W9 c=true):WD c=some 1:=by
 have h':=h
 rw [Zgh] at h
 unfold WD
 rw [if_neg (by omega),if_neg (by rw [KS];omega),if_pos h']
def ZeZ (op:Int) (c:Int):Prop:=(op=2∨op=3→c=0)∧(op=5→c=1)∧(op=8→c=2)∧(op=10→QP c=true)∧(op=12→W9 c=true)
theorem ZlU {s:GSys} {op n c:Int} (h0:0≤c) (h1:c≤36) (h:QO s op n 0 c=0):ZeZ op c∧(op=5∨op=8∨op=12→s.le 1 n=true):=by
 obtain ⟨a,b,c',d,e,_⟩:=Kq h0 h1
 unfold QO at h
 have hw:¬ (0≤(JB op 0).1∧(QG c).1≠(JB op 0).1):=by
  intro hh
  rw [if_pos hh] at h
  unfold JB at hh h
  repeat' split at h
  all_goals simp_all
 rw [if_neg hw] at h
 have hl:¬ (op=5∨op=8∨op=12)∨s.le 1 n=true:=by
  by_cases g:s.le 1 n=true
  ·exact .inr g
  ·left
   intro g2
   rw [if_pos ⟨rfl,g2,by simpa using g⟩] at h
   omega
 refine ⟨?_,fun g=>hl.resolve_left (fun k=>k g)⟩
 unfold JB at hw
 refine ⟨fun g=>?_,fun g=>?_,fun g=>?_,fun g=>?_,fun g=>?_⟩
 ·have:(QG c).1=0:=by rcases g with rfl | rfl<;>simpa using hw
  exact a.1 this
 ·subst g;simp at hw;exact b.1 hw
 ·subst g;simp at hw;exact c'.1 hw
 ·subst g;simp at hw;exact d.1 hw
 ·subst g;simp at hw;exact e.1 hw
theorem Xw (op k:Int):0≤Qr op k∧Qr op k≤2:=by
 unfold Qr;split
 ·omega
 ·split<;>omega
theorem Zbi (op:Int) (ty:List Int) (i:Nat) (f:List Int):(QC op ty i f).length=(Qr op i).toNat:=by
 unfold QC Qr
 by_cases h9:op=9
 ·subst h9;simp
 ·rw [if_neg h9]
  by_cases h5:op=5∧(i:Int)=1
  ·rw [if_pos h5,if_pos h5.1];simp
  ·rw [if_neg h5]
   by_cases h8:(op=8∧0 < (i:Int))∨op=9∨(op=12∧(i:Int)=1)
   ·rw [if_pos h8]
    have:op≠5:=by omega
    rw [if_neg (by omega),if_neg this]
    split<;>simp
   ·rw [if_neg h8];simp
theorem ZnU {size:Int} {op:Int} {ty:List Int} {i:Nat} {f:List Int} (hty:op=9→okL size ty=true) (hf:i≠0→okL size f=true∧ZeZ op (hd f)):∀ l∈QC op ty i f,okL size l=true:=by
 unfold QC
 by_cases h9:op=9
 ·rw [if_pos h9];intro l hl;simp at hl;subst hl;exact hty h9
 ·rw [if_neg h9]
  split
  ·simp
  ·rename_i ha
   have hi:i≠0:=by rintro rfl;apply ha;unfold Qr;rw [if_neg (by omega),if_neg (by omega)]
   obtain ⟨hf1,hf2⟩:=hf hi
   obtain ⟨q2,q5,q8,q10,q12⟩:=hf2
   split
   ·rename_i h5
    have:=JW hf1 (by rw [q5 h5];exact Xt.1)
    intro l hl;simp at hl
    rcases hl with rfl | rfl
    ·exact this.2.2
    ·exact this.2.1
   ·split
    ·rename_i h8
     have:=JW hf1 (by rw [q8 h8];exact Xt.2)
     intro l hl;simp at hl;subst hl
     split
     ·exact this.2.1
     ·exact this.2.2
    ·have h12:op=12:=by
      unfold Qr at ha
      rename_i h5 h8
      rw [if_neg (by omega)] at ha
      by_cases g:(op=8∧0 < (i:Int))∨op=9∨(op=12∧(i:Int)=1)
      ·omega
      ·rw [if_neg g] at ha;simp at ha
     have:=ZhO hf1 (Zdr (q12 h12))
     intro l hl;simp at hl;subst hl;exact this.2.2
structure KidsOk (s:GSys) (c:Nat) (op n:Int) (ds:List TT):Prop where
 each:∀ (i:Nat) (x:TT),ds[i]?=some x→x.good s (c+(Qr op i).toNat)∧QO s op n i (hd x.ty)=0
 app:op=10→∀ x,ds[1]?=some x→x.ty=QK (first ds)
theorem KidsOk.first {s:GSys} {c:Nat} {op n:Int} {ds:List TT} (k:KidsOk s c op n ds) (h:ds≠[]):okL s.size (first ds)=true∧ZeZ op (hd (first ds))∧(op=5∨op=8∨op=12→s.le 1 n=true):=by
 obtain ⟨x,ds,rfl⟩:∃ x l,ds=x::l:=by
  cases ds with
  | nil=>exact absurd rfl h
  | cons x l=>exact ⟨x,l,rfl⟩
 obtain ⟨⟨h1,_,_⟩,h2⟩:=k.each 0 x rfl
 have:=Yj h1
 simp only [Go.Proofs.YthdkhhebanogbaaGreat.first,List.getD_eq_getElem?_getD,List.getElem?_cons_zero,Option.getD_some]
 exact ⟨h1,ZlU this.2.1 this.2.2.1 h2⟩
theorem KidsOk.snoc {s:GSys} {c:Nat} {op n:Int} {ds:List TT} {x:TT} (k:KidsOk s c op n ds) (h1:x.good s (c+(Qr op ds.length).toNat)) (h2:QO s op n ds.length (hd x.ty)=0) (h3:¬ (op=10∧ds.length=1∧x.ty≠QK (Go.Proofs.YthdkhhebanogbaaGreat.first ds))):KidsOk s c op n (ds++[x]):=by
 refine ⟨fun i y hy=>?_,fun h10 y hy=>?_⟩
 ·rcases Nat.lt_trichotomy i ds.length with g | g | g
  ·rw [List.getElem?_append_left g] at hy;exact k.each i y hy
  ·subst g
   rw [List.getElem?_append_right (Nat.le_refl _)] at hy
   simp at hy;subst hy;exact ⟨h1,h2⟩
  ·rw [List.getElem?_append_right (by omega),List.getElem?_eq_none (by simp;omega)] at hy;simp at hy
 ·have hf:ds≠[]→Go.Proofs.YthdkhhebanogbaaGreat.first (ds++[x])=Go.Proofs.YthdkhhebanogbaaGreat.first ds:=by
   intro g
   cases ds with
   | nil=>exact absurd rfl g
   | cons a l=>simp [Go.Proofs.YthdkhhebanogbaaGreat.first,tyP]
  rcases Nat.lt_trichotomy 1 ds.length with g | g | g
  ·rw [List.getElem?_append_left g] at hy
   rw [hf (by rintro rfl;simp at g)]
   exact k.app h10 y hy
  ·rw [List.getElem?_append_right (by omega),← g] at hy
   simp at hy;subst hy
   rw [hf (by rintro rfl;simp at g)]
   by_cases e:x.ty=QK (Go.Proofs.YthdkhhebanogbaaGreat.first ds)
   ·exact e
   ·exact absurd ⟨h10,g.symm,e⟩ h3
  ·rw [List.getElem?_append_right (by omega),List.getElem?_eq_none (by simp;omega)] at hy;simp at hy
theorem Zc2 {s:GSys} (t:s.Tab) {a b:List Int} {n:Nat} (ha:a.length=n) (hb:b.length=n):(XZ s a b).length=n∧∀ u∈XZ s a b,s.G u:=by
 refine ⟨by simp [XZ,ha,hb],fun u hu=>?_⟩
 unfold XZ at hu
 rw [List.zipWith_eq_zipWith_take_min] at hu
 simp only [List.mem_iff_getElem,List.getElem_zipWith] at hu
 obtain ⟨i,hi,rfl⟩:=hu
 exact GSys.Gpl t _ _
theorem Ya {s:GSys} (t:s.Tab) {g:Int} {a:List Int} {n:Nat} (ha:a.length=n):(QY s g a).length=n∧∀ u∈QY s g a,s.G u:=by
 refine ⟨by simp [QY,ha],fun u hu=>?_⟩
 simp only [QY,List.mem_map] at hu
 obtain ⟨x,_,rfl⟩:=hu
 exact GSys.Gtm t _ _
theorem VK {s:GSys} (t:s.Tab) (n:Nat):(zeros n).length=n∧∀ u∈zeros n,s.G u:=by
 refine ⟨by simp [zeros],fun u hu=>?_⟩
 simp [zeros] at hu
 rw [hu.2];exact GSys.G0 t
theorem Zio {s:GSys} (t:s.Tab) (n i:Nat):((zeros n).set i 1).length=n∧∀ u∈(zeros n).set i 1,s.G u:=by
 refine ⟨by simp [zeros],fun u hu=>?_⟩
 rcases List.mem_or_eq_of_mem_set hu with hu | rfl
 ·exact (VK t n).2 u hu
 ·exact GSys.G1 t
theorem Zds {s:GSys} {c:Nat} {op:Int} {i:Nat} {x:TT} (h:x.good s (c+(Qr op i).toNat)):(x.needs.drop (Qr op i).toNat).length=c∧∀ u∈x.needs.drop (Qr op i).toNat,s.G u :=
 ⟨by rw [List.length_drop,h.2.1];omega,fun u hu=>h.2.2 u (List.mem_of_mem_drop hu)⟩
theorem Zf4 {size:Int}:okC size true 1=true∧okC size true 2=true:=by
 unfold okC
 exact ⟨by simp [QP,W9],by simp [QP,W9]⟩
theorem ZiQ {size n:Int} (h0:0≤n) (h1:n < size) (h2:size≤16):QP (3+n)=true∧Xc (3+n)=n∧okC size true (3+n)=true∧WD (3+n)=some 2:=by
 have ha:QP (3+n)=true:=by rw [KS];omega
 have hg:Xc (3+n)=n:=by unfold Xc;rw [if_neg (by omega),if_neg (by omega)];omega
 refine ⟨ha,hg,?_,JK ha⟩
 unfold okC
 rw [hg];simp [Ql,Qi,h0,h1]
theorem ZnZ {size n:Int} (h0:0≤n) (h1:n < size) (h2:size≤16):W9 (19+n)=true∧Xc (19+n)=n∧okC size true (19+n)=true∧WD (19+n)=some 1:=by
 have ha:W9 (19+n)=true:=by rw [Zgh];omega
 have hg:Xc (19+n)=n:=by unfold Xc;rw [if_neg (by omega),if_pos (by omega)];omega
 refine ⟨ha,hg,?_,Zdr ha⟩
 unfold okC
 rw [hg];simp [Ql,Qi,h0,h1]
structure NodeOk (s:GSys) (c:Nat) (op n:Int) (ty:List Int) (len:Nat):Prop where
 many:(len:Int)=YT op
 var:op=0→0≤n∧n < c
 grade:Z6 op=true→s.G n
 typed:Xy op=true→okL s.size ty=true
 op13:0≤op∧op≤12
theorem Zdv {s:GSys} {c:Nat} {op n:Int} {ty:List Int} {len:Nat} (h:Y4 c s.size true op n ty len=true):NodeOk s c op n ty len:=by
 unfold Y4 at h
 simp only [Bool.and_eq_true] at h
 obtain ⟨h1,h2,h3⟩:=h
 have hop:op=0∨op=1∨op=2∨op=3∨op=4∨op=5∨op=6∨op=7∨op=8∨op=9∨op=10∨op=11∨op=12:=ops13 (Zpa h1)
 rw [Qe] at h1
 refine ⟨h1,fun h0=>?_,fun hh=>?_,fun ht=>?_,by omega⟩
 ·subst h0
  simp [ZcN,Q5] at h2
  omega
 ·have h01:op≠0∧op≠1:=by
   constructor<;>(rintro rfl;simp [Z6,Qe] at hh)
  unfold ZcN at h2
  rw [if_neg (by simp [Qc,h01.1]),if_neg (by simp [Qc,h01.2]),if_pos hh] at h2
  simp [Ql,Qi] at h2
  exact ⟨by omega,by omega⟩
 ·unfold tyB at h3
  rw [if_pos ht] at h3
  exact h3
theorem ZbU {s:GSys} {a b:List Int} {n:Nat} (ha:a.length=n) (hb:b.length=n):(XU s a b).length=n:=by simp [XU,ha,hb]
theorem Zdx {ty nd:List Int} (h:(Xl ty nd).1=0):ty.length≤40∧(Xl ty nd).2.1=ty∧(Xl ty nd).2.2=nd:=by
 unfold Xl at h ⊢
 split at h
 ·rename_i g;rw [if_pos g];exact ⟨g,rfl,rfl⟩
 ·simp at h
theorem ZrC {s:GSys} (t:s.Tab) {ctx:List (List Int)} (hc:∀ l∈ctx,okL s.size l=true) {op n:Int} {ty:List Int} {ds:List TT} (nd:NodeOk s ctx.length op n ty ds.length) (k:KidsOk s ctx.length op n ds)
  (h:(Wi s ctx op n ty ds).1=0):TT.good s ctx.length (.mk (Wi s ctx op n ty ds).2.1 (Wi s ctx op n ty ds).2.2 ds):=by
 have h16:=t.hi
 obtain ⟨many,hvar,hgr,hty,o1,o2⟩:=nd
 have get:∀ i,i < ds.length→∃ x,ds[i]?=some x∧x.good s (ctx.length+(Qr op i).toNat):=fun i hi =>
  ⟨_,List.getElem?_eq_getElem hi,(k.each i _ (List.getElem?_eq_getElem hi)).1⟩
 have tyG:∀ i,i < ds.length→okL s.size (tyP ds i)=true:=fun i hi=>by
  obtain ⟨x,h1,h2⟩:=get i hi
  unfold tyP;rw [List.getD_eq_getElem?_getD,h1];exact h2.1
 have ndL:∀ i,i < ds.length→(ndP op ds i).length=ctx.length:=fun i hi=>by
  obtain ⟨x,h1,h2⟩:=get i hi
  unfold ndP;rw [List.getD_eq_getElem?_getD,h1];exact (Zds h2).1
 have ndG:∀ i,i < ds.length→∀ u∈ndP op ds i,s.G u:=fun i hi=>by
  obtain ⟨x,h1,h2⟩:=get i hi
  unfold ndP;rw [List.getD_eq_getElem?_getD,h1];exact (Zds h2).2
 have fst:0 < ds.length→ZeZ op (hd (tyP ds 0)):=fun hi=>(k.first (by rintro rfl;simp at hi)).2.1
 have hops:op=0∨op=1∨op=2∨op=3∨op=4∨op=5∨op=6∨op=7∨op=8∨op=9∨op=10∨op=11∨op=12:=by omega
 rcases hops with e | e | e | e | e | e | e | e | e | e | e | e | e
 all_goals subst e
 all_goals simp [YT] at many
 all_goals simp [Wi] at h ⊢
 ·obtain ⟨v0,v1⟩:=hvar rfl
  refine ⟨?_,Zio t _ _⟩
  simp only [TT.ty_mk]
  rw [List.getElem?_eq_getElem (by omega)]
  exact hc _ (List.getElem_mem _)
 ·exact ⟨Zl9 _,VK t _⟩
 ·exact ⟨Zl9 _,Zc2 t (ndL 0 (by omega)) (ndL 1 (by omega))⟩
 ·split at h
  ·rename_i e
   rw [if_pos e]
   exact ⟨tyG 1 (by omega),Zc2 t (ndL 0 (by omega)) (ZbU (ndL 1 (by omega)) (ndL 2 (by omega)))⟩
  ·simp at h
 ·obtain ⟨g1,g2,g3⟩:=Zdx h
  rw [g2,g3]
  exact ⟨ZbF (tyG 0 (by omega)) (tyG 1 (by omega)) Xt.1 Zf4.1 g1,Zc2 t (ndL 0 (by omega)) (ndL 1 (by omega))⟩
 ·split at h
  ·rename_i e
   rw [if_pos e]
   exact ⟨tyG 1 (by omega),Zc2 t (Ya t (ndL 0 (by omega))).1 (ndL 1 (by omega))⟩
  ·simp at h
 ·obtain ⟨g1,g2,g3⟩:=Zdx h
  rw [g2,g3]
  exact ⟨ZbF (tyG 0 (by omega)) (hty (by simp [Xy,Qe])) Xt.2 Zf4.2 g1,ndL 0 (by omega),ndG 0 (by omega)⟩
 ·obtain ⟨g1,g2,g3⟩:=Zdx h
  rw [g2,g3]
  exact ⟨ZbF (hty (by simp [Xy,Qe])) (tyG 0 (by omega)) Xt.2 Zf4.2 g1,ndL 0 (by omega),ndG 0 (by omega)⟩
 ·split at h
  ·rename_i e
   split at h
   ·rename_i e2
    rw [if_pos e,if_pos e2]
    exact ⟨tyG 1 (by omega),Zc2 t (Ya t (ndL 0 (by omega))).1 (ZbU (ndL 1 (by omega)) (ndL 2 (by omega)))⟩
   ·simp at h
  ·simp at h
 ·have hg:=hgr (by simp [Z6,Qe])
  obtain ⟨_,_,c1,c2⟩:=ZiQ hg.1 hg.2 h16
  split at h
  ·rename_i e
   obtain ⟨g1,g2,g3⟩:=Zdx h
   rw [if_pos e,g2,g3]
   exact ⟨ZbF (hty (by simp [Xy,Qe])) (tyG 0 (by omega)) c2 c1 g1,ndL 0 (by omega),ndG 0 (by omega)⟩
  ·simp at h
 ·exact ⟨(JW (tyG 0 (by omega)) (JK ((fst (by omega)).2.2.2.1 rfl))).2.2,Zc2 t (ndL 0 (by omega)) (Ya t (ndL 1 (by omega))).1⟩
 ·have hg:=hgr (by simp [Z6,Qe])
  obtain ⟨_,_,c1,c2⟩:=ZnZ hg.1 hg.2 h16
  obtain ⟨g1,g2,g3⟩:=Zdx h
  rw [g2,g3]
  exact ⟨ZqK (tyG 0 (by omega)) c2 c1 g1,Ya t (ndL 0 (by omega))⟩
 ·split at h
  ·rename_i e
   rw [if_pos e]
   exact ⟨tyG 1 (by omega),Zc2 t (Ya t (ndL 0 (by omega))).1 (ndL 1 (by omega))⟩
  ·simp at h
theorem Zqc {s:GSys} {ctx:List (List Int)} (hc:∀ l∈ctx,okL s.size l=true) {op n:Int} {ty:List Int} {ds:List TT} (hty:op=9→okL s.size ty=true) (k:KidsOk s ctx.length op n ds) :
  ∀ l∈QC op ty ds.length (first ds)++ctx,okL s.size l=true:=by
 intro l hl
 rcases List.mem_append.1 hl with hl | hl
 ·exact ZnU hty (fun hi=>by
   have:=k.first (by rintro rfl;simp at hi)
   exact ⟨this.1,this.2.1⟩) l hl
 ·exact hc l hl
mutual
theorem Kh {s:GSys} (t:s.Tab):∀ (g:GTerm) (ctx:List (List Int)) (x:TT),(∀ l∈ctx,okL s.size l=true)→W8 ctx.length s.size true g=true→Qt s ctx g=.ok x→x.good s ctx.length
 | .mk op n nl1 ty nl2 ks,ctx,x,hc,hf,he=>by
  simp only [W8,Bool.and_eq_true] at hf
  have nd:=Zdv hf.1
  rw [Qt] at he
  split at he
  ·simp at he
  ·rename_i ds hd
   split at he
   ·rename_i h0
    simp only [Res.ok.injEq] at he
    subst he
    obtain ⟨k,hl⟩:=ZeW t ks ctx op n ty [] ds hc (fun h9=>nd.typed (by subst h9;simp [Xy,Qe])) (by simpa using hf.2) ⟨fun i x h=>by simp at h,fun _ x h=>by simp at h⟩ hd
    exact ZrC t hc (by rw [show ds.length=ks.length by simpa using hl];exact nd) k h0
   ·simp at he
theorem ZeW {s:GSys} (t:s.Tab):∀ (ks:List GTerm) (ctx:List (List Int)) (op n:Int) (ty:List Int) (ds ds':List TT),(∀ l∈ctx,okL s.size l=true)→(op=9→okL s.size ty=true) →
  W5 ctx.length s.size true op ds.length ks=true→KidsOk s ctx.length op n ds→Q9 s ctx op n ty ds ks=.ok ds'→KidsOk s ctx.length op n ds'∧ds'.length=ds.length+ks.length
 | [],ctx,op,n,ty,ds,ds',hc,hty,hf,k,he=>by
  simp only [Q9,KRes.ok.injEq] at he
  subst he;exact ⟨k,rfl⟩
 | g::ks,ctx,op,n,ty,ds,ds',hc,hty,hf,k,he=>by
  simp only [W5,Bool.and_eq_true] at hf
  rw [Q9] at he
  split at he
  ·simp at he
  ·rename_i x hx
   split at he
   ·simp at he
   ·rename_i h1
    split at he
    ·simp at he
    ·rename_i h2
     have hlen:(QC op ty ds.length (first ds)++ctx).length=ctx.length+(Qr op ds.length).toNat:=by
      rw [List.length_append,Zbi];omega
     have:=Xw op ds.length
     have hg:=Kh t g _ x (Zqc hc hty k) (by rw [hlen,show ((ctx.length+(Qr op ds.length).toNat:Nat):Int)=ctx.length+Qr op ds.length by omega];exact hf.1) hx
     rw [hlen] at hg
     have k2:=k.snoc hg (by simpa using h1) h2
     have:=ZeW t ks ctx op n ty (ds++[x]) ds' hc hty (by rw [List.length_append];exact hf.2) k2 he
     exact ⟨this.1,by rw [this.2];simp;omega⟩
end
def FnN (P:Program) (f:LV) (a b n:Int):Prop:=∃ fid vals,YO f [N a,N b]=some (fid,vals)∧QA 0 vals∧Qf P fid vals (·=N n)
theorem onFn_N {P:Program} {f:LV} {a b n:Int} {d:Nat} {K:St→Prop} {s:St} (h:FnN P f a b n) (hk:K { t:=upd s.t d (N n),h:=s.h }):onFn P .no f [N a,N b] (some d) K s:=by
 obtain ⟨fid,vals,h1,h2,h3⟩:=h
 exact ⟨fid,vals,h1,Qa (rw:=.no) h3 h2 hk⟩
theorem ZqY {z:List LV} {h0:List Box} {l:List Int} (e:z=l.map N):Qs (h0++[some z]) (.ha h0.length 1 0 l.length l.length)=some (OU true false l,h0++[none]):=by
 subst e
 rw [frz_ha (xs:=l.map N) (by simp) (by simp)]
 simp [Zje]
theorem frz_1 (l:List Int):Qs [none,some (l.map N)] (.ha 1 1 0 l.length l.length)=some (OU true false l,[none,none]):=ZqY (h0:=[none]) rfl
theorem fill_N {l:List Int}:fill (fun x=>[N x]) [N 0] l l.length=l.map N:=by
 rw [fill_end];induction l with
 | nil=>rfl
 | cons x l ih=>simpa using ih
theorem Zqn (s:GSys) (f:LV) (g:Int→Int→Int) (sf:share f=f) (lf:Low 0 f) (n1 n2:Bool) (a b:List Int) (hl:a.length≤1099511627776) (hab:a.length=b.length)
  (hp:∀ (i:Nat) (h:i < a.length),FnN Tryz.prog f a[i] (b[i]'(by omega)) (g a[i] (b[i]'(by omega)))):Qf Tryz.prog YM [s.lv,f,L n1 a,L n2 b] (·=OU true false (List.zipWith g a b)):=by
 obtain ⟨z,hze⟩:∃ z,z=List.zipWith g a b:=⟨_,rfl⟩
 have hz:z.length=a.length:=by rw [hze];simp [hab]
 have hget:∀ (i:Nat) (h:i < a.length),z[i]'(by omega)=g a[i] (b[i]'(by omega)):=by intro i h;simp [hze]
 rw [← hze]
 clear hze
 refine Qf.of_codeOf ZdD Qz (by simp) ⟨_,rfl,by simp⟩ ?_
 have hm:(a.length:Int)≤(most:Nat):=by unfold most;omega
 have he:∀ x:Int,([N x]:List LV).length=1:=by simp
 simp (disch:=omega) [Vj,hm,sf,Qw,Qs]
 refine XH a.length 0 (fun i t h=>t 16=N i∧h=[none,some (fill (fun x=>[N x]) [N 0] z i)]) (by simp [Zls,hz]) (by omega) ?_
 rintro i t1 hh hf hi ⟨e16,rfl⟩
 (have e1:=hf 1 (by kernel_rfl);have e2:=hf 2 (by kernel_rfl);have e3:=hf 3 (by kernel_rfl);have e9:=hf 9 (by kernel_rfl);have e15:=hf 15 (by kernel_rfl);clear hf;simp [sf] at e1 e2 e3 e9 e15)
 simp (disch:=omega) [e1,e2,e3,e9,e15,e16]
 (with_reducible first | refine Qn (fun h6=>?_) (fun h6=>?_) | refine Qm (fun h6=>?_) (fun h6=>?_))
 ·simp only [Qi,Qg,Ql,Qj,Qe,Qc,Bool.not_true,Bool.not_false] at h6
  have hlen:=Zof (z:=[N 0]) (l:=z) he rfl (i:=i) (by omega)
  have hst:=ZlD (z:=[N 0]) (l:=z) he rfl (i:=i) (by omega)
  have hpi:=hp i (by omega)
  rw [hget i (by omega)] at hst
  simp (disch:=omega) [e1,e2,e3,e9,e15,e16,Xu,sf]
  refine onFn_N hpi ?_
  simp (disch:=omega) [e1,e2,e3,e9,e15,e16,Kn,Qd,hlen]
  exact ⟨by omega,by omega,by simpa [splice] using hst⟩
 ·simp only [Qi,Qg,Ql,Qj,Qe,Qc,Bool.not_true,Bool.not_false] at h6
  rw [show i=z.length by omega,fill_N]
  simp (disch:=omega) [e9]
  rw [show a.length=z.length by omega,frz_1]
  simp
theorem plus_fn {s:GSys} (t:s.Tab) {a b:Int} (ha:s.G a) (hb:s.G b):FnN Tryz.prog (.fnm QF [s.lv]) a b (s.pl a b) :=
 ⟨QF,[s.lv,N a,N b],by simp [YO],by simp,Zfx t ha hb⟩
theorem join_fn {s:GSys} (t:s.Tab) {a b:Int} (ha:s.G a) (hb:s.G b):FnN Tryz.prog (.fnm W2 [s.lv]) a b (s.join a b) :=
 ⟨W2,[s.lv,N a,N b],by simp [YO],by simp,Zqp t ha hb⟩
theorem sumF_ok {s:GSys} (t:s.Tab) (n1 n2:Bool) (a b:List Int) (hl:a.length≤1099511627776) (hab:a.length=b.length) (ha:∀ u∈a,s.G u) (hb:∀ u∈b,s.G u) :
  Qf Tryz.prog WT [s.lv,L n1 a,L n2 b] (·=OU true false (XZ s a b)):=by
 refine Qf.of_codeOf Zes Qz (by simp) ⟨_,rfl,by simp⟩ ?_
 have h:=Zqn s (.fnm QF [s.lv]) s.pl (by simp) (by simp) n1 n2 a b hl hab (fun i hi=>plus_fn t (ha _ (List.getElem_mem _)) (hb _ (List.getElem_mem _)))
 simp (disch:=omega) [VM,Qw,Qs]
 refine Qa (r:=OU true false (XZ s a b)) h (by simp) ?_
 simp (disch:=omega)
theorem ZoE {s:GSys} (t:s.Tab) (n1 n2:Bool) (a b:List Int) (hl:a.length≤1099511627776) (hab:a.length=b.length) (ha:∀ u∈a,s.G u) (hb:∀ u∈b,s.G u) :
  Qf Tryz.prog YL [s.lv,L n1 a,L n2 b] (·=OU true false (XU s a b)):=by
 refine Qf.of_codeOf ZdI Qz (by simp) ⟨_,rfl,by simp⟩ ?_
 have h:=Zqn s (.fnm W2 [s.lv]) s.join (by simp) (by simp) n1 n2 a b hl hab (fun i hi=>join_fn t (ha _ (List.getElem_mem _)) (hb _ (List.getElem_mem _)))
 simp (disch:=omega) [Vl,Qw,Qs]
 refine Qa (r:=OU true false (XU s a b)) h (by simp) ?_
 simp (disch:=omega)
theorem VY {s:GSys} (t:s.Tab) (g:Int) (hg:s.G g) (n1:Bool) (a:List Int) (hl:a.length≤1099511627776) (ha:∀ u∈a,s.G u) :
  Qf Tryz.prog WY [s.lv,N g,L n1 a] (·=OU true false (QY s g a)):=by
 obtain ⟨z,hze⟩:∃ z,z=QY s g a:=⟨_,rfl⟩
 have hz:z.length=a.length:=by rw [hze];simp [QY]
 have hget:∀ (i:Nat) (h:i < a.length),z[i]'(by omega)=s.tm g a[i]:=by intro i h;simp [hze,QY]
 rw [← hze]
 clear hze
 refine Qf.of_codeOf Zcn Qz (by simp) ⟨_,rfl,by simp⟩ ?_
 have hm:(a.length:Int)≤(most:Nat):=by unfold most;omega
 have he:∀ x:Int,([N x]:List LV).length=1:=by simp
 simp (disch:=omega) [Kc,hm,Qw,Qs]
 refine XH a.length 0 (fun i t h=>t 15=N i∧h=[none,some (fill (fun x=>[N x]) [N 0] z i)]) (by simp [Zls,hz]) (by omega) ?_
 rintro i t1 hh hf hi ⟨e15,rfl⟩
 (have e1:=hf 1 (by kernel_rfl);have e3:=hf 3 (by kernel_rfl);have e7:=hf 7 (by kernel_rfl);have e13:=hf 13 (by kernel_rfl);have e14:=hf 14 (by kernel_rfl);clear hf;simp [] at e1 e3 e7 e13 e14)
 simp (disch:=omega) [e1,e3,e7,e13,e14,e15]
 (with_reducible first | refine Qn (fun h6=>?_) (fun h6=>?_) | refine Qm (fun h6=>?_) (fun h6=>?_))
 ·simp only [Qi,Qg,Ql,Qj,Qe,Qc,Bool.not_true,Bool.not_false] at h6
  have hlen:=Zof (z:=[N 0]) (l:=z) he rfl (i:=i) (by omega)
  have hst:=ZlD (z:=[N 0]) (l:=z) he rfl (i:=i) (by omega)
  rw [hget i (by omega)] at hst
  simp (disch:=omega) [e1,e3,e7,e13,e14,e15,Xu]
  refine Qa (ZfU t hg (ha _ (List.getElem_mem (show i < a.length by omega)))) (by simp) ?_
  simp (disch:=omega) [e1,e3,e7,e13,e14,e15,Kn,Qd,hlen]
  exact ⟨by omega,by omega,by simpa [splice] using hst⟩
 ·simp only [Qi,Qg,Ql,Qj,Qe,Qc,Bool.not_true,Bool.not_false] at h6
  rw [show i=z.length by omega,fill_N]
  simp (disch:=omega) [e7]
  rw [show a.length=z.length by omega,frz_1]
  simp
theorem ZjZ (f:LV) (p:Int→Bool) (sf:share f=f) (lf:Low 0 f) (nl:Bool) (l:List Int) (hlen:l.length≤1099511627776) (hp:∀ c∈l,FnB Tryz.prog f (N c) (p c)) :
  Qf Tryz.prog XL [L nl l,f] (fun r=>∃ n:Int,r=N n∧leB 0 n=l.any p):=by
 refine Qf.of_codeOf KZ Qz (by simp) ⟨N (if l.any p=true then 0 else -1),⟨_,rfl,by split<;>simp_all [leB]⟩,by simp⟩ ?_
 simp (disch:=omega) [Y8,sf]
 refine XH l.length 0 (fun i t _=>t 8=N i∧l.any p=(l.drop i).any p) (by simp) (by omega) ?_
 rintro i t1 hh hf hi ⟨e8,hj⟩
 (have e0:=hf 0 (by kernel_rfl);have e1:=hf 1 (by kernel_rfl);have e6:=hf 6 (by kernel_rfl);have e7:=hf 7 (by kernel_rfl);clear hf;simp [sf] at e0 e1 e6 e7)
 simp (disch:=omega) [e0,e1,e6,e7,e8]
 (with_reducible first | refine Qn (fun h6=>?_) (fun h6=>?_) | refine Qm (fun h6=>?_) (fun h6=>?_))
 ·simp only [Qi,Qg,Ql,Qj,Qe,Qc,Bool.not_true,Bool.not_false] at h6
  have hd:=List.drop_eq_getElem_cons (l:=l) (i:=i) (by omega)
  have hpc:=hp (l[i]'(by omega)) (List.getElem_mem _)
  simp (disch:=omega) [e0,e1,e6,e7,e8,Xu,sf]
  repeat' (first
  | with_reducible refine Zl4 hpc ?_
  | (with_reducible (first | refine Qn (fun hb_=>?_) (fun hb_=>?_) | refine Qm (fun hb_=>?_) (fun hb_=>?_))<;>simp (disch:=omega) [hb_,e0,e1,e6,e7,e8,Xu,sf])
  | simp (disch:=omega) [e0,e1,e6,e7,e8,Xu,sf])
  ·rw [hj,hd,List.any_cons,hb_,Bool.true_or,Ql];omega
  ·exact ⟨by omega,Qd (by omega),by rw [hj,hd,List.any_cons,hb_,Bool.false_or]⟩
 ·simp only [Qi,Qg,Ql,Qj,Qe,Qc,Bool.not_true,Bool.not_false] at h6
  simp (disch:=omega)
  rw [hj,show i=l.length by omega,List.drop_length];simp [leB]
theorem Zgf (f:LV) (p:Int→Bool) (sf:share f=f) (lf:Low 0 f) (nl:Bool) (l:List Int) (hlen:l.length≤1099511627776) (hp:∀ c∈l,FnB Tryz.prog f (N c) (p c)) :
  Qf Tryz.prog Xs [L nl l,f] (·=B (l.any p)):=by
 refine Qf.of_codeOf JY Qz (by simp) ⟨_,rfl,by simp⟩ ?_
 simp (disch:=omega) [Yv,sf]
 refine Zom (ZjZ f p sf lf nl l hlen hp) (by simp [lf]) ?_
 rintro r ⟨n,rfl,hn⟩
 simp (disch:=omega) [sf,hn]
theorem Zop {s:GSys} (t:s.Tab) {u g:Int} (hu:s.G u) (hg:s.G g):FnB Tryz.prog (.fn Xm [.rp s.cells,.rp [N g]]) (N u) (!s.le u g):=by
 refine ⟨Xm,[N u,.rp s.cells,.rp [N g]],by simp [YO],by simp,?_⟩
 refine Qf.of_codeOf Za6 Qz (by simp) ⟨_,rfl,by simp⟩ ?_
 simp (disch:=omega) [Jz]
 refine Qa (KY t hu hg) (by simp) ?_
 simp (disch:=omega)
theorem VB {s:GSys} (t:s.Tab) {g:Int} (hg:s.G g) (nl:Bool) (l:List Int) (hl:l.length≤1099511627776) (hu:∀ u∈l,s.G u):Qf Tryz.prog WZ [s.lv,L nl l,N g] (·=B (Wu s l g)):=by
 refine Qf.of_codeOf Zcs Qz (by simp) ⟨_,rfl,by simp⟩ ?_
 have hc:=Zgf (.fn Xm [.rp s.cells,.rp [N g]]) (fun u=>!s.le u g) (by simp) (by simp) nl l hl (fun c hc=>Zop t (hu c hc) hg)
 simp (disch:=omega) [J9,Qw,Qs]
 refine Qa hc (by simp) ?_
 simp (disch:=omega)
 simp [Wu,List.all_eq_not_any_not]
def cl (nl:Bool) (l:List Int):LV:=if nl=true then .sl false true 1 [] else OU true false l
theorem growI_ok (n:Int) (h0:0≤n) (h1:n≤1099511627776):Qf Tryz.prog YB [.sl false true 1 [],N n] (·=.sl (ltB 0 n) (!ltB 0 n) 1 []):=by
 refine Qf.of_codeOf Zau Qz (by simp) ⟨_,rfl,by simp⟩ ?_
 have hm:n≤(most:Nat):=by unfold most;omega
 have hneg:ltB n 0=false:=by rw [Qg];omega
 simp (disch:=omega) [Jk,Qd,hneg,Yq]
 (with_reducible first | refine Qn (fun h1=>?_) (fun h1=>?_) | refine Qm (fun h1=>?_) (fun h1=>?_))
 ·have hmm:(most:Int)=1099511627776:=rfl
  have hp:0 < n:=by rw [Qi] at h1;exact h1
  have hc:Yq 1 (.sl false true 1 []) none (some 0) none=some (.sl false true 1 []):=by simp [Yq]
  simp (disch:=omega) [h1,hc,hp,hm]
 ·simp (disch:=omega) [h1]
abbrev rowI (c:Bool×List Int):LV:=.sl false c.1 1 (c.2.map fun x=>[N x])
def ZdQ (ls:List (Bool×List Int)):List (List LV):=ls.map fun c=>[rowI c]
def lnI (ls:List (Bool×List Int)):Nat:=(ls.map fun c=>c.2.length).sum
def flI (ls:List (Bool×List Int)):List Int:=(ls.map fun c=>c.2).flatten
abbrev catI (l:List Int):LV:=.sl (ltB 0 l.length) (!ltB 0 l.length) 1 (l.map fun x=>[N x])
theorem ZhV (a b:List (Bool×List Int)):lnI (a++b)=lnI a+lnI b:=by simp [lnI]
theorem Zjh (a:Bool×List Int) (b:List (Bool×List Int)):lnI (a::b)=a.2.length+lnI b:=by simp [lnI]
theorem flI_app (a b:List (Bool×List Int)):flI (a++b)=flI a++flI b:=by simp [flI]
theorem ZjH (a:List (Bool×List Int)):(flI a).length=lnI a:=by simp [flI,lnI,Function.comp_def]
@[simp] theorem ZpW (c:Bool×List Int):share (rowI c)=rowI c:=by simp [rowI]
theorem ZiU (ls:List (Bool×List Int)) (hl:ls.length≤1099511627776) (ht:lnI ls≤1099511627776) :
  Qf Tryz.prog QZ [.sl false false 1 (ZdQ ls)] (·=catI (flI ls)):=by
 have hlow:We 0 (ZdQ ls):=by simp [ZdQ]
 have hfl:=ZjH ls
 refine Qf.of_codeOf VL Qz (by simp) ⟨_,rfl,by simp only [Zqm,ZeV,Zao,low_sc,ZbM,and_self,implies_true]⟩ ?_
 have hsr:Qq (ZdQ ls)=ZdQ ls:=by simp [ZdQ]
 simp (disch:=omega) [ZK,hsr]
 have hrl:(ZdQ ls).length=ls.length:=by simp [ZdQ]
 rw [hrl]
 have idx:∀ i:Nat,i < ls.length→QU 1 (.sl false false 1 (ZdQ ls)) (i:Int)=some (.rp [rowI (ls.getD i (false,[]))]):=fun i hi=>by
  have:=Zgr rowI ZpW ls false false i (by omega) (by omega)
  rw [ZdQ,this];simp [List.getD_eq_getElem?_getD,hi]
 have tk:∀ i:Nat,i < ls.length→ls.take (i+1)=ls.take i++[ls.getD i (false,[])]:=fun i hi=>by
  rw [List.take_succ_eq_append_getElem hi];simp [List.getD_eq_getElem?_getD,hi]
 have lnle:∀ i:Nat,lnI (ls.take i)≤lnI ls:=fun i=>by
  have:=ZhV (ls.take i) (ls.drop i)
  rw [List.take_append_drop] at this;omega
 refine Wy ls.length 0 (fun i t h=>h=[]∧t 11=N i∧t 3=N (lnI (ls.take i))) (fun t h=>h=[]∧t 3=N (lnI ls)) (by simp [lnI]) (by omega) ?_ ?_
 ·rintro i t1 hh hf hi ⟨rfl,e11,e3⟩
  (have e9:=hf 9 (by kernel_rfl);have e10:=hf 10 (by kernel_rfl);clear hf;simp [hsr] at e9 e10)
  simp (disch:=omega) [e3,e9,e10,e11]
  by_cases h6:i < ls.length
  ·have hb:ltB (i:Int) ls.length=true:=by rw [Qi];omega
   have t1':=tk i h6
   have t2:=lnle (i+1)
   have hix:=idx i h6
   rw [t1',ZhV,Zjh] at t2
   rw [t1',ZhV,Zjh]
   generalize ls.getD i (false,[])=c at t2 hix ⊢
   generalize lnI (ls.take i)=m at *
   have hnb:ltB ((m:Int)+c.2.length) 0=false:=by rw [Qg];omega
   simp (disch:=omega) [e3,e9,e10,e11,hb,hix,Qd,hnb]
   simp [lnI];omega
  ·have hb:ltB (i:Int) ls.length=false:=by rw [Qg];omega
   simp (disch:=omega) [e3,e9,e10,e11,hb]
   rw [List.take_of_length_le (by omega)]
 ·rintro t1 hh hf ⟨rfl,e3⟩
  (have e0:=hf 0 (by kernel_rfl);clear hf;simp [hsr] at e0)
  simp (disch:=omega) [e3,e0]
  refine Qa (growI_ok _ (by omega) (by omega)) (by simp) ?_
  simp (disch:=omega) [e3,e0,hsr,hrl]
  refine Wy ls.length 0 (fun i t h=>h=[]∧t 27=N i∧t 6=.sl (ltB 0 (lnI ls)) (!ltB 0 (lnI ls)) 1 ((flI (ls.take i)).map fun x=>[N x])) (fun t h=>h=[]∧t 6=catI (flI ls)) (by simp [flI]) (by omega) ?_ ?_
  ·rintro i t2 hh hf2 hi ⟨rfl,e27,e6⟩
   have e25:=hf2 25 (by kernel_rfl);have e26:=hf2 26 (by kernel_rfl);clear hf2;simp [hsr] at e25 e26
   simp (disch:=omega) [e6,e25,e26,e27]
   by_cases h6:i < ls.length
   ·have hb:ltB (i:Int) ls.length=true:=by rw [Qi];omega
    have t1':=tk i h6
    have t2':=lnle (i+1)
    have t3:=ZjH (ls.take i)
    have hix:=idx i h6
    rw [t1',ZhV,Zjh] at t2'
    rw [t1',flI_app]
    generalize ls.getD i (false,[])=c at t2' hix ⊢
    rw [← t3] at t2'
    generalize flI (ls.take i)=m at *
    simp (disch:=omega) [e6,e25,e26,e27,hb,hix,Qd]
    have ap:WS 1 (.sl (ltB 0 (lnI ls)) (!ltB 0 (lnI ls)) 1 (m.map fun x=>[N x])) (.sl false c.1 1 (c.2.map fun x=>[N x]))=some (.sl (ltB 0 (lnI ls)) (!ltB 0 (lnI ls)) 1 ((m++c.2).map fun x=>[N x])):=by
     cases hq:ltB 0 (lnI ls:Int)
     ·rw [Qg] at hq
      have c0:c.2=[]:=List.eq_nil_of_length_eq_zero (by omega)
      have m0:m=[]:=List.eq_nil_of_length_eq_zero (by omega)
      simp [WS,c0,m0,most]
     ·simp only [WS]
      rw [if_pos ⟨by simp,.inl trivial,.inl trivial,by simp [most];omega⟩]
      simp
    have e0:flI [c]=c.2:=by simp [flI]
    rw [ap]
    simp (disch:=omega) [e6,e25,e26,e27,hb,hix,Qd,e0]
    omega
   ·have hb:ltB (i:Int) ls.length=false:=by rw [Qg];omega
    simp (disch:=omega) [e6,e25,e26,e27,hb]
    rw [List.take_of_length_le (by omega),hfl]
    exact ⟨rfl,rfl⟩
  ·rintro t1 hh hf ⟨rfl,e6⟩
   simp (disch:=omega) [e6]
theorem growC_ok (n:Int) (h0:0≤n) (h1:n≤1099511627776):Qf Tryz.prog XR [.sl false true 1 [],N n] (·=.sl (ltB 0 n) (!ltB 0 n) 1 []):=by
 refine Qf.of_codeOf Vf Qz (by simp) ⟨_,rfl,by simp⟩ ?_
 have hm:n≤(most:Nat):=by unfold most;omega
 have hneg:ltB n 0=false:=by rw [Qg];omega
 simp (disch:=omega) [Zr,Qd,hneg,Yq]
 (with_reducible first | refine Qn (fun h1=>?_) (fun h1=>?_) | refine Qm (fun h1=>?_) (fun h1=>?_))
 ·have hmm:(most:Int)=1099511627776:=rfl
  have hp:0 < n:=by rw [Qi] at h1;exact h1
  have hc:Yq 1 (.sl false true 1 []) none (some 0) none=some (.sl false true 1 []):=by simp [Yq]
  simp (disch:=omega) [h1,hc,hp,hm]
 ·simp (disch:=omega) [h1]
abbrev rowC (c:Bool×List (Bool×List Int)):LV:=.sl false c.1 1 (c.2.map fun x=>[eC x])
def Zeb (ls:List (Bool×List (Bool×List Int))):List (List LV):=ls.map fun c=>[rowC c]
def lnC (ls:List (Bool×List (Bool×List Int))):Nat:=(ls.map fun c=>c.2.length).sum
def flC (ls:List (Bool×List (Bool×List Int))):List (Bool×List Int):=(ls.map fun c=>c.2).flatten
abbrev catC (l:List (Bool×List Int)):LV:=.sl (ltB 0 l.length) (!ltB 0 l.length) 1 (l.map fun x=>[eC x])
theorem ZhS (a b:List (Bool×List (Bool×List Int))):lnC (a++b)=lnC a+lnC b:=by simp [lnC]
theorem ZiK (a:Bool×List (Bool×List Int)) (b:List (Bool×List (Bool×List Int))):lnC (a::b)=a.2.length+lnC b:=by simp [lnC]
theorem flC_app (a b:List (Bool×List (Bool×List Int))):flC (a++b)=flC a++flC b:=by simp [flC]
theorem Zil (a:List (Bool×List (Bool×List Int))):(flC a).length=lnC a:=by simp [flC,lnC,Function.comp_def]
@[simp] theorem Zpk (c:Bool×List (Bool×List Int)):share (rowC c)=rowC c:=by simp [rowC]
theorem Zpy (ls:List (Bool×List (Bool×List Int))) (hl:ls.length≤1099511627776) (ht:lnC ls≤1099511627776) :
  Qf Tryz.prog XD [.sl false false 1 (Zeb ls)] (·=catC (flC ls)):=by
 have hlow:We 0 (Zeb ls):=by simp [Zeb]
 have hfl:=Zil ls
 refine Qf.of_codeOf Ku Qz (by simp) ⟨_,rfl,by simp only [Zqm,ZeV,Zao,low_sc,ZbM,and_self,implies_true]⟩ ?_
 have hsr:Qq (Zeb ls)=Zeb ls:=by simp [Zeb]
 simp (disch:=omega) [YX,hsr]
 have hrl:(Zeb ls).length=ls.length:=by simp [Zeb]
 rw [hrl]
 have idx:∀ i:Nat,i < ls.length→QU 1 (.sl false false 1 (Zeb ls)) (i:Int)=some (.rp [rowC (ls.getD i (false,[]))]):=fun i hi=>by
  have:=Zgr rowC Zpk ls false false i (by omega) (by omega)
  rw [Zeb,this];simp [List.getD_eq_getElem?_getD,hi]
 have tk:∀ i:Nat,i < ls.length→ls.take (i+1)=ls.take i++[ls.getD i (false,[])]:=fun i hi=>by
  rw [List.take_succ_eq_append_getElem hi];simp [List.getD_eq_getElem?_getD,hi]
 have lnle:∀ i:Nat,lnC (ls.take i)≤lnC ls:=fun i=>by
  have:=ZhS (ls.take i) (ls.drop i)
  rw [List.take_append_drop] at this;omega
 refine Wy ls.length 0 (fun i t h=>h=[]∧t 11=N i∧t 3=N (lnC (ls.take i))) (fun t h=>h=[]∧t 3=N (lnC ls)) (by simp [lnC]) (by omega) ?_ ?_
 ·rintro i t1 hh hf hi ⟨rfl,e11,e3⟩
  (have e9:=hf 9 (by kernel_rfl);have e10:=hf 10 (by kernel_rfl);clear hf;simp [hsr] at e9 e10)
  simp (disch:=omega) [e3,e9,e10,e11]
  by_cases h6:i < ls.length
  ·have hb:ltB (i:Int) ls.length=true:=by rw [Qi];omega
   have t1':=tk i h6
   have t2:=lnle (i+1)
   have hix:=idx i h6
   rw [t1',ZhS,ZiK] at t2
   rw [t1',ZhS,ZiK]
   generalize ls.getD i (false,[])=c at t2 hix ⊢
   generalize lnC (ls.take i)=m at *
   have hnb:ltB ((m:Int)+c.2.length) 0=false:=by rw [Qg];omega
   simp (disch:=omega) [e3,e9,e10,e11,hb,hix,Qd,hnb]
   simp [lnC];omega
  ·have hb:ltB (i:Int) ls.length=false:=by rw [Qg];omega
   simp (disch:=omega) [e3,e9,e10,e11,hb]
   rw [List.take_of_length_le (by omega)]
 ·rintro t1 hh hf ⟨rfl,e3⟩
  (have e0:=hf 0 (by kernel_rfl);clear hf;simp [hsr] at e0)
  simp (disch:=omega) [e3,e0]
  refine Qa (growC_ok _ (by omega) (by omega)) (by simp) ?_
  simp (disch:=omega) [e3,e0,hsr,hrl]
  refine Wy ls.length 0 (fun i t h=>h=[]∧t 27=N i∧t 6=.sl (ltB 0 (lnC ls)) (!ltB 0 (lnC ls)) 1 ((flC (ls.take i)).map fun x=>[eC x])) (fun t h=>h=[]∧t 6=catC (flC ls)) (by simp [flC]) (by omega) ?_ ?_
  ·rintro i t2 hh hf2 hi ⟨rfl,e27,e6⟩
   have e25:=hf2 25 (by kernel_rfl);have e26:=hf2 26 (by kernel_rfl);clear hf2;simp [hsr] at e25 e26
   simp (disch:=omega) [e6,e25,e26,e27]
   by_cases h6:i < ls.length
   ·have hb:ltB (i:Int) ls.length=true:=by rw [Qi];omega
    have t1':=tk i h6
    have t2':=lnle (i+1)
    have t3:=Zil (ls.take i)
    have hix:=idx i h6
    rw [t1',ZhS,ZiK] at t2'
    rw [t1',flC_app]
    generalize ls.getD i (false,[])=c at t2' hix ⊢
    rw [← t3] at t2'
    generalize flC (ls.take i)=m at *
    simp (disch:=omega) [e6,e25,e26,e27,hb,hix,Qd]
    have ap:WS 1 (.sl (ltB 0 (lnC ls)) (!ltB 0 (lnC ls)) 1 (m.map fun x=>[eC x])) (.sl false c.1 1 (c.2.map fun x=>[eC x]))=some (.sl (ltB 0 (lnC ls)) (!ltB 0 (lnC ls)) 1 ((m++c.2).map fun x=>[eC x])):=by
     cases hq:ltB 0 (lnC ls:Int)
     ·rw [Qg] at hq
      have c0:c.2=[]:=List.eq_nil_of_length_eq_zero (by omega)
      have m0:m=[]:=List.eq_nil_of_length_eq_zero (by omega)
      simp [WS,c0,m0,most]
     ·simp only [WS]
      rw [if_pos ⟨by simp,.inl trivial,.inl trivial,by simp [most];omega⟩]
      simp
    have e0:flC [c]=c.2:=by simp [flC]
    rw [ap]
    simp (disch:=omega) [e6,e25,e26,e27,hb,hix,Qd,e0]
    omega
   ·have hb:ltB (i:Int) ls.length=false:=by rw [Qg];omega
    simp (disch:=omega) [e6,e25,e26,e27,hb]
    rw [List.take_of_length_le (by omega),hfl]
    exact ⟨rfl,rfl⟩
  ·rintro t1 hh hf ⟨rfl,e6⟩
   simp (disch:=omega) [e6]
attribute [local simp low] Xi
attribute [local simp] ZeU Zev Zek ZeY Zel ZeQ
theorem long_ok (u nl:Bool) (l:List Int):Qf Tryz.prog Zdk [.sl u nl 1 (l.map fun n=>[N n])] (·=B (ltB 40 l.length)):=by
 refine Qf.of_codeOf Zn3 Qz (by simp) ⟨_,rfl,by simp⟩ ?_
 simp (contextual:=true) (disch:=omega) [Zhj]
theorem Znw (nl:Bool) (l:List Int) (hl:l.length≤1099511627776) (hw:∀ n∈l,I64 n) (i:Int) (hi:I64 i):Qf Tryz.prog Xe [L nl l,N i] (·=N (ZI l i)):=ZiC nl l ⟨hl,hw⟩ i hi
def Qh (ts:List RT):List (List LV):=ts.map fun t=>[.sl false false 1 (t.flat.map fun n=>[N n])]
theorem Zo4 (dn:List RT):(Qh dn).length≤(WP dn).length:=by
 induction dn with
 | nil=>simp [Qh]
 | cons a dn ih =>
  have:=a.flat_pos
  simp only [Qh,List.length_map] at ih
  simp [Qh,WP];omega
theorem parts_ok (c:Int) (ks:List RT) (hok:(RT.nd c ks).ok) (hl:(RT.nd c ks).flat.length≤1099511627776) (hw:∀ n∈(RT.nd c ks).flat,I64 n) :
  Qf Tryz.prog ZY [L false (RT.nd c ks).flat] (·=.sl (!ks.isEmpty) ks.isEmpty 1 (Qh ks)):=by
 refine Qf.of_codeOf Zm6 Qz (by simp) ⟨_,rfl,by simp [Qh]⟩ ?_
 simp (contextual:=true) (disch:=omega) [ZfD]
 generalize hL:(RT.nd c ks).flat=l at *
 refine Zrf (fun k s=>∃ dn rest,ks=dn++rest∧k=rest.length∧s.h=[]∧s.t 0=L false l∧s.t 3=.sl (!dn.isEmpty) dn.isEmpty 1 (Qh dn)∧s.t 4=N ((WP dn).length+1)) ks.length ?_ ?_
 ·refine ⟨[],ks,rfl,rfl,?_⟩
  simp [Qh,WP]
 ·rintro k s ⟨dn,rest,hks,hk,h1,h2,h3,h4⟩
  simp (contextual:=true) (disch:=omega) [h1,h2,h3,h4]
  subst hks
  refine ⟨fun _ h5=>?_,fun _ h5=>?_⟩
  ·match rest with
   | [] =>
    exfalso
    rw [← hL] at h5
    simp only [RT.flat,Kg,WP,List.length_cons,List.length_append] at h5
    simp at h5
   | t::rest =>
    have hd:l.drop ((WP dn).length+1)=t.flat++WP rest:=by
     rw [← hL]
     simp [RT.flat,Kg,WP]
    have hll:l.length=(WP dn).length+1+t.flat.length+(WP rest).length:=by
     rw [← hL]
     simp [RT.flat,Kg,WP];omega
    have he:ZI l ((WP dn).length+1)=(WP dn).length+1+t.flat.length:=by
     unfold ZI
     rw [if_pos (by omega),show (((WP dn).length:Int)+1).toNat=(WP dn).length+1 by omega,hd]
     simp only [RT.ok] at hok
     have:=(ZhN.1 hok.2) t (by simp)
     rw [Zey this]
     omega
    have hp:=t.flat_pos
    refine Qa (Znw false l hl hw _ ⟨by omega,by omega⟩) (by simp) ?_
    rw [he]
    have hrow:List.drop ((WP dn).length+1) (List.take ((WP dn).length+1+t.flat.length) l)=t.flat:=by
     rw [List.drop_take,hd,show (WP dn).length+1+t.flat.length - ((WP dn).length+1)=t.flat.length by omega]
     simp
    have hrow:=congrArg (List.map fun n:Int=>[N n]) hrow
    rw [List.map_drop,List.map_take] at hrow
    have hn:(((WP dn).length:Int)+1+t.flat.length).toNat=(WP dn).length+1+t.flat.length:=by omega
    have hne:¬ (((WP dn).length:Int)+1=(WP dn).length+1+t.flat.length):=by omega
    have hks:(Qh dn).length+1≤most:=by
     have:=Zo4 dn
     unfold most;omega
    simp (contextual:=true) (disch:=omega) [h2,h3,h4,Yq,WS,hn,hne,hrow,hks]
    refine ⟨by omega,Classical.em _ |>.symm,rest.length,by simp [hk],dn++[t],rest,by simp,rfl,⟨by simp,by simp [Qh]⟩,by simp [Kg,WP];omega⟩
  ·match rest with
   | []=>simp [Qh]
   | t::rest =>
    exfalso
    rw [← hL] at h5
    simp only [RT.flat,Kg,WP,List.length_cons,List.length_append] at h5
    have:=t.flat_pos
    omega
def ln (ls:List (List Int)):Nat:=(ls.map List.length).sum
end Go.Proofs.YthdkhhebanogbaaGreat