/- Part 3 of the proof of the row of the text YtbmepminmpjlcaaGreatZRowEvaluate: texts joined. No conditions. -/
import Derived.IntWalk
import Derived.Test.YtbmepminmpjlcaaGreatZbRowEvaluate
set_option linter.unusedSimpArgs false
set_option linter.unusedVariables false
set_option linter.unusedSectionVars false
namespace Go.TL
def mdOf (l:List (Nat×List Md)) (id:Nat):List Md:=match l with
 | []=>[]
 | (i,ms)::l=>if i=id then ms else mdOf l id
def Ze5 (P:Program) (f:FuncId) (m:List (Nat×List Md)):Option (C×List RV×Nat) :=
 if Zak P f=true then match P.funcs[f]? with
  | some fn=>match fn.body with
   | some c=>match cC P fn.ntmps (mdOf m) c,rvOf P fn.ntmps fn.results.toList with
    | some k,some rv=>some (k,rv,fn.ntmps)
    | _,_=>none
   | none=>none
  | none=>none
 else none
def Qq (P:Program) (f:FuncId) (m:List (Nat×List Md)):Option (C×List RV×Nat):=match Ze5 P f m with
 | some (k,r,n)=>if k.thws=true then none else some (k,r,n)
 | none=>none
theorem Zd3 {P:Program} {f:FuncId} {m:List (Nat×List Md)} {k:C} {rvs:List RV} {n:Nat} (h:Qq P f m=some (k,rvs,n)):Ze5 P f m=some (k,rvs,n)∧k.thws=false:=by
 unfold Qq at h
 split at h
 ·rename_i k' r' n' h1
  split at h
  ·simp at h
  ·rename_i h2
   simp only [Option.some.injEq,Prod.mk.injEq] at h
   obtain ⟨rfl,rfl,rfl⟩:=h
   exact ⟨h1,by simpa using h2⟩
 ·simp at h
instance:Inhabited St:=⟨⟨fun _=>.dead,[]⟩⟩
abbrev N (n:Int):LV:=.sc (.int .i64 n)
abbrev B (b:Bool):LV:=.sc (.bool b)
theorem Qe.of_codeOfT {P:Program} {f:FuncId} {m:List (Nat×List Md)} {k:C} {rvs:List RV} {n:Nat} {args:List LV} {R:LV->Prop} (hc:Ze5 P f m=some (k,rvs,n)) (hm:P.follows .mixedOrders=true)
  (hth:k.thws=true->shareAll args=args) (hlen:args.length<=n) (hex:∃ r,R r∧Low 0 r)
  (hw:wpC P k (fun e s=>(e=.normal∨e=.ret)∧∃ vs s',Ys s rvs=some (vs,s')∧Low 0 (ZdR vs)∧R (ZdR vs)) { t:=env args,h:=[] }):Qe P f args R:=by
 unfold Ze5 at hc
 split at hc
 ·rename_i hcal
  split at hc
  ·rename_i fn hf
   split at hc
   ·rename_i c hb
    split at hc
    ·rename_i k' rv' h1 h2
     simp only [Option.some.injEq,Prod.mk.injEq] at hc
     obtain ⟨rfl,rfl,rfl⟩:=hc
     exact Qe.of_code hm hcal hf hb h1 h2 hlen hth hex hw
    ·simp at hc
   ·simp at hc
  ·simp at hc
 ·simp at hc
theorem Qe.of_codeOf {P:Program} {f:FuncId} {m:List (Nat×List Md)} {k:C} {rvs:List RV} {n:Nat} {args:List LV} {R:LV->Prop} (hc:Qq P f m=some (k,rvs,n)) (hm:P.follows .mixedOrders=true)
  (hlen:args.length<=n) (hex:∃ r,R r∧Low 0 r)
  (hw:wpC P k (fun e s=>(e=.normal∨e=.ret)∧∃ vs s',Ys s rvs=some (vs,s')∧Low 0 (ZdR vs)∧R (ZdR vs)) { t:=env args,h:=[] }):Qe P f args R :=
 Qe.of_codeOfT (Zd3 hc).1 hm (fun h=>by rw [(Zd3 hc).2] at h;simp at h) hlen hex hw
theorem QE.of_codeOf {P:Program} {f:FuncId} {m:List (Nat×List Md)} {k:C} {rvs:List RV} {n:Nat} {args:List LV} {h:List Box} {R:LV->List Box->Prop} (hc:Qq P f m=some (k,rvs,n)) (hm:P.follows .mixedOrders=true)
  (hlen:args.length<=n) (hex:∃ r h',R r h') (hw:wpC P k (KZ rvs h.length R) { t:=env args,h:=h }):QE P f args h R:=by
 have hth:=(Zd3 hc).2
 replace hc:=(Zd3 hc).1
 unfold Ze5 at hc
 split at hc
 ·rename_i hcal
  split at hc
  ·rename_i fn hf
   split at hc
   ·rename_i c hb
    split at hc
    ·rename_i k' rv' h1 h2
     simp only [Option.some.injEq,Prod.mk.injEq] at hc
     obtain ⟨rfl,rfl,rfl⟩:=hc
     exact QE.of_code hm hcal hf hb h1 h2 hlen (fun h=>by rw [hth] at h;simp at h) hex hw
    ·simp at hc
   ·simp at hc
  ·simp at hc
 ·simp at hc
def WU (o:Option St) (K:St->Prop):Prop:=∃ s,o=some s∧K s
class Bx where
 out:Prop
def Q4 (o:Option Bool) (w:Bool) [p:Bx] [q:Bx]:Prop:=∃ b,o=some b∧(b=w->p.out)∧(¬ b=w->q.out)
def onFn (P:Program) (rw:Rw) (v:LV) (vals:List LV) (d:Option Nat) (K:St->Prop) (s:St):Prop :=
 ∃ fid ws,ZW v vals=some (fid,ws)∧Zb8 P rw fid ws s.h (fun r h'=>K (WA s d r h'))
def Jf (P:Program) (rw:Rw) (f:FuncId) (vals:List LV) (d:Option Nat) (K:St->Prop) (s:St):Prop :=
 Zb8 P rw f vals s.h (fun r h'=>K (WA s d r h'))
@[congr] theorem onFn_congr {P:Program} {rw:Rw} {v v':LV} {vals vals':List LV} {d:Option Nat} {K:St->Prop} {s:St} (h:v=v') (h2:vals=vals'):onFn P rw v vals d K s=onFn P rw v' vals' d K s:=by rw [h,h2]
@[congr] theorem onCall_congr {P:Program} {rw:Rw} {f:FuncId} {vals vals':List LV} {d:Option Nat} {K:St->Prop} {s:St} (h2:vals=vals'):Jf P rw f vals d K s=Jf P rw f vals' d K s:=by rw [h2]
@[congr] theorem onSt_congr {o o':Option St} {K:St->Prop} (h:o=o'):WU o K=WU o' K:=by rw [h]
@[congr] theorem onBool_congr {o o':Option Bool} {w:Bool} {p q:Bx} (h:o=o'):@Q4 o w p q=@Q4 o' w p q:=by rw [h]
@[simp] theorem onSt_some {s:St} {K:St->Prop}:WU (some s) K=K s:=by simp [WU]
@[simp] theorem onSt_none {K:St->Prop}:WU none K=False:=by simp [WU]
@[simp] theorem onSt_ite {c:Prop} [Decidable c] {o:Option St} {K:St->Prop}:WU (if c then o else none) K=(c∧WU o K):=by
 by_cases h:c<;>simp [h,WU]
theorem Xp {b w:Bool} {p q:Prop}:@Q4 (some b) w ⟨p⟩ ⟨q⟩=((b=w->p)∧(¬ b=w->q)):=by simp [Q4]
section
variable {P:Program} {K:St->Prop} {Q:Exit->St->Prop} {s:St}
@[simp ↓] theorem wpL_nil:wpL P [] K s=K s:=rfl
@[simp ↓] theorem wpL_cons {g:GI} {gs:List GI}:wpL P (g::gs) K s=wpG P g (wpL P gs K) s:=rfl
@[simp ↓] theorem wpG_plain {i:I} (h:i.isCall=false):wpG P (none,i) K s=WU (step i s) K:=by
 rw [eq_iff_iff,Wl h];rfl
@[simp ↓] theorem Q8 {i:I} {j:Nat} {w:Bool} (h:i.isCall=false):wpG P (some (j,w),i) K s=@Q4 (gd w (s.t j)) w ⟨WU (step i s) K⟩ ⟨K (skip i s)⟩:=by
 rw [eq_iff_iff,Wl h]
 unfold Wj Q4 WU
 constructor
 ·rintro ⟨s',h1,h2⟩
  simp only at h1
  split at h1
  ·rename_i b hb
   refine ⟨b,hb,fun hw=>?_,fun hw=>?_⟩
   ·rw [if_pos hw] at h1;exact ⟨s',h1,h2⟩
   ·rw [if_neg hw] at h1;simp only [Option.some.injEq] at h1;subst h1;exact h2
  ·simp at h1
 ·rintro ⟨b,hb,h1,h2⟩
  simp only [hb]
  by_cases hw:b=w
  ·obtain ⟨s',h3,h4⟩:=h1 hw
   exact ⟨s',by rw [if_pos hw];exact h3,h4⟩
  ·exact ⟨_,by rw [if_neg hw],h2 hw⟩
@[simp ↓] theorem wpG_callG {rw:Rw} {d:Option Nat} {f:X} {args:List X} {j:Nat} {w:Bool}:wpG P (some (j,w),.call rw d f args) K s=@Q4 (gd w (s.t j)) w ⟨wpG P (none,.call rw d f args) K s⟩ ⟨K (skip (.call rw d f args) s)⟩:=rfl
@[simp ↓] theorem wpG_callP {rw:Rw} {d:Option Nat} {f:X} {args:List X}:wpG P (none,.call rw d f args) K s=onFn P rw (get s.t f) (args.map fun x=>share (get s.t x)) d K s:=rfl
@[simp] theorem onFn_fn {rw:Rw} {d:Option Nat} {f:FuncId} {caps vals:List LV}:onFn P rw (.fn f caps) vals d K s=Jf P rw f (vals++shareAll caps) d K s:=by
 simp only [onFn,ZW,eq_iff_iff]
 constructor
 ·rintro ⟨fid,ws,h,h2⟩
  simp only [Option.some.injEq,Prod.mk.injEq] at h
  obtain ⟨rfl,rfl⟩:=h
  exact h2
 ·intro h;exact ⟨f,_,rfl,h⟩
@[simp] theorem onFn_fnm {rw:Rw} {d:Option Nat} {f:FuncId} {first vals:List LV}:onFn P rw (.fnm f first) vals d K s=Jf P rw f (shareAll first++vals) d K s:=by
 simp only [onFn,ZW,eq_iff_iff]
 constructor
 ·rintro ⟨fid,ws,h,h2⟩
  simp only [Option.some.injEq,Prod.mk.injEq] at h
  obtain ⟨rfl,rfl⟩:=h
  exact h2
 ·intro h;exact ⟨f,_,rfl,h⟩
theorem Qp {rw:Rw} {d:Nat} {f:FuncId} {vals:List LV} {R:LV->Prop} (c:Qe P f vals R) (hl:QI 0 vals) (hk:∀ r,R r->K { t:=upd s.t d r,h:=s.h }) (hrw:rw≠.fr∧rw.isAp=false:=by simp [Rw.isAp]):Jf P rw f vals (some d) K s:=by
 unfold Jf
 cases rw with
 | ap sz=>simp [Rw.isAp] at hrw
 | any=>rw [Zag];exact (c.lift hl s.h).mono fun r h' hr=>by rw [hr.1];exact hk r hr.2
 | no=>rw [Zcb];exact ⟨hl,R,c,fun r hr=>hk r hr⟩
 | fr=>exact absurd rfl hrw.1
theorem Qa {rw:Rw} {d:Nat} {f:FuncId} {vals:List LV} {r:LV} (c:Qe P f vals (·=r)) (hl:QI 0 vals) (hk:K { t:=upd s.t d r,h:=s.h }) (hrw:rw≠.fr∧rw.isAp=false:=by simp [Rw.isAp]):Jf P rw f vals (some d) K s :=
 Qp c hl (fun _ e=>e ▸ hk) hrw
theorem Zti {b:C} (I:Nat->St->Prop) (k:Nat) (h0:I k s) (hr:∀ k s,I k s->wpC P b (Yu (fun s'=>∃ k',k' < k∧I k' s') Q) s):wpC P (.loop b) Q s:=⟨I,k,h0,hr⟩
@[simp ↓] theorem wpC_skip:wpC P .skip Q s=Q .normal s:=rfl
@[simp ↓] theorem wpC_reg {gs:List GI}:wpC P (.reg gs) Q s=wpL P gs (Q .normal) s:=rfl
@[simp ↓] theorem wpC_par {its:List (It GI)}:wpC P (.par its) Q s=Y5 P its (Q .normal) s:=rfl
@[simp ↓] theorem wpIts_nil:Y5 P [] K s=K s:=rfl
@[simp ↓] theorem wpIts_one {g:GI} {its:List (It GI)}:Y5 P (.one g::its) K s=wpG P g (Y5 P its K) s:=rfl
@[simp ↓] theorem wpIts_two {g g':GI} {its:List (It GI)}:Y5 P (.two g g'::its) K s=(wpG P g (wpG P g' (Y5 P its K)) s∧wpG P g' (wpG P g (Y5 P its K)) s):=rfl
@[simp ↓] theorem wpIts_grp {gs:List GI} {g:GI} {its:List (It GI)}:Y5 P (.grp gs g::its) K s=ZdE P gs g (Y5 P its K) s:=rfl
@[simp ↓] theorem wpGrp_nil {g:GI}:ZdE P [] g K s=wpG P g K s:=rfl
@[simp ↓] theorem wpGrp_cons {a g:GI} {as:List GI}:ZdE P (a::as) g K s=(wpG P a (ZdE P as g K) s∧wpG P g (wpL P (a::as) K) s):=rfl
def Zqc (k:Nat) (v:LV) (s:St):Option St:=match v with
 | .rp _=>some s
 | .sl _ _ _ _=>some s
 | _=>step (.mv k .frz (.t k)) s
@[simp] theorem frzSt_sl {k sz:Nat} {u nl:Bool} {xs:List (List LV)}:Zqc k (.sl u nl sz xs) s=some s:=rfl
@[simp] theorem frzSt_rp {k:Nat} {xs:List LV}:Zqc k (.rp xs) s=some s:=rfl
@[simp] theorem frzSt_ptr {k l o:Nat}:Zqc k (.ptr l o) s=step (.mv k .frz (.t k)) s:=rfl
@[simp] theorem frzSt_ha {k l sz off n cap:Nat}:Zqc k (.ha l sz off n cap) s=step (.mv k .frz (.t k)) s:=rfl
@[simp ↓] theorem wpC_frz {k:Nat}:wpC P (.frz k) Q s=WU (Zqc k (s.t k) s) (Q .normal):=rfl
@[simp ↓] theorem wpC_seq {a b:C}:wpC P (.seq a b) Q s=wpC P a (Yu (wpC P b Q) Q) s:=rfl
@[simp ↓] theorem wpC_block {a:C} {i:Nat}:wpC P (.block i a) Q s=wpC P a (YP i Q) s:=rfl
@[simp ↓] theorem wpC_exit {i:Nat}:wpC P (.exit i) Q s=Q (.exit i) s:=rfl
@[simp ↓] theorem wpC_ret:wpC P .ret Q s=Q .ret s:=rfl
@[simp ↓] theorem wpC_cond {x:X} {a b:C}:wpC P (.cond x a b) Q s=@Q4 (Zd7 (get s.t x)) true ⟨wpC P a Q s⟩ ⟨wpC P b Q s⟩:=by
 simp only [wpC,Q4,eq_iff_iff]
 constructor
 ·rintro ⟨v,h1,h2,h3⟩;exact ⟨v,h1,h2,fun h=>h3 (by simpa using h)⟩
 ·rintro ⟨v,h1,h2,h3⟩;exact ⟨v,h1,h2,fun h=>h3 (by simp [h])⟩
@[simp ↓] theorem wpG_mv {d:Nat} {m:Md} {x:X}:wpG P (none,.mv d m x) K s=WU (step (.mv d m x) s) K:=rfl
@[simp ↓] theorem wpGg_mv {j:Nat} {w:Bool} {d:Nat} {m:Md} {x:X}:wpG P (some (j,w),.mv d m x) K s=@Q4 (gd w (s.t j)) w ⟨WU (step (.mv d m x) s) K⟩ ⟨K (skip (.mv d m x) s)⟩:=Q8 rfl
@[simp] theorem skip_mv {d:Nat} {m:Md} {x:X}:skip (.mv d m x) s=s.put d (.sc undef):=rfl
@[simp ↓] theorem wpG_box {d:Nat} {x:X}:wpG P (none,.box d x) K s=WU (step (.box d x) s) K:=rfl
@[simp ↓] theorem wpGg_box {j:Nat} {w:Bool} {d:Nat} {x:X}:wpG P (some (j,w),.box d x) K s=@Q4 (gd w (s.t j)) w ⟨WU (step (.box d x) s) K⟩ ⟨K (skip (.box d x) s)⟩:=Q8 rfl
@[simp] theorem skip_box {d:Nat} {x:X}:skip (.box d x) s=s.put d (.sc undef):=rfl
@[simp ↓] theorem wpG_alloc {d:Nat} {z:List LV}:wpG P (none,.alloc d z) K s=WU (step (.alloc d z) s) K:=rfl
@[simp ↓] theorem wpGg_alloc {j:Nat} {w:Bool} {d:Nat} {z:List LV}:wpG P (some (j,w),.alloc d z) K s=@Q4 (gd w (s.t j)) w ⟨WU (step (.alloc d z) s) K⟩ ⟨K (skip (.alloc d z) s)⟩:=Q8 rfl
@[simp] theorem skip_alloc {d:Nat} {z:List LV}:skip (.alloc d z) s=s.put d (.sc undef):=rfl
@[simp ↓] theorem wpG_load {d:Nat} {m:Md} {ag:Bool} {sz:Nat} {x:X}:wpG P (none,.load d m ag sz x) K s=WU (step (.load d m ag sz x) s) K:=rfl
@[simp ↓] theorem wpGg_load {j:Nat} {w:Bool} {d:Nat} {m:Md} {ag:Bool} {sz:Nat} {x:X}:wpG P (some (j,w),.load d m ag sz x) K s=@Q4 (gd w (s.t j)) w ⟨WU (step (.load d m ag sz x) s) K⟩ ⟨K (skip (.load d m ag sz x) s)⟩:=Q8 rfl
@[simp] theorem skip_load {d:Nat} {m:Md} {ag:Bool} {sz:Nat} {x:X}:skip (.load d m ag sz x) s=s.put d (.sc undef):=rfl
@[simp ↓] theorem wpG_store {sz:Nat} {x:X} {y:X}:wpG P (none,.store sz x y) K s=WU (step (.store sz x y) s) K:=rfl
@[simp ↓] theorem wpGg_store {j:Nat} {w:Bool} {sz:Nat} {x:X} {y:X}:wpG P (some (j,w),.store sz x y) K s=@Q4 (gd w (s.t j)) w ⟨WU (step (.store sz x y) s) K⟩ ⟨K (skip (.store sz x y) s)⟩:=Q8 rfl
@[simp] theorem skip_store {sz:Nat} {x:X} {y:X}:skip (.store sz x y) s=s:=rfl
@[simp ↓] theorem wpG_bin {d:Nat} {c:Cm} {op:BinOp} {x:X} {y:X}:wpG P (none,.bin d c op x y) K s=WU (step (.bin d c op x y) s) K:=rfl
@[simp ↓] theorem wpGg_bin {j:Nat} {w:Bool} {d:Nat} {c:Cm} {op:BinOp} {x:X} {y:X}:wpG P (some (j,w),.bin d c op x y) K s=@Q4 (gd w (s.t j)) w ⟨WU (step (.bin d c op x y) s) K⟩ ⟨K (skip (.bin d c op x y) s)⟩:=Q8 rfl
@[simp] theorem skip_bin {d:Nat} {c:Cm} {op:BinOp} {x:X} {y:X}:skip (.bin d c op x y) s=s.put d (.sc undef):=rfl
@[simp ↓] theorem wpG_un {d:Nat} {op:UnOp} {x:X}:wpG P (none,.un d op x) K s=WU (step (.un d op x) s) K:=rfl
@[simp ↓] theorem wpGg_un {j:Nat} {w:Bool} {d:Nat} {op:UnOp} {x:X}:wpG P (some (j,w),.un d op x) K s=@Q4 (gd w (s.t j)) w ⟨WU (step (.un d op x) s) K⟩ ⟨K (skip (.un d op x) s)⟩:=Q8 rfl
@[simp] theorem skip_un {d:Nat} {op:UnOp} {x:X}:skip (.un d op x) s=s.put d (.sc undef):=rfl
@[simp ↓] theorem wpG_build {d:Nat} {z:List LV} {ps:List (Nat×Nat×X)}:wpG P (none,.build d z ps) K s=WU (step (.build d z ps) s) K:=rfl
@[simp ↓] theorem wpGg_build {j:Nat} {w:Bool} {d:Nat} {z:List LV} {ps:List (Nat×Nat×X)}:wpG P (some (j,w),.build d z ps) K s=@Q4 (gd w (s.t j)) w ⟨WU (step (.build d z ps) s) K⟩ ⟨K (skip (.build d z ps) s)⟩:=Q8 rfl
@[simp] theorem skip_build {d:Nat} {z:List LV} {ps:List (Nat×Nat×X)}:skip (.build d z ps) s=s.put d (.sc undef):=rfl
@[simp ↓] theorem wpG_bslice {d:Nat} {sz:Nat} {len:Nat} {z:List LV} {ps:List (Nat×Nat×X)}:wpG P (none,.bslice d sz len z ps) K s=WU (step (.bslice d sz len z ps) s) K:=rfl
@[simp ↓] theorem wpGg_bslice {j:Nat} {w:Bool} {d:Nat} {sz:Nat} {len:Nat} {z:List LV} {ps:List (Nat×Nat×X)}:wpG P (some (j,w),.bslice d sz len z ps) K s=@Q4 (gd w (s.t j)) w ⟨WU (step (.bslice d sz len z ps) s) K⟩ ⟨K (skip (.bslice d sz len z ps) s)⟩:=Q8 rfl
@[simp] theorem skip_bslice {d:Nat} {sz:Nat} {len:Nat} {z:List LV} {ps:List (Nat×Nat×X)}:skip (.bslice d sz len z ps) s=s.put d (.sc undef):=rfl
@[simp ↓] theorem wpG_slice {d:Nat} {sz:Nat} {x:X} {lo:Option X} {hi:Option X} {mx:Option X}:wpG P (none,.slice d sz x lo hi mx) K s=WU (step (.slice d sz x lo hi mx) s) K:=rfl
@[simp ↓] theorem wpGg_slice {j:Nat} {w:Bool} {d:Nat} {sz:Nat} {x:X} {lo:Option X} {hi:Option X} {mx:Option X}:wpG P (some (j,w),.slice d sz x lo hi mx) K s=@Q4 (gd w (s.t j)) w ⟨WU (step (.slice d sz x lo hi mx) s) K⟩ ⟨K (skip (.slice d sz x lo hi mx) s)⟩:=Q8 rfl
@[simp] theorem skip_slice {d:Nat} {sz:Nat} {x:X} {lo:Option X} {hi:Option X} {mx:Option X}:skip (.slice d sz x lo hi mx) s=s.put d (.sc undef):=rfl
@[simp ↓] theorem wpG_sliceS {d:Nat} {x:X} {lo:Option X} {hi:Option X}:wpG P (none,.sliceS d x lo hi) K s=WU (step (.sliceS d x lo hi) s) K:=rfl
@[simp ↓] theorem wpGg_sliceS {j:Nat} {w:Bool} {d:Nat} {x:X} {lo:Option X} {hi:Option X}:wpG P (some (j,w),.sliceS d x lo hi) K s=@Q4 (gd w (s.t j)) w ⟨WU (step (.sliceS d x lo hi) s) K⟩ ⟨K (skip (.sliceS d x lo hi) s)⟩:=Q8 rfl
@[simp] theorem skip_sliceS {d:Nat} {x:X} {lo:Option X} {hi:Option X}:skip (.sliceS d x lo hi) s=s.put d (.sc undef):=rfl
@[simp ↓] theorem wpG_fieldA {d:Nat} {off:Nat} {x:X}:wpG P (none,.fieldA d off x) K s=WU (step (.fieldA d off x) s) K:=rfl
@[simp ↓] theorem wpGg_fieldA {j:Nat} {w:Bool} {d:Nat} {off:Nat} {x:X}:wpG P (some (j,w),.fieldA d off x) K s=@Q4 (gd w (s.t j)) w ⟨WU (step (.fieldA d off x) s) K⟩ ⟨K (skip (.fieldA d off x) s)⟩:=Q8 rfl
@[simp] theorem skip_fieldA {d:Nat} {off:Nat} {x:X}:skip (.fieldA d off x) s=s.put d (.sc undef):=rfl
@[simp ↓] theorem wpG_field {d:Nat} {ag:Bool} {off:Nat} {sz:Nat} {x:X}:wpG P (none,.field d ag off sz x) K s=WU (step (.field d ag off sz x) s) K:=rfl
@[simp ↓] theorem wpGg_field {j:Nat} {w:Bool} {d:Nat} {ag:Bool} {off:Nat} {sz:Nat} {x:X}:wpG P (some (j,w),.field d ag off sz x) K s=@Q4 (gd w (s.t j)) w ⟨WU (step (.field d ag off sz x) s) K⟩ ⟨K (skip (.field d ag off sz x) s)⟩:=Q8 rfl
@[simp] theorem skip_field {d:Nat} {ag:Bool} {off:Nat} {sz:Nat} {x:X}:skip (.field d ag off sz x) s=s.put d (.sc undef):=rfl
@[simp ↓] theorem wpG_indexA {d:Nat} {sz:Nat} {x:X} {i:X}:wpG P (none,.indexA d sz x i) K s=WU (step (.indexA d sz x i) s) K:=rfl
@[simp ↓] theorem wpG_indexT {d:Nat} {sz:Nat} {x:X} {i:X}:wpG P (none,.indexT d sz x i) K s=WU (step (.indexT d sz x i) s) K:=rfl
@[simp ↓] theorem wpG_loadT {d:Nat} {ag:Bool} {sz:Nat} {x:X}:wpG P (none,.loadT d ag sz x) K s=WU (step (.loadT d ag sz x) s) K:=rfl
@[simp ↓] theorem wpG_loadP {d i:Nat} {ag:Bool} {sz:Nat} {x:X}:wpG P (none,.loadP d i ag sz x) K s=WU (step (.loadP d i ag sz x) s) K:=rfl
@[simp ↓] theorem wpGg_indexA {j:Nat} {w:Bool} {d:Nat} {sz:Nat} {x:X} {i:X}:wpG P (some (j,w),.indexA d sz x i) K s=@Q4 (gd w (s.t j)) w ⟨WU (step (.indexA d sz x i) s) K⟩ ⟨K (skip (.indexA d sz x i) s)⟩:=Q8 rfl
@[simp ↓] theorem wpGg_indexT {j:Nat} {w:Bool} {d:Nat} {sz:Nat} {x:X} {i:X}:wpG P (some (j,w),.indexT d sz x i) K s=@Q4 (gd w (s.t j)) w ⟨WU (step (.indexT d sz x i) s) K⟩ ⟨K (skip (.indexT d sz x i) s)⟩:=Q8 rfl
@[simp ↓] theorem wpGg_loadT {j:Nat} {w:Bool} {d:Nat} {ag:Bool} {sz:Nat} {x:X}:wpG P (some (j,w),.loadT d ag sz x) K s=@Q4 (gd w (s.t j)) w ⟨WU (step (.loadT d ag sz x) s) K⟩ ⟨K (skip (.loadT d ag sz x) s)⟩:=Q8 rfl
@[simp ↓] theorem wpGg_loadP {j:Nat} {w:Bool} {d i:Nat} {ag:Bool} {sz:Nat} {x:X}:wpG P (some (j,w),.loadP d i ag sz x) K s=@Q4 (gd w (s.t j)) w ⟨WU (step (.loadP d i ag sz x) s) K⟩ ⟨K (skip (.loadP d i ag sz x) s)⟩:=Q8 rfl
@[simp] theorem skip_indexA {d:Nat} {sz:Nat} {x:X} {i:X}:skip (.indexA d sz x i) s=s.put d (.sc undef):=rfl
@[simp] theorem skip_indexT {d:Nat} {sz:Nat} {x:X} {i:X}:skip (.indexT d sz x i) s=s.put d (.sc undef):=rfl
@[simp] theorem skip_loadT {d:Nat} {ag:Bool} {sz:Nat} {x:X}:skip (.loadT d ag sz x) s=s.put d (.sc undef):=rfl
@[simp] theorem skip_loadP {d i:Nat} {ag:Bool} {sz:Nat} {x:X}:skip (.loadP d i ag sz x) s=s.put d (.sc undef):=rfl
@[simp ↓] theorem wpG_indexS {d:Nat} {x:X} {i:X}:wpG P (none,.indexS d x i) K s=WU (step (.indexS d x i) s) K:=rfl
@[simp ↓] theorem wpGg_indexS {j:Nat} {w:Bool} {d:Nat} {x:X} {i:X}:wpG P (some (j,w),.indexS d x i) K s=@Q4 (gd w (s.t j)) w ⟨WU (step (.indexS d x i) s) K⟩ ⟨K (skip (.indexS d x i) s)⟩:=Q8 rfl
@[simp] theorem skip_indexS {d:Nat} {x:X} {i:X}:skip (.indexS d x i) s=s.put d (.sc undef):=rfl
@[simp ↓] theorem wpG_extract {d:Nat} {k:Nat} {x:X}:wpG P (none,.extract d k x) K s=WU (step (.extract d k x) s) K:=rfl
@[simp ↓] theorem wpGg_extract {j:Nat} {w:Bool} {d:Nat} {k:Nat} {x:X}:wpG P (some (j,w),.extract d k x) K s=@Q4 (gd w (s.t j)) w ⟨WU (step (.extract d k x) s) K⟩ ⟨K (skip (.extract d k x) s)⟩:=Q8 rfl
@[simp] theorem skip_extract {d:Nat} {k:Nat} {x:X}:skip (.extract d k x) s=s.put d (.sc undef):=rfl
@[simp ↓] theorem wpG_len {d:Nat} {x:X}:wpG P (none,.len d x) K s=WU (step (.len d x) s) K:=rfl
@[simp ↓] theorem wpGg_len {j:Nat} {w:Bool} {d:Nat} {x:X}:wpG P (some (j,w),.len d x) K s=@Q4 (gd w (s.t j)) w ⟨WU (step (.len d x) s) K⟩ ⟨K (skip (.len d x) s)⟩:=Q8 rfl
@[simp] theorem skip_len {d:Nat} {x:X}:skip (.len d x) s=s.put d (.sc undef):=rfl
@[simp ↓] theorem wpG_lenS {d:Nat} {x:X}:wpG P (none,.lenS d x) K s=WU (step (.lenS d x) s) K:=rfl
@[simp ↓] theorem wpGg_lenS {j:Nat} {w:Bool} {d:Nat} {x:X}:wpG P (some (j,w),.lenS d x) K s=@Q4 (gd w (s.t j)) w ⟨WU (step (.lenS d x) s) K⟩ ⟨K (skip (.lenS d x) s)⟩:=Q8 rfl
@[simp] theorem skip_lenS {d:Nat} {x:X}:skip (.lenS d x) s=s.put d (.sc undef):=rfl
@[simp ↓] theorem wpG_append {d:Nat} {sz:Nat} {x:X} {y:X}:wpG P (none,.append d sz x y) K s=WU (step (.append d sz x y) s) K:=rfl
@[simp ↓] theorem wpGg_append {j:Nat} {w:Bool} {d:Nat} {sz:Nat} {x:X} {y:X}:wpG P (some (j,w),.append d sz x y) K s=@Q4 (gd w (s.t j)) w ⟨WU (step (.append d sz x y) s) K⟩ ⟨K (skip (.append d sz x y) s)⟩:=Q8 rfl
@[simp] theorem skip_append {d:Nat} {sz:Nat} {x:X} {y:X}:skip (.append d sz x y) s=s.put d (.sc undef):=rfl
@[simp ↓] theorem wpG_mkslice {d:Nat} {sz:Nat} {z:List LV} {n:X}:wpG P (none,.mkslice d sz z n) K s=WU (step (.mkslice d sz z n) s) K:=rfl
@[simp ↓] theorem wpGg_mkslice {j:Nat} {w:Bool} {d:Nat} {sz:Nat} {z:List LV} {n:X}:wpG P (some (j,w),.mkslice d sz z n) K s=@Q4 (gd w (s.t j)) w ⟨WU (step (.mkslice d sz z n) s) K⟩ ⟨K (skip (.mkslice d sz z n) s)⟩:=Q8 rfl
@[simp] theorem skip_mkslice {d:Nat} {sz:Nat} {z:List LV} {n:X}:skip (.mkslice d sz z n) s=s.put d (.sc undef):=rfl
@[simp ↓] theorem wpG_minmax {d:Nat} {mx:Bool} {x:X} {y:X}:wpG P (none,.minmax d mx x y) K s=WU (step (.minmax d mx x y) s) K:=rfl
@[simp ↓] theorem wpGg_minmax {j:Nat} {w:Bool} {d:Nat} {mx:Bool} {x:X} {y:X}:wpG P (some (j,w),.minmax d mx x y) K s=@Q4 (gd w (s.t j)) w ⟨WU (step (.minmax d mx x y) s) K⟩ ⟨K (skip (.minmax d mx x y) s)⟩:=Q8 rfl
@[simp] theorem skip_minmax {d:Nat} {mx:Bool} {x:X} {y:X}:skip (.minmax d mx x y) s=s.put d (.sc undef):=rfl
@[simp ↓] theorem wpG_mkfn {d:Nat} {f:FuncId} {m:Bool} {caps:List X}:wpG P (none,.mkfn d f m caps) K s=WU (step (.mkfn d f m caps) s) K:=rfl
@[simp ↓] theorem wpGg_mkfn {j:Nat} {w:Bool} {d:Nat} {f:FuncId} {m:Bool} {caps:List X}:wpG P (some (j,w),.mkfn d f m caps) K s=@Q4 (gd w (s.t j)) w ⟨WU (step (.mkfn d f m caps) s) K⟩ ⟨K (skip (.mkfn d f m caps) s)⟩:=Q8 rfl
@[simp] theorem skip_mkfn {d:Nat} {f:FuncId} {m:Bool} {caps:List X}:skip (.mkfn d f m caps) s=s.put d (.sc undef):=rfl
@[simp ↓] theorem wpG_nilchk {d:Nat} {x:X}:wpG P (none,.nilchk d x) K s=WU (step (.nilchk d x) s) K:=rfl
@[simp ↓] theorem wpGg_nilchk {j:Nat} {w:Bool} {d:Nat} {x:X}:wpG P (some (j,w),.nilchk d x) K s=@Q4 (gd w (s.t j)) w ⟨WU (step (.nilchk d x) s) K⟩ ⟨K (skip (.nilchk d x) s)⟩:=Q8 rfl
@[simp] theorem skip_nilchk {d:Nat} {x:X}:skip (.nilchk d x) s=s.put d (.sc undef):=rfl
@[simp ↓] theorem wpG_conv {d:Nat} {k:IntKind} {x:X}:wpG P (none,.conv d k x) K s=WU (step (.conv d k x) s) K:=rfl
@[simp ↓] theorem wpGg_conv {j:Nat} {w:Bool} {d:Nat} {k:IntKind} {x:X}:wpG P (some (j,w),.conv d k x) K s=@Q4 (gd w (s.t j)) w ⟨WU (step (.conv d k x) s) K⟩ ⟨K (skip (.conv d k x) s)⟩:=Q8 rfl
@[simp] theorem skip_conv {d:Nat} {k:IntKind} {x:X}:skip (.conv d k x) s=s.put d (.sc undef):=rfl
@[simp ↓] theorem wpG_pick {d:Nat} {c:X} {x:X} {y:X}:wpG P (none,.pick d c x y) K s=WU (step (.pick d c x y) s) K:=rfl
@[simp ↓] theorem wpGg_pick {j:Nat} {w:Bool} {d:Nat} {c:X} {x:X} {y:X}:wpG P (some (j,w),.pick d c x y) K s=@Q4 (gd w (s.t j)) w ⟨WU (step (.pick d c x y) s) K⟩ ⟨K (skip (.pick d c x y) s)⟩:=Q8 rfl
@[simp] theorem skip_pick {d:Nat} {c:X} {x:X} {y:X}:skip (.pick d c x y) s=s.put d (.sc undef):=rfl
@[simp ↓] theorem wpG_cap {d:Nat} {x:X}:wpG P (none,.cap d x) K s=WU (step (.cap d x) s) K:=rfl
@[simp ↓] theorem wpGg_cap {j:Nat} {w:Bool} {d:Nat} {x:X}:wpG P (some (j,w),.cap d x) K s=@Q4 (gd w (s.t j)) w ⟨WU (step (.cap d x) s) K⟩ ⟨K (skip (.cap d x) s)⟩:=Q8 rfl
@[simp] theorem skip_cap {d:Nat} {x:X}:skip (.cap d x) s=s.put d (.sc undef):=rfl
@[simp ↓] theorem wpG_growz {d sz:Nat} {x n:X}:wpG P (none,.growz d sz x n) K s=WU (step (.growz d sz x n) s) K:=rfl
@[simp ↓] theorem wpGg_growz {j:Nat} {w:Bool} {d sz:Nat} {x n:X}:wpG P (some (j,w),.growz d sz x n) K s=@Q4 (gd w (s.t j)) w ⟨WU (step (.growz d sz x n) s) K⟩ ⟨K (skip (.growz d sz x n) s)⟩:=Q8 rfl
@[simp] theorem skip_growz {d sz:Nat} {x n:X}:skip (.growz d sz x n) s=s.put d (.sc undef):=rfl
@[simp ↓] theorem wpG_cut0 {d sz:Nat} {x hi:X}:wpG P (none,.cut0 d sz x hi) K s=WU (step (.cut0 d sz x hi) s) K:=rfl
@[simp ↓] theorem wpGg_cut0 {j:Nat} {w:Bool} {d sz:Nat} {x hi:X}:wpG P (some (j,w),.cut0 d sz x hi) K s=@Q4 (gd w (s.t j)) w ⟨WU (step (.cut0 d sz x hi) s) K⟩ ⟨K (skip (.cut0 d sz x hi) s)⟩:=Q8 rfl
@[simp] theorem skip_cut0 {d sz:Nat} {x hi:X}:skip (.cut0 d sz x hi) s=s.put d (.sc undef):=rfl
@[simp ↓] theorem wpG_bad {d:Option Nat}:wpG P (none,.bad d) K s=WU (step (.bad d) s) K:=rfl
@[simp ↓] theorem wpGg_bad {j:Nat} {w:Bool} {d:Option Nat}:wpG P (some (j,w),.bad d) K s=@Q4 (gd w (s.t j)) w ⟨WU (step (.bad d) s) K⟩ ⟨K (skip (.bad d) s)⟩:=Q8 rfl
@[simp] theorem skip_bad {d:Option Nat}:skip (.bad d) s=match d with | some d=>s.put d (.sc undef) | none=>s:=rfl
@[simp] theorem skip_call {rw:Rw} {d:Nat} {f:X} {args:List X}:skip (.call rw (some d) f args) s=s.put d (.sc undef):=rfl
@[simp] theorem step_mvc {d:Nat} {x:X}:step (.mv d .copy x) s=some (s.put d (share (get s.t x))):=rfl
@[simp] theorem step_mvt {d:Nat} {x:X}:step (.mv d .take x) s=some ((s.give x).put d (get s.t x)):=rfl
@[simp] theorem step_bin {d:Nat} {c:Cm} {op:BinOp} {x y:X}:step (.bin d c op x y) s=(XB c op (get s.t x) (get s.t y)).map (s.put d):=rfl
@[simp] theorem step_un {d:Nat} {op:UnOp} {x:X}:step (.un d op x) s=(unLV op (get s.t x)).map (s.put d):=rfl
@[simp] theorem step_build {d:Nat} {z:List LV} {ps:List (Nat×Nat×X)}:step (.build d z ps) s=(Kf s.t z ps).map fun zs=>({ s with t:=ZB s.t (ps.map fun p=>p.2.2) }:St).put d (.agg zs):=rfl
@[simp] theorem step_bslice {d sz len:Nat} {z:List LV} {ps:List (Nat×Nat×X)}:step (.bslice d sz len z ps) s=(Kf s.t z ps).map fun zs=>({ s with t:=ZB s.t (ps.map fun p=>p.2.2) }:St).put d (.sl true false sz (Qn sz len zs)):=rfl
@[simp] theorem step_len {d:Nat} {x:X}:step (.len d x) s=(Zbg (get s.t x)).map fun (n:Nat)=>s.put d (.sc (.int .i64 (n:Int))):=rfl
@[simp] theorem step_lenS {d:Nat} {x:X}:step (.lenS d x) s=(Zh3 (get s.t x)).map fun (n:Nat)=>s.put d (.sc (.int .i64 (n:Int))):=rfl
@[simp] theorem step_mkfn {d:Nat} {f:FuncId} {m:Bool} {caps:List X}:step (.mkfn d f m caps) s=some (s.put d (if m=true then .fnm f (caps.map fun c=>share (get s.t c)) else .fn f (caps.map fun c=>share (get s.t c)))):=rfl
@[simp] theorem step_alloc {d:Nat} {z:List LV}:step (.alloc d z) s=some ({ s with h:=s.h++[some z] }.put d (.ptr s.h.length 0)):=rfl
@[simp] theorem step_conv {d:Nat} {k:IntKind} {x:X}:step (.conv d k x) s=(intOf (get s.t x)).map fun n=>s.put d (.sc (.int k (k.wrap n))):=rfl
def leB (a b:Int):Bool:=decide (a<=b)
def ltB (a b:Int):Bool:=decide (a < b)
def eqB (a b:Int):Bool:=decide (a=b)
theorem Qi {a b:Int}:leB a b=true ↔ a<=b:=by simp [leB]
theorem Qh {a b:Int}:leB a b=false ↔ b < a:=by simp [leB]
theorem Qf {a b:Int}:ltB a b=true ↔ a < b:=by simp [ltB]
theorem Qd {a b:Int}:ltB a b=false ↔ b<=a:=by simp [ltB]
theorem Qc {a b:Int}:eqB a b=true ↔ a=b:=by simp [eqB]
theorem Qb {a b:Int}:eqB a b=false ↔ a≠b:=by simp [eqB]
@[simp] theorem onBool_tt {p q:Prop}:@Q4 (some true) true ⟨p⟩ ⟨q⟩=p:=by rw [Xp];simp
@[simp] theorem onBool_ft {p q:Prop}:@Q4 (some false) true ⟨p⟩ ⟨q⟩=q:=by rw [Xp];simp
@[simp] theorem onBool_tf {p q:Prop}:@Q4 (some true) false ⟨p⟩ ⟨q⟩=q:=by rw [Xp];simp
@[simp] theorem onBool_ff {p q:Prop}:@Q4 (some false) false ⟨p⟩ ⟨q⟩=p:=by rw [Xp];simp
theorem Zng {a b:Int} {w:Bool} {p q:Prop}:@Q4 (some (leB a b)) w ⟨p⟩ ⟨q⟩=if w=true then ((leB a b=true->a<=b->p)∧(leB a b=false->b < a->q)) else ((leB a b=true->a<=b->q)∧(leB a b=false->b < a->p)):=by
 rw [Xp];cases w<;>by_cases h:a<=b<;>simp [leB,h]<;>omega
theorem Zgp {a b:Int} {p q:Prop}:@Q4 (some (leB a b)) true ⟨p⟩ ⟨q⟩=((leB a b=true->a<=b->p)∧(leB a b=false->b < a->q)):=by rw [Zng,if_pos rfl]
theorem Zf6 {a b:Int} {p q:Prop}:@Q4 (some (leB a b)) false ⟨p⟩ ⟨q⟩=((leB a b=true->a<=b->q)∧(leB a b=false->b < a->p)):=by rw [Zng,if_neg (by simp)]
theorem ZnI {a b:Int} {w:Bool} {p q:Prop}:@Q4 (some (ltB a b)) w ⟨p⟩ ⟨q⟩=if w=true then ((ltB a b=true->a < b->p)∧(ltB a b=false->b<=a->q)) else ((ltB a b=true->a < b->q)∧(ltB a b=false->b<=a->p)):=by
 rw [Xp];cases w<;>by_cases h:a < b<;>simp [ltB,h]<;>omega
theorem Zga {a b:Int} {p q:Prop}:@Q4 (some (ltB a b)) true ⟨p⟩ ⟨q⟩=((ltB a b=true->a < b->p)∧(ltB a b=false->b<=a->q)):=by rw [ZnI,if_pos rfl]
theorem ZfZ {a b:Int} {p q:Prop}:@Q4 (some (ltB a b)) false ⟨p⟩ ⟨q⟩=((ltB a b=true->a < b->q)∧(ltB a b=false->b<=a->p)):=by rw [ZnI,if_neg (by simp)]
theorem Znb {a b:Int} {w:Bool} {p q:Prop}:@Q4 (some (eqB a b)) w ⟨p⟩ ⟨q⟩=if w=true then ((eqB a b=true->a<=b->b<=a->p)∧(eqB a b=false->¬ a=b->q)) else ((eqB a b=true->a<=b->b<=a->q)∧(eqB a b=false->¬ a=b->p)):=by
 rw [Xp];cases w<;>by_cases h:a=b<;>simp [eqB,h]
theorem Zf3 {a b:Int} {p q:Prop}:@Q4 (some (eqB a b)) true ⟨p⟩ ⟨q⟩=((eqB a b=true->a<=b->b<=a->p)∧(eqB a b=false->¬ a=b->q)):=by rw [Znb,if_pos rfl]
theorem Zgn {a b:Int} {p q:Prop}:@Q4 (some (eqB a b)) false ⟨p⟩ ⟨q⟩=((eqB a b=true->a<=b->b<=a->q)∧(eqB a b=false->¬ a=b->p)):=by rw [Znb,if_neg (by simp)]
@[simp] theorem bin_add {a b:Int}:XB .num .add (.sc (.int .i64 a)) (.sc (.int .i64 b))=some (.sc (.int .i64 (IntKind.i64.wrap (a+b)))):=by simp [XB,KS]
@[simp] theorem bin_sub {a b:Int}:XB .num .sub (.sc (.int .i64 a)) (.sc (.int .i64 b))=some (.sc (.int .i64 (IntKind.i64.wrap (a - b)))):=by simp [XB,KS]
@[simp] theorem bin_mul {a b:Int}:XB .num .mul (.sc (.int .i64 a)) (.sc (.int .i64 b))=some (.sc (.int .i64 (IntKind.i64.wrap (a * b)))):=by simp [XB,KS]
@[simp] theorem bin_leq {k:IntKind} {a b:Int}:XB .num .leq (.sc (.int k a)) (.sc (.int k b))=some (.sc (.bool (leB a b))):=by simp [XB,KS,leB]
@[simp] theorem bin_geq {k:IntKind} {a b:Int}:XB .num .geq (.sc (.int k a)) (.sc (.int k b))=some (.sc (.bool (leB b a))):=by simp [XB,KS,leB]
@[simp] theorem bin_lss {k:IntKind} {a b:Int}:XB .num .lss (.sc (.int k a)) (.sc (.int k b))=some (.sc (.bool (ltB a b))):=by simp [XB,KS,ltB]
@[simp] theorem bin_gtr {k:IntKind} {a b:Int}:XB .num .gtr (.sc (.int k a)) (.sc (.int k b))=some (.sc (.bool (ltB b a))):=by simp [XB,KS,ltB]
@[simp] theorem bin_eql {k:IntKind} {a b:Int}:XB .num .eql (.sc (.int k a)) (.sc (.int k b))=some (.sc (.bool (eqB a b))):=by
 by_cases h:a=b<;>simp [XB,KS,eqB,h]
@[simp] theorem bin_neq {k:IntKind} {a b:Int}:XB .num .neq (.sc (.int k a)) (.sc (.int k b))=some (.sc (.bool (!eqB a b))):=by
 by_cases h:a=b<;>simp [XB,KS,eqB,h]
@[simp] theorem un_not {b:Bool}:unLV .not (.sc (.bool b))=some (.sc (.bool !b)):=rfl
@[simp] theorem onBool_not {b w:Bool} {p q:Prop}:@Q4 (some (!b)) w ⟨p⟩ ⟨q⟩=@Q4 (some b) (!w) ⟨p⟩ ⟨q⟩:=by
 rw [Xp,Xp];cases b<;>cases w<;>simp
@[simp] theorem onBool_lit {b w:Bool} {p q:Prop} (h:b=w):@Q4 (some b) w ⟨p⟩ ⟨q⟩=p:=by rw [Xp];simp [h]
@[simp] theorem low_sc {k:Nat} {v:Value}:Low k (.sc v)=True:=by simp [Low]
@[simp] theorem low_sl {k:Nat} {u nl:Bool} {sz:Nat} {xs:List (List LV)}:Low k (.sl u nl sz xs)=WV k xs:=by simp [Low]
@[simp] theorem low_rp {k:Nat} {xs:List LV}:Low k (.rp xs)=QI k xs:=by simp [Low]
@[simp] theorem low_fn {k:Nat} {f:FuncId} {xs:List LV}:Low k (.fn f xs)=QI k xs:=by simp [Low]
@[simp] theorem low_fnm {k:Nat} {f:FuncId} {xs:List LV}:Low k (.fnm f xs)=QI k xs:=by simp [Low]
@[simp] theorem low_agg {k:Nat} {xs:List LV}:Low k (.agg xs)=QI k xs:=by simp [Low]
@[simp] theorem low_tup {k:Nat} {xs:List LV}:Low k (.tup xs)=QI k xs:=by simp [Low]
@[simp] theorem low_raw {k sz:Nat}:Low k (.raw sz)=True:=by simp [Low]
@[simp] theorem low_dead {k:Nat}:Low k .dead=True:=by simp [Low]
@[simp] theorem Zls {k:Nat}:QI k []=True:=by simp [QI]
@[simp] theorem ZiL {k:Nat} {x:LV} {xs:List LV}:QI k (x::xs)=(Low k x∧QI k xs):=by simp [QI]
@[simp] theorem lowRow_nil {k:Nat}:WV k []=True:=by simp [WV]
@[simp] theorem lowRow_cons {k:Nat} {x:List LV} {xs:List (List LV)}:WV k (x::xs)=(QI k x∧WV k xs):=by simp [WV]
@[simp] theorem lowRow_app {k:Nat} {xs ys:List (List LV)}:WV k (xs++ys)=(WV k xs∧WV k ys):=by
 induction xs with
 | nil=>simp
 | cons x xs ih=>simp [ih,and_assoc]
@[simp] theorem Zle {k:Nat} {xs ys:List LV}:QI k (xs++ys)=(QI k xs∧QI k ys):=by
 induction xs with
 | nil=>simp
 | cons x xs ih=>simp [ih,and_assoc]
@[simp] theorem Zk4 {α:Type} {k:Nat} {xs:List α} {e:α->List LV}:WV k (xs.map e)=∀ x∈xs,QI k (e x):=by
 induction xs with
 | nil=>simp
 | cons x xs ih=>simp [ih]
@[simp] theorem rvVals_nil {s:St}:Ys s []=some ([],s):=rfl
@[simp] theorem rvVals_tmp {s:St} {t:Nat} {rs:List RV}:Ys s (.tmp t::rs)=(Ys { s with t:=upd s.t t (share (s.t t)) } rs).map fun p=>(s.t t::p.1,p.2):=by
 simp only [Ys,Zg9]
 cases Ys { s with t:=upd s.t t (share (s.t t)) } rs<;>rfl
@[simp] theorem pack_one {v:LV}:ZdR [v]=v:=rfl
@[simp] theorem pack_two {v u:LV} {vs:List LV}:ZdR (v::u::vs)=.tup (v::u::vs):=rfl
@[simp] theorem pack_none:ZdR []=.tup []:=rfl
def boolLV (o:Option Bool) (K:Bool->Option St):Option St:=match o with
 | some b=>K b
 | none=>none
@[simp] theorem boolLV_some {b:Bool} {F:Bool->Option St}:boolLV (some b) F=F b:=rfl
def QP (sz:Nat) (v:LV) (i:Int):Option LV :=
 match v with
 | .sl _ _ sz' xs=>if sz'=sz∧0<=i∧i < xs.length then some (share (.rp (xs.getD i.toNat []))) else none
 | .ha l sz' off n _=>if sz'=sz∧0<=i∧i < n then some (.ptr l ((off+i.toNat) * sz)) else none
 | _=>none
def ZZ (sz:Nat) (v:LV) (lo hi mx:Option Int):Option LV :=
 match v with
 | .sl _ nil sz' xs=>if sz'=sz∧0<=lo.getD 0∧lo.getD 0<=hi.getD xs.length∧hi.getD xs.length<=mx.getD xs.length∧mx.getD xs.length<=xs.length then
   some (.sl (mx.isSome && decide (lo.getD 0=mx.getD xs.length)) nil sz (Qv ((xs.take (hi.getD xs.length).toNat).drop (lo.getD 0).toNat))) else none
 | .ha b sz' off n cap=>if sz'=sz∧lo.getD 0=0∧0<=hi.getD n∧hi.getD n<=n∧n<=cap∧mx.isSome=false then some (.ha b sz off (hi.getD n).toNat cap) else none
 | _=>none
def Wy (sz:Nat) (x y:LV):Option LV :=
 match x,y with
 | .sl u nil sz' xs,.sl _ nil2 sz2 ys =>
   if (u=true∨nil=true∨ys=[])∧(sz'=sz∨nil=true)∧(sz2=sz∨nil2=true)∧xs.length+ys.length<=WX then
    some (.sl (u || !ys.isEmpty) (nil && ys.isEmpty) sz (xs++ys)) else none
 | _,_=>none
def fldLV (ag:Bool) (off sz:Nat) (v:LV):Option LV :=
 match v with
 | .agg xs=>if off+sz<=xs.length then (Wp ag ((xs.drop off).take sz)).map share else none
 | _=>none
def Zru (v:LV) (i:Int):Option LV :=
 match v with
 | .sc (.string b)=>if 0<=i∧i < b.size then some (.sc (.int .u8 ((b.data.toList.getD i.toNat 0).toNat:Int))) else none
 | _=>none
def scutLV (v:LV) (lo hi:Option Int):Option LV :=
 match v with
 | .sc (.string b)=>if 0<=lo.getD 0∧lo.getD 0<=hi.getD b.size∧hi.getD b.size<=b.size then some (.sc (.string (b.extract (lo.getD 0).toNat (hi.getD b.size).toNat))) else none
 | _=>none
def bnd (t:Nat->LV):Option X->Option (Option Int)
 | none=>some none
 | some x=>(intOf (get t x)).map some
@[simp] theorem bnd_none {t:Nat->LV}:bnd t none=some none:=rfl
@[simp] theorem bnd_some {t:Nat->LV} {x:X}:bnd t (some x)=(intOf (get t x)).map some:=rfl
theorem ZnO {t:Nat->LV} {d:Int} {o:Option X}:bound t d o=(bnd t o).map (·.getD d):=by
 cases o with
 | none=>rfl
 | some x=>cases h:intOf (get t x)<;>simp [bound,h]
@[simp] theorem intOf_sc {k:IntKind} {n:Int}:intOf (.sc (.int k n))=some n:=rfl
@[simp] theorem gd_bool {w b:Bool}:gd w (.sc (.bool b))=some b:=rfl
@[simp] theorem gd_undefT:gd true (.sc undef)=some false:=rfl
@[simp] theorem gd_undefF:gd false (.sc undef)=some true:=rfl
@[simp] theorem boolOf_sc {b:Bool}:Zd7 (.sc (.bool b))=some b:=rfl
@[simp] theorem lenLV_sl {u nl:Bool} {sz:Nat} {xs:List (List LV)}:Zbg (.sl u nl sz xs)=some xs.length:=rfl
@[simp] theorem lenLV_ha {l sz off n cap:Nat}:Zbg (.ha l sz off n cap)=some n:=rfl
@[simp] theorem lenStr_sc {b:ByteArray}:Zh3 (.sc (.string b))=some b.size:=rfl
@[simp] theorem step_pick {d:Nat} {c x y:X}:step (.pick d c x y) s=boolLV (Zd7 (get s.t c)) fun b=>some (s.put d (share (get s.t (if b=true then x else y)))):=by
 simp only [step]
 split
 ·rename_i b h;rw [h];rfl
 ·rename_i h
  cases hb:Zd7 (get s.t c) with
  | none=>rfl
  | some b=>exact absurd (by unfold Zd7 at hb;split at hb<;>simp_all) (h b)
@[simp] theorem step_indexA {d sz:Nat} {x i:X}:step (.indexA d sz x i) s=((intOf (get s.t i)).bind (QP sz (get s.t x))).map (s.put d):=by
 simp only [step]
 cases hi:intOf (get s.t i) with
 | none=>cases get s.t x<;>simp
 | some i=>cases get s.t x<;>simp [QP]<;>(try split)<;>simp_all
@[simp] theorem step_indexS {d:Nat} {x i:X}:step (.indexS d x i) s=((intOf (get s.t i)).bind (Zru (get s.t x))).map (s.put d):=by
 simp only [step]
 cases hi:intOf (get s.t i) with
 | none=>cases hv:get s.t x with
  | sc v=>cases v<;>simp
  | _=>simp
 | some i=>cases hv:get s.t x with
  | sc v=>cases v<;>simp [Zru]<;>(try split)<;>simp_all
  | _=>simp [Zru]
@[simp] theorem step_slice {d sz:Nat} {x:X} {lo hi mx:Option X}:step (.slice d sz x lo hi mx) s=((bnd s.t lo).bind fun a=>(bnd s.t hi).bind fun b=>(bnd s.t mx).bind fun c=>ZZ sz (get s.t x) a b c).map (s.put d):=by
 simp only [step,ZZ,ZnO]
 cases hv:get s.t x with
 | sl u nl sz' xs =>
  cases ha:bnd s.t lo<;>cases hb:bnd s.t hi<;>cases hc:bnd s.t mx<;>try (simp;done)
  rename_i va vb vc
  have hs:vc.isSome=mx.isSome:=by
   cases mx with
   | none=>simp at hc;rw [<- hc];rfl
   | some x=>simp at hc;obtain ⟨_,_,h⟩:=hc;rw [<- h];rfl
  simp only [Option.map_some,Option.bind_some,hs]
  split<;>rfl
 | ha b sz' off n cap =>
  cases ha:bnd s.t lo<;>cases hb:bnd s.t hi<;>cases hc:bnd s.t mx<;>try (simp;done)
  rename_i va vb vc
  have hs:vc.isSome=mx.isSome:=by
   cases mx with
   | none=>simp at hc;rw [<- hc];rfl
   | some x=>simp at hc;obtain ⟨_,_,h⟩:=hc;rw [<- h];rfl
  simp only [Option.map_some,Option.bind_some,hs]
  split<;>rfl
 | _=>cases ha:bnd s.t lo<;>cases hb:bnd s.t hi<;>cases hc:bnd s.t mx<;>simp
@[simp] theorem step_sliceS {d:Nat} {x:X} {lo hi:Option X}:step (.sliceS d x lo hi) s=((bnd s.t lo).bind fun a=>(bnd s.t hi).bind fun b=>scutLV (get s.t x) a b).map (s.put d):=by
 simp only [step,scutLV,ZnO]
 cases hv:get s.t x with
 | sc v=>cases v<;>cases ha:bnd s.t lo<;>cases hb:bnd s.t hi<;>simp<;>(try split)<;>simp_all
 | _=>cases ha:bnd s.t lo<;>cases hb:bnd s.t hi<;>simp
@[simp] theorem step_append {d sz:Nat} {x y:X}:step (.append d sz x y) s=(Wy sz (get s.t x) (get (give s.t x) y)).map (((s.give x).give y).put d):=by
 simp only [step,Wy]
 generalize get s.t x=v
 generalize get (give s.t x) y=u
 cases v<;>try rfl
 cases u<;>try rfl
 simp only
 split<;>rfl
@[simp] theorem step_field {d off sz:Nat} {ag:Bool} {x:X}:step (.field d ag off sz x) s=(fldLV ag off sz (get s.t x)).map (s.put d):=by
 simp only [step,fldLV]
 generalize get s.t x=v
 cases v<;>try rfl
 rename_i xs
 simp only
 by_cases hb:off+sz<=xs.length
 ·rw [if_pos hb,if_pos hb]
  cases h:Wp ag ((xs.drop off).take sz)<;>rfl
 ·rw [if_neg hb,if_neg hb];rfl
def Zoa (h:List Box) (ag:Bool) (sz:Nat) (v:LV):Option LV :=
 match v with
 | .ptr l o=>match h[l]? with
  | some (some xs)=>if o+sz<=xs.length∧WK ((xs.drop o).take sz)=true then Wp ag ((xs.drop o).take sz) else none
  | _=>none
 | .rp ys=>if sz<=ys.length then Wp ag (ys.take sz) else none
 | _=>none
def rdLV (ag:Bool) (sz:Nat) (v:LV):Option LV :=
 match v with
 | .rp ys=>if sz<=ys.length then Wp ag (ys.take sz) else none
 | _=>none
def stLV (h:List Box) (sz:Nat) (p v:LV):Option (List Box) :=
 match p with
 | .ptr l o=>match h[l]? with
  | some (some xs)=>if v.flat∧v.cells.length=sz∧o+sz<=xs.length then some (h.set l (some (splice xs o v.cells))) else none
  | _=>none
 | _=>none
def Zu (h:List Box) (ag:Bool) (sz:Nat) (v:LV):Option (LV×List Box) :=
 match v with
 | .ptr l o=>match h[l]? with
  | some (some xs)=>if o+sz<=xs.length∧WK ((xs.drop o).take sz)=true then (Wp ag ((xs.drop o).take sz)).map fun v=>(v,h.set l (some (splice xs o (List.replicate sz .dead)))) else none
  | _=>none
 | .rp ys=>if sz<=ys.length then (Wp ag (ys.take sz)).map fun v=>(share v,h) else none
 | _=>none
def tupAt (v:LV) (k:Nat):Option (LV×LV) :=
 match v with
 | .tup xs=>xs[k]?.map fun v=>(v,.tup (xs.set k (share v)))
 | _=>none
def faLV (off:Nat) (v:LV):Option LV :=
 match v with
 | .ptr l o=>some (.ptr l (o+off))
 | .rp ys=>if off<=ys.length then some (share (.rp (ys.drop off))) else none
 | _=>none
def nnLV (v:LV):Option LV :=
 match v with
 | .ptr l o=>some (.ptr l o)
 | .rp ys=>some (share (.rp ys))
 | .fn f caps=>some (share (.fn f caps))
 | .fnm f caps=>some (share (.fnm f caps))
 | _=>none
def Qt (v:LV):Option (List LV):=if v.flat=true then some v.cells else none
@[simp] theorem lget_0 {α:Type} {a0:α} {l:List α}:(a0::l)[0]?=some a0:=rfl
@[simp] theorem lget_1 {α:Type} {a0 a1:α} {l:List α}:(a0::a1::l)[1]?=some a1:=rfl
@[simp] theorem lget_2 {α:Type} {a0 a1 a2:α} {l:List α}:(a0::a1::a2::l)[2]?=some a2:=rfl
@[simp] theorem lget_3 {α:Type} {a0 a1 a2 a3:α} {l:List α}:(a0::a1::a2::a3::l)[3]?=some a3:=rfl
@[simp] theorem lget_4 {α:Type} {a0 a1 a2 a3 a4:α} {l:List α}:(a0::a1::a2::a3::a4::l)[4]?=some a4:=rfl
@[simp] theorem lget_5 {α:Type} {a0 a1 a2 a3 a4 a5:α} {l:List α}:(a0::a1::a2::a3::a4::a5::l)[5]?=some a5:=rfl
@[simp] theorem lget_6 {α:Type} {a0 a1 a2 a3 a4 a5 a6:α} {l:List α}:(a0::a1::a2::a3::a4::a5::a6::l)[6]?=some a6:=rfl
@[simp] theorem lget_7 {α:Type} {a0 a1 a2 a3 a4 a5 a6 a7:α} {l:List α}:(a0::a1::a2::a3::a4::a5::a6::a7::l)[7]?=some a7:=rfl
@[simp] theorem lget_8 {α:Type} {a0 a1 a2 a3 a4 a5 a6 a7 a8:α} {l:List α}:(a0::a1::a2::a3::a4::a5::a6::a7::a8::l)[8]?=some a8:=rfl
@[simp] theorem lget_9 {α:Type} {a0 a1 a2 a3 a4 a5 a6 a7 a8 a9:α} {l:List α}:(a0::a1::a2::a3::a4::a5::a6::a7::a8::a9::l)[9]?=some a9:=rfl
@[simp] theorem lget_10 {α:Type} {a0 a1 a2 a3 a4 a5 a6 a7 a8 a9 a10:α} {l:List α}:(a0::a1::a2::a3::a4::a5::a6::a7::a8::a9::a10::l)[10]?=some a10:=rfl
@[simp] theorem lget_11 {α:Type} {a0 a1 a2 a3 a4 a5 a6 a7 a8 a9 a10 a11:α} {l:List α}:(a0::a1::a2::a3::a4::a5::a6::a7::a8::a9::a10::a11::l)[11]?=some a11:=rfl
@[simp] theorem lget_12 {α:Type} {a0 a1 a2 a3 a4 a5 a6 a7 a8 a9 a10 a11 a12:α} {l:List α}:(a0::a1::a2::a3::a4::a5::a6::a7::a8::a9::a10::a11::a12::l)[12]?=some a12:=rfl
@[simp] theorem lget_13 {α:Type} {a0 a1 a2 a3 a4 a5 a6 a7 a8 a9 a10 a11 a12 a13:α} {l:List α}:(a0::a1::a2::a3::a4::a5::a6::a7::a8::a9::a10::a11::a12::a13::l)[13]?=some a13:=rfl
@[simp] theorem lget_14 {α:Type} {a0 a1 a2 a3 a4 a5 a6 a7 a8 a9 a10 a11 a12 a13 a14:α} {l:List α}:(a0::a1::a2::a3::a4::a5::a6::a7::a8::a9::a10::a11::a12::a13::a14::l)[14]?=some a14:=rfl
@[simp] theorem lget_15 {α:Type} {a0 a1 a2 a3 a4 a5 a6 a7 a8 a9 a10 a11 a12 a13 a14 a15:α} {l:List α}:(a0::a1::a2::a3::a4::a5::a6::a7::a8::a9::a10::a11::a12::a13::a14::a15::l)[15]?=some a15:=rfl
@[simp] theorem splice_def {xs ys:List LV} {o:Nat}:splice xs o ys=xs.take o++ys++xs.drop (o+ys.length):=rfl
@[simp] theorem chunks_0 {xs:List LV}:Qn 1 0 xs=[]:=rfl
@[simp] theorem chunks_1 {a:LV}:Qn 1 1 [a]=[[a]]:=rfl
@[simp] theorem chunks_2 {a b:LV}:Qn 1 2 [a,b]=[[a],[b]]:=rfl
@[simp] theorem chunks_3 {a b c:LV}:Qn 1 3 [a,b,c]=[[a],[b],[c]]:=rfl
@[simp] theorem chunks_4 {a b c d:LV}:Qn 1 4 [a,b,c,d]=[[a],[b],[c],[d]]:=rfl
@[simp] theorem chunks_5 {a b c d e:LV}:Qn 1 5 [a,b,c,d,e]=[[a],[b],[c],[d],[e]]:=rfl
@[simp] theorem chunks_6 {a b c d e f:LV}:Qn 1 6 [a,b,c,d,e,f]=[[a],[b],[c],[d],[e],[f]]:=rfl
@[simp] theorem fillLV_nil {t:Nat->LV} {zs:List LV}:Kf t zs []=some zs:=rfl
@[simp] theorem fillLV_cons {t:Nat->LV} {zs:List LV} {off sz:Nat} {x:X} {ps:List (Nat×Nat×X)}:Kf t zs ((off,sz,x)::ps) =
  if (get t x).flat∧(get t x).cells.length=sz∧off+sz<=zs.length then Kf (give t x) (splice zs off (get t x).cells) ps else none:=rfl
@[simp] theorem step_mkslice {d sz:Nat} {z:List LV} {n:X}:step (.mkslice d sz z n) s=(intOf (get s.t n)).bind fun n=>if 0<=n∧n<=WX then some ⟨upd s.t d (.ha s.h.length sz 0 n.toNat n.toNat),s.h++[some (List.replicate n.toNat z).flatten]⟩ else none:=by
 simp only [step]
 cases intOf (get s.t n)<;>rfl
@[simp] theorem get_last {α:Type} {h:List α} {x:α}:(h++[x])[h.length]?=some x:=by simp
@[simp] theorem set_last {α:Type} {h:List α} {x y:α}:(h++[x]).set h.length y=h++[y]:=by simp
@[simp] theorem rep_one {n:Nat} {x:LV}:(List.replicate n [x]).flatten=List.replicate n x:=by
 induction n with
 | zero=>rfl
 | succ n ih=>simp [List.replicate_succ,ih]
theorem Zy {l sz off n cap:Nat} {i:Nat} (h:i < n):QP sz (.ha l sz off n cap) (i:Int)=some (.ptr l ((off+i) * sz)):=by
 simp only [QP]
 rw [if_pos ⟨trivial,by omega,by omega⟩]
 simp
@[simp] theorem step_bad {d:Option Nat}:step (.bad d) s=none:=rfl
@[simp] theorem ofCells_agg {xs:List LV}:Wp true xs=some (.agg xs):=rfl
@[simp] theorem ofCells_one {x:LV}:Wp false [x]=some x:=rfl
@[simp] theorem loadLV_rp {h:List Box} {ag:Bool} {sz:Nat} {ys:List LV}:Zoa h ag sz (.rp ys)=if sz<=ys.length then Wp ag (ys.take sz) else none:=rfl
@[simp] theorem loadLV_ptr {h:List Box} {ag:Bool} {sz l o:Nat}:Zoa h ag sz (.ptr l o)=match h[l]? with
  | some (some xs)=>if o+sz<=xs.length∧WK ((xs.drop o).take sz)=true then Wp ag ((xs.drop o).take sz) else none
  | _=>none:=rfl
@[simp] theorem takeLV_ptr {h:List Box} {ag:Bool} {sz l o:Nat}:Zu h ag sz (.ptr l o)=match h[l]? with
  | some (some xs)=>if o+sz<=xs.length∧WK ((xs.drop o).take sz)=true then (Wp ag ((xs.drop o).take sz)).map fun v=>(v,h.set l (some (splice xs o (List.replicate sz .dead)))) else none
  | _=>none:=rfl
@[simp] theorem stLV_ptr {h:List Box} {sz l o:Nat} {v:LV}:stLV h sz (.ptr l o) v=match h[l]? with
  | some (some xs)=>if v.flat∧v.cells.length=sz∧o+sz<=xs.length then some (h.set l (some (splice xs o v.cells))) else none
  | _=>none:=rfl
@[simp] theorem tupAt_tup {xs:List LV} {k:Nat}:tupAt (.tup xs) k=xs[k]?.map fun v=>(v,.tup (xs.set k (share v))):=rfl
@[simp] theorem faLV_ptr {l o off:Nat}:faLV off (.ptr l o)=some (.ptr l (o+off)):=rfl
@[simp] theorem faLV_rp {ys:List LV} {off:Nat}:faLV off (.rp ys)=if off<=ys.length then some (share (.rp (ys.drop off))) else none:=rfl
@[simp] theorem nnLV_ptr {l o:Nat}:nnLV (.ptr l o)=some (.ptr l o):=rfl
@[simp] theorem nnLV_rp {ys:List LV}:nnLV (.rp ys)=some (share (.rp ys)):=rfl
@[simp] theorem nnLV_fn {f:FuncId} {caps:List LV}:nnLV (.fn f caps)=some (share (.fn f caps)):=rfl
@[simp] theorem nnLV_fnm {f:FuncId} {caps:List LV}:nnLV (.fnm f caps)=some (share (.fnm f caps)):=rfl
@[simp] theorem flat_sl {u nl:Bool} {sz:Nat} {xs:List (List LV)}:LV.flat (.sl u nl sz xs)=true:=rfl
@[simp] theorem flat_ptr {l o:Nat}:LV.flat (.ptr l o)=true:=rfl
@[simp] theorem flat_agg {xs:List LV}:LV.flat (.agg xs)=true:=rfl
@[simp] theorem flat_fn {f:FuncId} {xs:List LV}:LV.flat (.fn f xs)=true:=rfl
@[simp] theorem flat_fnm {f:FuncId} {xs:List LV}:LV.flat (.fnm f xs)=true:=rfl
@[simp] theorem flat_int {k:IntKind} {n:Int}:LV.flat (.sc (.int k n))=true:=rfl
@[simp] theorem flat_bool {b:Bool}:LV.flat (.sc (.bool b))=true:=rfl
@[simp] theorem flat_str {b:ByteArray}:LV.flat (.sc (.string b))=true:=rfl
@[simp] theorem flat_nil:LV.flat (.sc (.pointer none))=true:=rfl
@[simp] theorem cells_sl {u nl:Bool} {sz:Nat} {xs:List (List LV)}:LV.cells (.sl u nl sz xs)=[.sl u nl sz xs]:=rfl
@[simp] theorem cells_ptr {l o:Nat}:LV.cells (.ptr l o)=[.ptr l o]:=rfl
@[simp] theorem cells_agg {xs:List LV}:LV.cells (.agg xs)=xs:=rfl
@[simp] theorem cells_fn {f:FuncId} {xs:List LV}:LV.cells (.fn f xs)=[.fn f xs]:=rfl
@[simp] theorem cells_fnm {f:FuncId} {xs:List LV}:LV.cells (.fnm f xs)=[.fnm f xs]:=rfl
@[simp] theorem cells_sc {v:Value}:LV.cells (.sc v)=[.sc v]:=rfl
@[simp] theorem step_loadc {d : Nat} {ag : Bool} {sz : Nat} {x : X} : step (.load d .copy ag sz x) s = (Zoa s.h ag sz (get s.t x)).map fun v => s.put d (share v) := by
  simp only [step, Zoa, Md.settled]
  generalize get s.t x = v
  cases v <;> try rfl
  · rename_i l o; simp only [Bool.false_eq_true, if_false]; cases s.h[l]? with
    | none => rfl
    | some b => cases b with
      | none => rfl
      | some xs => simp only; split
                   · cases Wp ag ((xs.drop o).take sz) <;> rfl
                   · rfl
  · rename_i ys; simp only; split
    · cases Wp ag (ys.take sz) <;> rfl
    · rfl
@[simp] theorem step_loadt {d:Nat} {ag:Bool} {sz:Nat} {x:X}:step (.load d .take ag sz x) s=(rdLV ag sz (get s.t x)).map fun v=>s.put d (share v):=by
 simp only [step,rdLV,Md.settled]
 generalize get s.t x=v
 cases v<;>try rfl
 rename_i ys;simp only;split
 ·cases Wp ag (ys.take sz)<;>rfl
 ·rfl
@[simp] theorem step_loadf {d : Nat} {ag : Bool} {sz : Nat} {x : X} : step (.load d .frz ag sz x) s = (Zu s.h ag sz (get s.t x)).map fun p => ⟨upd s.t d p.1, p.2⟩ := by
  simp only [step, Zu, Md.settled]
  generalize get s.t x = v
  cases v <;> try rfl
  · rename_i l o; simp only [Bool.false_eq_true, if_false]; cases s.h[l]? with
    | none => rfl
    | some b => cases b with
      | none => rfl
      | some xs => simp only; split
                   · cases Wp ag ((xs.drop o).take sz) <;> rfl
                   · rfl
  · rename_i ys; simp only; split
    · cases Wp ag (ys.take sz) <;> rfl
    · rfl
@[simp] theorem rdLV_rp {ag:Bool} {sz:Nat} {ys:List LV}:rdLV ag sz (.rp ys)=if sz<=ys.length then Wp ag (ys.take sz) else none:=rfl
@[simp] theorem alive_nil:WK []=true:=rfl
@[simp] theorem alive_cons {x:LV} {xs:List LV}:WK (x::xs)=(x.alive && WK xs):=rfl
@[simp] theorem alive_sc {v:Value}:(LV.sc v).alive=true:=rfl
@[simp] theorem alive_sl {u nl:Bool} {sz:Nat} {xs:List (List LV)}:(LV.sl u nl sz xs).alive=true:=rfl
@[simp] theorem alive_ha {l sz off n cap:Nat}:(LV.ha l sz off n cap).alive=true:=rfl
@[simp] theorem alive_ptr {l o:Nat}:(LV.ptr l o).alive=true:=rfl
@[simp] theorem alive_rp {xs:List LV}:(LV.rp xs).alive=true:=rfl
@[simp] theorem alive_fn {f:FuncId} {xs:List LV}:(LV.fn f xs).alive=true:=rfl
@[simp] theorem alive_fnm {f:FuncId} {xs:List LV}:(LV.fnm f xs).alive=true:=rfl
@[simp] theorem alive_agg {xs:List LV}:(LV.agg xs).alive=true:=rfl
@[simp] theorem alive_tup {xs:List LV}:(LV.tup xs).alive=true:=rfl
theorem ZgD:∀ x:LV,x.alive=true->(∀ sz,x≠.raw sz)->(share x).alive=true
 | .sc _,_,_=>by simp [share,LV.alive]
 | .sl _ _ _ _,_,_=>by simp [share,LV.alive]
 | .ha _ _ _ _ _,_,_=>by simp [share,LV.alive]
 | .ptr _ _,_,_=>by simp [share,LV.alive]
 | .rp _,_,_=>by simp [share,LV.alive]
 | .fn _ _,_,_=>by simp [share,LV.alive]
 | .fnm _ _,_,_=>by simp [share,LV.alive]
 | .agg _,_,_=>by simp [share,LV.alive]
 | .tup _,_,_=>by simp [share,LV.alive]
 | .raw sz,_,hr=>absurd rfl (hr sz)
 | .dead,h,_=>by simp [LV.alive] at h
 | .both _ t,h,_=>by
  simp only [LV.alive,Bool.and_eq_true] at h
  simp only [share]
  exact ZgD t h.1 (fun sz e=>by rw [e] at h;simp at h)
@[simp] theorem alive_share {x:LV} (h:x.alive=true) (hr:∀ sz,x≠.raw sz):(share x).alive=true:=ZgD x h hr
@[simp] theorem step_store {sz:Nat} {x y:X}:step (.store sz x y) s=(stLV s.h sz (get s.t x) (get s.t y)).map fun h'=>⟨give s.t y,h'⟩:=by
 simp only [step,stLV]
 generalize get s.t x=v
 cases v<;>try rfl
 rename_i l o;simp only;cases s.h[l]? with
  | none=>rfl
  | some b=>cases b with
   | none=>rfl
   | some xs=>simp only;split<;>rfl
@[simp] theorem step_extract {d k i:Nat}:step (.extract d k (.t i)) s=(tupAt (s.t i) k).map fun p=>⟨upd (upd s.t i p.2) d p.1,s.h⟩:=by
 simp only [step,tupAt]
 show (match s.t i with | .tup xs=>_ | _=>none)=_
 generalize s.t i=v
 cases v<;>try rfl
 rename_i xs;simp only;cases xs[k]?<;>rfl
def capLV (v:LV):Option LV:=match v with
 | .sl _ true _ _=>some (.sc (.int .i64 0))
 | _=>none
def ZrI (sz:Nat) (v:LV) (n:Int):Option LV:=match v with
 | .sl _ true _ _=>if 0 < n∧n<=WX then some (.raw sz) else none
 | _=>none
def Zrr (sz:Nat) (v:LV) (n:Int):Option LV:=match v with
 | .raw sz'=>if sz'=sz∧n=0 then some (.sl true false sz []) else none
 | _=>none
@[simp] theorem capLV_nil {u:Bool} {sz:Nat} {xs:List (List LV)}:capLV (.sl u true sz xs)=some (.sc (.int .i64 0)):=rfl
@[simp] theorem growLV_nil {sz sz':Nat} {u:Bool} {xs:List (List LV)} {n:Int}:ZrI sz (.sl u true sz' xs) n=if 0 < n∧n<=WX then some (.raw sz) else none:=rfl
@[simp] theorem cut0LV_raw {sz sz':Nat} {n:Int}:Zrr sz (.raw sz') n=if sz'=sz∧n=0 then some (.sl true false sz []) else none:=rfl
@[simp] theorem step_cap {d:Nat} {x:X}:step (.cap d x) s=(capLV (get s.t x)).map (s.put d):=by
 simp only [step]
 generalize get s.t x=v
 cases v<;>try rfl
 rename_i u nl sz' xs
 cases nl<;>rfl
@[simp] theorem step_growz {d sz:Nat} {x n:X}:step (.growz d sz x n) s=((intOf (get s.t n)).bind (ZrI sz (get s.t x))).map (s.put d):=by
 simp only [step]
 cases hi:intOf (get s.t n) with
 | none=>split<;>simp_all
 | some m =>
  generalize get s.t x=v
  cases v<;>try rfl
  rename_i u nl sz' xs
  cases nl
  ·rfl
  ·simp only [ZrI,Option.bind_some]
   split<;>rfl
@[simp] theorem step_cut0 {d sz:Nat} {x hi:X}:step (.cut0 d sz x hi) s=((intOf (get s.t hi)).bind (Zrr sz (get s.t x))).map ((s.give x).put d):=by
 simp only [step]
 cases hi:intOf (get s.t hi) with
 | none=>split<;>simp_all
 | some m =>
  generalize get s.t x=v
  cases v<;>try rfl
  simp only [Zrr,Option.bind_some]
  split<;>rfl
@[simp] theorem step_fieldA {d off:Nat} {x:X}:step (.fieldA d off x) s=(faLV off (get s.t x)).map (s.put d):=by
 simp only [step,faLV]
 generalize get s.t x=v
 cases v<;>try rfl
 simp only;split<;>rfl
@[simp] theorem step_nilchk {d:Nat} {x:X}:step (.nilchk d x) s=(nnLV (get s.t x)).map (s.put d):=by
 simp only [step,nnLV]
 generalize get s.t x=v
 cases v<;>simp [share]
@[simp] theorem step_box {d:Nat} {x:X}:step (.box d x) s=(Qt (get s.t x)).map fun cs=>⟨upd (give s.t x) d (.ptr s.h.length 0),s.h++[some cs]⟩:=by
 simp only [step,Qt]
 split<;>rfl
def Qo (h:List Box) (v:LV):Option (LV×List Box) :=
 match v with
 | .ptr l 0=>match h[l]? with
  | some (some xs)=>some (.rp xs,h.set l none)
  | _=>none
 | .ha l sz 0 n cap=>match h[l]? with
  | some (some xs)=>if xs.length=cap * sz∧n<=cap then some (.sl true false sz (Qn sz n xs),h.set l none) else none
  | _=>none
 | _=>none
@[simp] theorem step_mvf {d:Nat} {x:X}:step (.mv d .frz x) s=(Qo s.h (get s.t x)).map fun p=>⟨upd s.t d p.1,p.2⟩:=by
 simp only [step]
 generalize get s.t x=v
 cases v with
 | ptr l o=>cases o with
  | zero =>
   simp only [Qo]
   cases s.h[l]? with
   | none=>rfl
   | some b=>cases b<;>rfl
  | succ o=>rfl
 | ha l sz off n cap=>cases off with
  | zero =>
   simp only [Qo]
   cases s.h[l]? with
   | none=>rfl
   | some b=>cases b with
    | none=>rfl
    | some xs=>simp only;split<;>rfl
  | succ o=>rfl
 | _=>rfl
@[simp] theorem Zpk {n:St->Prop}:Yu n Q .normal s=n s:=rfl
@[simp] theorem thenL_ret {n:St->Prop}:Yu n Q .ret s=Q .ret s:=rfl
@[simp] theorem thenL_exit {n:St->Prop} {i:Nat}:Yu n Q (.exit i) s=Q (.exit i) s:=rfl
@[simp] theorem Ztv {i:Nat}:YP i Q .normal s=Q .normal s:=rfl
@[simp] theorem inBlockL_ret {i:Nat}:YP i Q .ret s=Q .ret s:=rfl
@[simp] theorem inBlockL_exit {i j:Nat}:YP i Q (.exit j) s=if j=i then Q .normal s else Q (.exit j) s:=rfl
end
@[simp] theorem upd_at {α:Type} (t:Nat->α) (i:Nat) (v:α) (j:Nat):upd t i v j=if j=i then v else t j:=rfl
@[simp] theorem put_eta {s:St} {d:Nat} {v:LV}:s.put d v=⟨upd s.t d v,s.h⟩:=rfl
@[simp] theorem give_eta {s:St} {i:Nat}:s.give (.t i)=⟨upd s.t i (share (s.t i)),s.h⟩:=rfl
@[simp] theorem giveF_k {t:Nat->LV} {v:LV}:give t (.k v)=t:=rfl
@[simp] theorem giveF_t {t:Nat->LV} {i:Nat}:give t (.t i)=upd t i (share (t i)):=rfl
@[simp] theorem giveAll_nil {t:Nat->LV}:ZB t []=t:=rfl
@[simp] theorem giveAll_cons {t:Nat->LV} {x:X} {xs:List X}:ZB t (x::xs)=ZB (give t x) xs:=rfl
@[simp] theorem give_k {s:St} {v:LV}:s.give (.k v)=s:=rfl
@[simp] theorem get_t {t:Nat->LV} {i:Nat}:get t (.t i)=t i:=rfl
@[simp] theorem get_k {t:Nat->LV} {v:LV}:get t (.k v)=v:=rfl
@[simp] theorem share_sc {v:Value}:share (.sc v)=.sc v:=by simp only [share]
@[simp] theorem share_sl {u nl:Bool} {sz:Nat} {xs:List (List LV)}:share (.sl u nl sz xs)=.sl false nl sz (Qv xs):=by simp only [share]
@[simp] theorem share_ha {l sz off n cap:Nat}:share (.ha l sz off n cap)=.ha l sz off n cap:=by simp only [share]
@[simp] theorem share_ptr {l o:Nat}:share (.ptr l o)=.ptr l o:=by simp only [share]
@[simp] theorem share_rp {xs:List LV}:share (.rp xs)=.rp (shareAll xs):=by simp only [share]
@[simp] theorem share_fn {f:FuncId} {xs:List LV}:share (.fn f xs)=.fn f (shareAll xs):=by simp only [share]
@[simp] theorem share_fnm {f:FuncId} {xs:List LV}:share (.fnm f xs)=.fnm f (shareAll xs):=by simp only [share]
@[simp] theorem share_agg {xs:List LV}:share (.agg xs)=.agg (shareAll xs):=by simp only [share]
@[simp] theorem share_tup {xs:List LV}:share (.tup xs)=.tup (shareAll xs):=by simp only [share]
@[simp] theorem share_raw {sz:Nat}:share (.raw sz)=.dead:=by simp only [share]
@[simp] theorem share_dead:share .dead=.dead:=by simp only [share]
@[simp] theorem shareAll_nil:shareAll []=[]:=by simp only [shareAll]
@[simp] theorem shareAll_cons {x:LV} {xs:List LV}:shareAll (x::xs)=share x::shareAll xs:=by simp only [shareAll]
@[simp] theorem shareRow_nil:Qv []=[]:=by simp only [Qv]
@[simp] theorem shareRow_cons {x:List LV} {xs:List (List LV)}:Qv (x::xs)=shareAll x::Qv xs:=by simp only [Qv]
@[simp] theorem shareRow_map {α:Type} {xs:List α} {e:α->List LV}:Qv (xs.map e)=xs.map fun x=>shareAll (e x):=by rw [Zas];simp [Kv]
@[simp] theorem shareRow_app {xs ys:List (List LV)}:Qv (xs++ys)=Qv xs++Qv ys:=by simp [Zas]
@[simp] theorem Zhz {xs ys:List LV}:shareAll (xs++ys)=shareAll xs++shareAll ys:=by simp [Kv]
@[simp] theorem env_0 {a:LV} {l:List LV}:env (a::l) 0=a:=rfl
@[simp] theorem env_1 {a b:LV} {l:List LV}:env (a::b::l) 1=b:=rfl
@[simp] theorem env_2 {a b c:LV} {l:List LV}:env (a::b::c::l) 2=c:=rfl
@[simp] theorem env_3 {a b c d:LV} {l:List LV}:env (a::b::c::d::l) 3=d:=rfl
@[simp] theorem env_4 {a b c d e:LV} {l:List LV}:env (a::b::c::d::e::l) 4=e:=rfl
@[simp] theorem env_5 {a b c d e f:LV} {l:List LV}:env (a::b::c::d::e::f::l) 5=f:=rfl
@[simp] theorem env_6 {a b c d e f g:LV} {l:List LV}:env (a::b::c::d::e::f::g::l) 6=g:=rfl
@[simp] theorem env_7 {a b c d e f g h:LV} {l:List LV}:env (a::b::c::d::e::f::g::h::l) 7=h:=rfl
theorem Qg {n:Int} (h:-9223372036854775808<=n∧n<=9223372036854775807):IntKind.i64.wrap n=n:=by exact IntWalk.i64_in n h
mutual
def YU (h:List Box):LV->LV->Prop
 | .sc v,y=>y=.sc v
 | .sl u nl sz Qj,y=>u=false∧((y=.sl false nl sz Qj∧Low 0 y∧share y=y) ∨
   (nl=false∧∃ l cap cells rest,y=.ha l sz 0 Qj.length cap∧Qj.length<=cap∧h[l]?=some (some (cells++rest))∧Vb h Qj sz cells))
 | .agg xs,y=>∃ ys,y=.agg ys∧WW h xs ys
 | .tup xs,y=>∃ ys,y=.tup ys∧WW h xs ys
 | _,_=>False
def Vb (h:List Box):List (List LV)->Nat->List LV->Prop
 | [],_,cells=>cells=[]
 | row::Qj,sz,cells=>∃ c1 c2,row.length=sz∧WW h row c1∧Vb h Qj sz c2∧cells=c1++c2
def WW (h:List Box):List LV->List LV->Prop
 | [],ys=>ys=[]
 | x::xs,ys=>∃ y ys',YU h x y∧WW h xs ys'∧ys=y::ys'
end
section
variable {P:Program}
open Classical in
noncomputable def GM.lent (A:GM) (w:World) (μ:List Nat) (h:List Box):GM:=fun b i=>if Kg μ h b then w.cell? ⟨b,i,none⟩ else A b i
open Classical in
noncomputable def GM.back (B:GM) (μ:List Nat) (h:List Box):GM:=fun b i=>if Kg μ h b then none else B b i
section
variable {w:World} {A:GM} {μ:List Nat} {h:List Box} {OH:List (List Own)} {O:List Own}
theorem Zsy (i:WInv w A μ h OH O):A.Le (A.lent w μ h):=by
 intro b j v hv
 unfold GM.lent
 split
 ·exact i.cells b j v hv
 ·exact hv
mutual
theorem YU.rep (i:WInv w A μ h OH O):∀ (t y:LV) (v:Value) (Ov:List Own),YU h t y->Rep A μ y v Ov->Rep (A.lent w μ h) [] t v []∧Ov=[]
 | .sc u,y,v,Ov,hv,hr=>by
  simp only [YU] at hv
  subst hv
  simp only [Rep] at hr ⊢
  exact ⟨⟨hr.1,trivial⟩,hr.2⟩
 | .sl u nl sz Qj,y,v,Ov,hv,hr=>by
  simp only [YU] at hv
  obtain ⟨rfl,⟨rfl,hlow,hsh⟩ | ⟨rfl,l,cap,cells,rest,rfl,hcap,hl,hrow⟩⟩:=hv
  ·have hO:=hr
   rw [<- hsh] at hO
   have hO:=Rep.shd _ _ _ hO
   subst hO
   have h1:=Rep.mono (ν:=[]) (Zsy i) _ v [] hr
   rw [List.append_nil] at h1
   exact ⟨Rep.low (k:=0) (by simp) (fun l hl=>by omega) _ v [] hlow h1,rfl⟩
  ·simp only [Rep] at hr ⊢
   obtain ⟨rfl,hlt,rfl⟩:=hr
   obtain ⟨c,e,g1,g2,g3⟩:=i.box l _ hl
   obtain ⟨v1,v2,O1,O2,e1,e2,k1,k2⟩:=g2.split
   obtain ⟨k3,k4⟩:=Vb.rep i Qj sz cells v1 O1 hrow k1
   refine ⟨.inr ⟨trivial,μ.getD l 0,0 * sz,none,cap,[],rfl,.inl rfl,hcap,?_,.inr ⟨.inl trivial,rfl⟩⟩,rfl⟩
   refine Qw.of_vals k4 k3 fun j u hj=>?_
   have hcj:c[j]?=some u:=by
    rw [<- Array.getElem?_toList,e1,List.getElem?_append_left (by
     rcases Nat.lt_or_ge j v1.length with g | g
     ·exact g
     ·rw [List.getElem?_eq_none g] at hj;simp at hj)]
    exact hj
   refine ⟨?_,g3 u (by rw [e1];exact List.mem_append.2 (.inl (List.mem_of_getElem? hj)))⟩
   unfold GM.lent
   rw [if_pos ⟨l,_,hl,rfl⟩,Xj g1,Nat.zero_mul,Nat.zero_add]
   exact hcj
 | .agg xs,y,v,Ov,hv,hr=>by
  simp only [YU] at hv
  obtain ⟨ys,rfl,hv⟩:=hv
  simp only [Rep] at hr ⊢
  obtain ⟨vs,h1,h0,h2⟩:=hr
  obtain ⟨h3,h4⟩:=WW.rep i xs ys vs Ov hv h2
  exact ⟨⟨vs,h1,h0,h3⟩,h4⟩
 | .ha _ _ _ _ _,_,_,_,hv,_=>by simp [YU] at hv
 | .ptr _ _,_,_,_,hv,_=>by simp [YU] at hv
 | .rp _,_,_,_,hv,_=>by simp [YU] at hv
 | .fn _ _,_,_,_,hv,_=>by simp [YU] at hv
 | .fnm _ _,_,_,_,hv,_=>by simp [YU] at hv
 | .tup xs,y,v,Ov,hv,hr=>by
  simp only [YU] at hv
  obtain ⟨ys,rfl,hv⟩:=hv
  simp only [Rep] at hr ⊢
  obtain ⟨vs,h1,h2⟩:=hr
  obtain ⟨h3,h4⟩:=WW.rep i xs ys vs Ov hv h2
  exact ⟨⟨vs,h1,h3⟩,h4⟩
 | .raw _,_,_,_,hv,_=>by simp [YU] at hv
 | .dead,_,_,_,hv,_=>by simp [YU] at hv
 | .both _ _,_,_,_,hv,_=>by simp [YU] at hv
theorem Vb.rep (i:WInv w A μ h OH O):∀ (Qj:List (List LV)) (sz:Nat) (cells:List LV) (vs:List Value) (Ov:List Own),Vb h Qj sz cells->RepVals A μ cells vs Ov->RepVals (A.lent w μ h) [] Qj.flatten vs []∧(∀ r∈Qj,r.length=sz)
 | [],sz,cells,vs,Ov,hv,hr=>by
  simp only [Vb] at hv
  subst hv
  simp only [RepVals] at hr
  simp [RepVals,hr.1]
 | row::Qj,sz,cells,vs,Ov,hv,hr=>by
  simp only [Vb] at hv
  obtain ⟨c1,c2,hl,h1,h2,rfl⟩:=hv
  obtain ⟨v1,v2,O1,O2,rfl,rfl,k1,k2⟩:=hr.split
  obtain ⟨g1,_⟩:=WW.rep i row c1 v1 O1 h1 k1
  obtain ⟨g2,g3⟩:=Vb.rep i Qj sz c2 v2 O2 h2 k2
  refine ⟨?_,fun r hr=>?_⟩
  ·rw [List.flatten_cons]
   exact RepVals.app (O1:=[]) (O2:=[]) g1 g2
  ·rcases List.mem_cons.1 hr with rfl | hr
   ·exact hl
   ·exact g3 r hr
theorem WW.rep (i:WInv w A μ h OH O):∀ (xs ys:List LV) (vs:List Value) (Ov:List Own),WW h xs ys->RepVals A μ ys vs Ov->RepVals (A.lent w μ h) [] xs vs []∧Ov=[]
 | [],ys,vs,Ov,hv,hr=>by
  simp only [WW] at hv
  subst hv
  simp only [RepVals] at hr ⊢
  exact ⟨⟨hr.1,trivial⟩,hr.2⟩
 | x::xs,ys,vs,Ov,hv,hr=>by
  simp only [WW] at hv
  obtain ⟨y,ys',h1,h2,rfl⟩:=hv
  simp only [RepVals] at hr ⊢
  obtain ⟨v,ws,O1,O2,rfl,rfl,k1,k2⟩:=hr
  obtain ⟨g1,g2⟩:=YU.rep i x y v O1 h1 k1
  obtain ⟨g3,g4⟩:=WW.rep i xs ys' ws O2 h2 k2
  exact ⟨⟨v,ws,[],[],rfl,rfl,g1,g3⟩,by rw [g2,g4];rfl⟩
end
end
theorem Qe.lendCore {f:FuncId} {args hs:List LV} {R:LV->Prop} {h:List Box} (c:Qe P f args R) (hv:WW h args hs) (hR:∀ r,R r->QB r)
  (w:World) (A:GM) (μ:List Nat) (OH:List (List Own)) (vals:List Value) (Oa:List Own) (hr:RepVals A μ hs vals Oa) (hi:WInv w A μ h OH Oa) :
  Oa=[]∧Calls P f vals.toArray w fun e w'=>∃ v r B O',e=.returned v∧R r∧Rep B [] r v O'∧St' (Zq w A μ h OH []) w' B μ h OH O'∧(∀ b,K6 O' b->w.heap.size<=b)∧∀ b,b < w.heap.size->w'.heap[b]?=w.heap[b]?:=by
 obtain ⟨h1,_,h2⟩:=c
 obtain ⟨hr0,hOa⟩:=WW.rep hi args hs vals Oa hv hr
 subst hOa
 refine ⟨rfl,?_⟩
 have hi0:WInv w (A.lent w μ h) [] [] [] []:=by
  refine ⟨rfl,rfl,?_,by simp,?_,by simp,?_,?_⟩
  ·intro b i v hv
   unfold GM.lent at hv
   split at hv
   ·exact hv
   ·exact hi.cells b i v hv
  ·rintro b ⟨l,xs,hl,_⟩;simp at hl
  ·intro b m k hm;simp at hm
  ·intro b;simp
 refine (h2 w (A.lent w μ h) [] [] vals [] hr0 hi0).mono fun e w' he=>?_
 obtain ⟨v,r,h',B,ν,OH',O',g1,⟨g2,glow⟩,g3,g4⟩:=he
 have g5:=g4.cut 0 (by simp [Zq]) (fun l xs hl=>by omega) (Nat.zero_le _)
 simp only [List.take_zero] at g5
 have g3':=Rep.low (k:=0) (ν:=[]) (by simp) (fun l hl=>by omega) r v O' glow g3
 have hnew:∀ b m k,(b,m,k)∈O'->w.heap.size<=b:=by
  intro b m k hm
  rcases g5.since.ownT b m k (by simpa using hm) with k | k
  ·exact k
  ·rcases k with ⟨l,xs,k,_⟩ | ⟨m,q,k⟩
   ·simp at k
   ·simp at k
 have hnl:∀ b,w.heap.size<=b->¬ Kg μ h b:=fun b hb hl=>by have:=hi.live_lt hl;omega
 have g6:St' (Zq w A [] [] [] []) w' (B.back μ h) [] [] [] O':=by
  refine ⟨⟨rfl,rfl,fun b i v hv=>?_,by simp,?_,by simp,?_,g5.inv.once⟩,⟨g5.since.size,?_,g5.since.ownT,g5.since.liveT,?_,g5.since.ext,g5.since.still⟩⟩
  ·unfold GM.back at hv
   split at hv
   ·simp at hv
   ·exact g5.inv.cells b i v hv
  ·rintro b ⟨l,xs,hl,_⟩;simp at hl
  ·intro b m k hm
   obtain ⟨q1,q2,q3⟩:=g5.inv.own b m k hm
   refine ⟨q1,fun i hi=>?_,q3⟩
   unfold GM.back
   split
   ·rfl
   ·exact q2 i hi
  ·intro b hb ht
   obtain ⟨q1,q2⟩:=g5.since.kept b hb ht
   refine ⟨q1,fun i=>?_⟩
   unfold GM.back
   split
   ·rename_i hl;exact (hi.loose b hl i).symm
   ·rename_i hl
    rw [q2 i]
    show A.lent w μ h b i=A b i
    unfold GM.lent
    rw [if_neg hl]
  ·intro b i v hv
   unfold GM.back
   have hl:¬ Kg μ h b:=fun hl=>by
    have:=hi.loose b hl i
    rw [show A b i=some v from hv] at this;simp at this
   rw [if_neg hl]
   exact g5.since.le b i v (Zsy hi b i v hv)
 refine ⟨v,r,B.back μ h,O',g1,g2,Rep.own r v O' (hR r g2) g3' fun b hb i=>?_,St'.frame (h:=h) hi g6,fun b hb=>?_,fun b hb=>(g5.since.kept b hb (by rintro (⟨l,xs,k,_⟩ | ⟨m,q,k⟩)<;>simp at k)).1⟩
 ·obtain ⟨m,k,hm⟩:=hb
  unfold GM.back
  rw [if_neg (hnl b (hnew b m k hm))]
 ·obtain ⟨m,k,hm⟩:=hb
  exact hnew b m k hm
theorem QB.low0:∀ t:LV,QB t->Low 0 t
 | .sc _,_=>by simp
 | .sl _ _ _ Qj,h=>by simp only [QB] at h;simp only [Low];exact goR Qj h.2
 | .agg xs,h=>by simp only [QB] at h;simp only [Low];exact goA xs h
 | .tup xs,h=>by simp only [QB] at h;simp only [Low];exact goA xs h
 | .ha _ _ _ _ _,h=>by simp [QB] at h
 | .ptr _ _,h=>by simp [QB] at h
 | .rp _,h=>by simp [QB] at h
 | .fn _ _,h=>by simp [QB] at h
 | .fnm _ _,h=>by simp [QB] at h
 | .raw _,h=>by simp [QB] at h
 | .dead,h=>by simp [QB] at h
 | .both _ _,h=>by simp [QB] at h
where
 goA:∀ xs:List LV,QS xs->QI 0 xs
  | [],_=>by simp
  | x::xs,h=>by simp only [QS] at h;simp only [QI];exact ⟨QB.low0 x h.1,goA xs h.2⟩
 goR:∀ xs:List (List LV),QL xs->WV 0 xs
  | [],_=>by simp
  | x::xs,h=>by simp only [QL] at h;simp only [WV];exact ⟨goA x h.1,goR xs h.2⟩
theorem Qe.lend {f:FuncId} {args hs:List LV} {R:LV->Prop} {h:List Box} (c:Qe P f args R) (hv:WW h args hs) (hR:∀ r,R r->QB r) :
  QE P f hs h (fun r h'=>h'=h∧R r):=by
 have c':=c
 obtain ⟨h1,⟨r,_,hr,_⟩,_⟩:=c'
 refine ⟨h1,⟨r,h,rfl,hr⟩,fun w A μ OH vals Oa hr hi=>?_⟩
 obtain ⟨rfl,hc⟩:=c.lendCore hv hR w A μ OH vals Oa hr hi
 refine hc.mono fun e w' he=>?_
 obtain ⟨v,r,B,O',g1,g2,g3,g4,_⟩:=he
 exact ⟨v,r,h,B,[],OH,O',g1,⟨rfl,g2⟩,Rep.low (k:=0) (by simp) (fun l hl=>by omega) r v O' (QB.low0 r (hR r g2)) g3,by rw [List.append_nil];exact g4⟩
mutual
theorem th_ex:∀ (t:LV),QB t->∀ n,∃ y bs,Th t n y bs
 | .sc v,_,_=>⟨_,_,by simp only [Th];exact ⟨rfl,rfl⟩⟩
 | .sl u nl sz Qj,h,n=>by
  simp only [Th]
  simp only [QB] at h
  by_cases hr:Qj=[]
  ·exact ⟨_,_,.inl ⟨hr,rfl,rfl⟩⟩
  ·obtain ⟨_,h2,h3⟩:=h.1.resolve_left hr
   obtain ⟨cells,bs,g⟩:=Zpu Qj h.2 sz h3 n
   exact ⟨_,_,.inr ⟨h2,hr,cells,bs,0,Qj.length,g,⟨Nat.le_refl _,rfl⟩,rfl,rfl⟩⟩
 | .agg xs,h,n=>by
  simp only [QB] at h
  obtain ⟨ys,bs,g⟩:=Zg8 xs h n
  exact ⟨.agg ys,bs,by simp only [Th];exact ⟨ys,rfl,g⟩⟩
 | .tup xs,h,n=>by
  simp only [QB] at h
  obtain ⟨ys,bs,g⟩:=Zg8 xs h n
  exact ⟨.tup ys,bs,by simp only [Th];exact ⟨ys,rfl,g⟩⟩
 | .ha _ _ _ _ _,h,_=>by simp [QB] at h
 | .ptr _ _,h,_=>by simp [QB] at h
 | .rp _,h,_=>by simp [QB] at h
 | .fn _ _,h,_=>by simp [QB] at h
 | .fnm _ _,h,_=>by simp [QB] at h
 | .raw _,h,_=>by simp [QB] at h
 | .dead,h,_=>by simp [QB] at h
 | .both _ _,h,_=>by simp [QB] at h
theorem Zg8:∀ (xs:List LV),QS xs->∀ n,∃ ys bs,WQ xs n ys bs
 | [],_,_=>⟨_,_,by simp only [WQ];exact ⟨rfl,rfl⟩⟩
 | x::xs,h,n=>by
  simp only [QS] at h
  obtain ⟨y,b1,g1⟩:=th_ex x h.1 n
  obtain ⟨ys,b2,g2⟩:=Zg8 xs h.2 (n+b1.length)
  exact ⟨_,_,by simp only [WQ];exact ⟨y,b1,ys,b2,g1,g2,rfl,rfl⟩⟩
theorem Zpu:∀ (Qj:List (List LV)),QL Qj->∀ sz,(∀ r∈Qj,r.length=sz)->∀ n,∃ ys bs,Xn Qj sz n ys bs
 | [],_,_,_,_=>⟨_,_,by simp only [Xn];exact ⟨rfl,rfl⟩⟩
 | x::xs,h,sz,hl,n=>by
  simp only [QL] at h
  obtain ⟨y,b1,g1⟩:=Zg8 x h.1 n
  obtain ⟨ys,b2,g2⟩:=Zpu xs h.2 sz (fun r hr=>hl r (by simp [hr])) (n+b1.length)
  exact ⟨_,_,by simp only [Xn];exact ⟨y,b1,ys,b2,hl x (by simp),g1,g2,rfl,rfl⟩⟩
end
theorem Qe.lendThaw {f:FuncId} {args hs:List LV} {R:LV->Prop} {h:List Box} (c:Qe P f args R) (hv:WW h args hs) (hR:∀ r,R r->QB r) :
  QE P f hs h (fun r h'=>∃ t bs,R t∧Th t h.length r bs∧h'=h++bs):=by
 have c':=c
 obtain ⟨h1,hex,_⟩:=c'
 refine ⟨h1,?_,fun w A μ OH vals Oa hr hi=>?_⟩
 ·obtain ⟨r,_,hr,_⟩:=hex
  obtain ⟨y,bs,hy⟩:=th_ex r (hR r hr) h.length
  exact ⟨y,h++bs,r,bs,hr,hy,rfl⟩
 obtain ⟨rfl,hc⟩:=c.lendCore hv hR w A μ OH vals Oa hr hi
 refine hc.mono fun e w' he=>?_
 obtain ⟨v,r,B,O',g1,g2,g3,g4,g5,g6⟩:=he
 have hlow:=Rep.low (k:=0) (ν:=μ) (by simp) (fun l hl=>by omega) r v O' (QB.low0 r (hR r g2)) g3
 have hbx:ZdG w' A μ h OH:=by
  intro l xs hl
  obtain ⟨c,e,q1,q2,q3⟩:=hi.box l xs hl
  exact ⟨c,e,by rw [g6 _ (hi.live_lt ⟨l,xs,hl,rfl⟩)];exact q1,q2,q3⟩
 obtain ⟨B',ν,bs,s2,_,_,_,y,hth,hy⟩:=Zqb (x:=Zq w A μ h OH []) (A1:=A) r B μ h OH O' v O' [] (hR r g2) g4 g4.since.le hbx hlow (fun p=>by simp) (fun b hb=>⟨g5 b hb,fun i=>hi.unsettled (g5 b hb) i,fun i=>hi.unsettled (g5 b hb) i⟩)
 have hyB:=Rep.mono (ν:=[]) (show A.Le B' by assumption) y v [] hy
 rw [List.append_nil] at hyB
 exact ⟨v,y,h++bs,B',ν,_,[],g1,⟨r,bs,g2,hth,rfl⟩,hyB,s2⟩
end
@[simp] theorem eqB_self {a:Int}:eqB a a=true:=by simp [eqB]
@[simp] theorem leB_self {a:Int}:leB a a=true:=by simp [leB]
@[simp] theorem ltB_self {a:Int}:ltB a a=false:=by simp [ltB]
mutual
theorem Th.view (h:List Box):∀ (t y:LV) (n:Nat) (bs:List Box),QB t->Th t n y bs->(∀ i b,bs[i]?=some b->h[n+i]?=some b)->YU h (share t) y
 | .sc v,y,n,bs,_,ht,_=>by
  simp only [Th] at ht
  simp only [share,YU]
  exact ht.1
 | .sl u nl sz Qj,y,n,bs,hw,ht,hb=>by
  simp only [Th] at ht
  simp only [QB] at hw
  simp only [share,YU]
  refine ⟨by trivial,?_⟩
  rcases ht with ⟨rfl,rfl,rfl⟩ | ⟨rfl,hne,cells,bs',slack,cap,hr,hcap,rfl,rfl⟩
  ·left;simp
  ·right
   refine ⟨by trivial,n+bs'.length,cap,cells,List.replicate slack .dead,by rw [Xc],by rw [Xc];exact hcap.1,hb bs'.length _ (by simp),?_⟩
   exact Xn.view h Qj sz n cells bs' hw.2 hr fun i b hi=>hb i b (by
    rw [List.getElem?_append_left]
    ·exact hi
    ·rcases Nat.lt_or_ge i bs'.length with g | g
     ·exact g
     ·rw [List.getElem?_eq_none g] at hi;simp at hi)
 | .agg xs,y,n,bs,hw,ht,hb=>by
  simp only [Th] at ht
  simp only [QB] at hw
  obtain ⟨ys,rfl,ht⟩:=ht
  simp only [share,YU]
  exact ⟨ys,rfl,WQ.view h xs n ys bs hw ht hb⟩
 | .tup xs,y,n,bs,hw,ht,hb=>by
  simp only [Th] at ht
  simp only [QB] at hw
  obtain ⟨ys,rfl,ht⟩:=ht
  simp only [share,YU]
  exact ⟨ys,rfl,WQ.view h xs n ys bs hw ht hb⟩
 | .ha _ _ _ _ _,_,_,_,hw,_,_=>by simp [QB] at hw
 | .ptr _ _,_,_,_,hw,_,_=>by simp [QB] at hw
 | .rp _,_,_,_,hw,_,_=>by simp [QB] at hw
 | .fn _ _,_,_,_,hw,_,_=>by simp [QB] at hw
 | .fnm _ _,_,_,_,hw,_,_=>by simp [QB] at hw
 | .raw _,_,_,_,hw,_,_=>by simp [QB] at hw
 | .dead,_,_,_,hw,_,_=>by simp [QB] at hw
 | .both _ _,_,_,_,hw,_,_=>by simp [QB] at hw
theorem WQ.view (h:List Box):∀ (xs:List LV) (n:Nat) (ys:List LV) (bs:List Box),QS xs->WQ xs n ys bs->(∀ i b,bs[i]?=some b->h[n+i]?=some b)->WW h (shareAll xs) ys
 | [],n,ys,bs,_,ht,_=>by simp only [WQ] at ht;simp only [shareAll,WW];exact ht.1
 | x::xs,n,ys,bs,hw,ht,hb=>by
  simp only [WQ] at ht
  simp only [QS] at hw
  obtain ⟨y,b1,ys',b2,h1,h2,rfl,rfl⟩:=ht
  simp only [shareAll,WW]
  refine ⟨y,ys',Th.view h x y n b1 hw.1 h1 fun i b hi=>hb i b ?_,WQ.view h xs (n+b1.length) ys' b2 hw.2 h2 fun i b hi=>?_,rfl⟩
  ·rw [List.getElem?_append_left]
   ·exact hi
   ·rcases Nat.lt_or_ge i b1.length with g | g
    ·exact g
    ·rw [List.getElem?_eq_none g] at hi;simp at hi
  ·rw [Nat.add_assoc]
   refine hb _ b ?_
   rw [List.getElem?_append_right (by omega)]
   rw [show b1.length+i - b1.length=i by omega];exact hi
theorem Xn.view (h:List Box):∀ (Qj:List (List LV)) (sz n:Nat) (ys:List LV) (bs:List Box),QL Qj->Xn Qj sz n ys bs->(∀ i b,bs[i]?=some b->h[n+i]?=some b)->Vb h (Qv Qj) sz ys
 | [],sz,n,ys,bs,_,ht,_=>by simp only [Xn] at ht;simp only [Qv,Vb];exact ht.1
 | x::xs,sz,n,ys,bs,hw,ht,hb=>by
  simp only [Xn] at ht
  simp only [QL] at hw
  obtain ⟨c1,b1,c2,b2,hl,h1,h2,rfl,rfl⟩:=ht
  simp only [Qv,Vb]
  refine ⟨c1,c2,by rw [We];exact hl,WQ.view h x n c1 b1 hw.1 h1 fun i b hi=>hb i b ?_,Xn.view h xs sz (n+b1.length) c2 b2 hw.2 h2 fun i b hi=>?_,rfl⟩
  ·rw [List.getElem?_append_left]
   ·exact hi
   ·rcases Nat.lt_or_ge i b1.length with g | g
    ·exact g
    ·rw [List.getElem?_eq_none g] at hi;simp at hi
  ·rw [Nat.add_assoc]
   refine hb _ b ?_
   rw [List.getElem?_append_right (by omega)]
   rw [show b1.length+i - b1.length=i by omega];exact hi
end
mutual
theorem Th.share:∀ (t y:LV) (n:Nat) (bs:List Box),Th t n y bs->TL.share y=y
 | .sc v,y,n,bs,ht=>by simp only [Th] at ht;rw [ht.1];simp
 | .sl u nl sz Qj,y,n,bs,ht=>by
  simp only [Th] at ht
  rcases ht with ⟨_,rfl,_⟩ | ⟨_,_,cells,bs',slack,cap,_,_,rfl,_⟩<;>simp
 | .agg xs,y,n,bs,ht=>by
  simp only [Th] at ht
  obtain ⟨ys,rfl,ht⟩:=ht
  simp [WQ.share xs n ys bs ht]
 | .tup xs,y,n,bs,ht=>by
  simp only [Th] at ht
  obtain ⟨ys,rfl,ht⟩:=ht
  simp [WQ.share xs n ys bs ht]
 | .ha _ _ _ _ _,_,_,_,ht=>by simp [Th] at ht
 | .ptr _ _,_,_,_,ht=>by simp [Th] at ht
 | .rp _,_,_,_,ht=>by simp [Th] at ht
 | .fn _ _,_,_,_,ht=>by simp [Th] at ht
 | .fnm _ _,_,_,_,ht=>by simp [Th] at ht
 | .raw _,_,_,_,ht=>by simp [Th] at ht
 | .dead,_,_,_,ht=>by simp [Th] at ht
 | .both _ _,_,_,_,ht=>by simp [Th] at ht
theorem WQ.share:∀ (xs:List LV) (n:Nat) (ys:List LV) (bs:List Box),WQ xs n ys bs->TL.shareAll ys=ys
 | [],n,ys,bs,ht=>by simp only [WQ] at ht;rw [ht.1];simp
 | x::xs,n,ys,bs,ht=>by
  simp only [WQ] at ht
  obtain ⟨y,b1,ys',b2,h1,h2,rfl,rfl⟩:=ht
  simp [Th.share x y n b1 h1,WQ.share xs _ ys' b2 h2]
end
theorem Th.alive:∀ (t y:LV) (n:Nat) (bs:List Box),Th t n y bs->y.alive=true
 | .sc v,y,n,bs,ht=>by simp only [Th] at ht;rw [ht.1];rfl
 | .sl u nl sz Qj,y,n,bs,ht=>by
  simp only [Th] at ht
  rcases ht with ⟨_,rfl,_⟩ | ⟨_,_,cells,bs',slack,cap,_,_,rfl,_⟩<;>rfl
 | .agg xs,y,n,bs,ht=>by simp only [Th] at ht;obtain ⟨ys,rfl,_⟩:=ht;rfl
 | .tup xs,y,n,bs,ht=>by simp only [Th] at ht;obtain ⟨ys,rfl,_⟩:=ht;rfl
 | .ha _ _ _ _ _,y,n,bs,ht=>by simp [Th] at ht
 | .ptr _ _,y,n,bs,ht=>by simp [Th] at ht
 | .rp _,y,n,bs,ht=>by simp [Th] at ht
 | .fn _ _,y,n,bs,ht=>by simp [Th] at ht
 | .fnm _ _,y,n,bs,ht=>by simp [Th] at ht
 | .raw _,y,n,bs,ht=>by simp [Th] at ht
 | .dead,y,n,bs,ht=>by simp [Th] at ht
 | .both _ _,y,n,bs,ht=>by simp [Th] at ht
theorem Wx {h:List Box}:WW h [] []:=by simp [WW]
theorem QC {h:List Box} {x y:LV} {xs ys:List LV} (h1:YU h x y) (h2:WW h xs ys):WW h (x::xs) (y::ys):=by
 simp only [WW];exact ⟨y,ys,h1,h2,rfl⟩
theorem Zc6 {h:List Box} {v:Value}:YU h (.sc v) (.sc v):=by simp [YU]
theorem ZaM {h:List Box} {nl:Bool} {sz:Nat} {Qj:List (List LV)} (hl:WV 0 Qj) (hs:Qv Qj=Qj):YU h (.sl false nl sz Qj) (.sl false nl sz Qj):=by
 simp only [YU]
 exact ⟨by trivial,.inl ⟨by trivial,by simpa using hl,by simp [hs]⟩⟩
section
variable {P:Program} {K:St->Prop} {s:St}
theorem XD {d:Nat} {f:FuncId} {args vals:List LV} {R:LV->Prop} (c:Qe P f args R) (hv:WW s.h args vals) (hR:∀ r,R r->QB r)
  (hk:∀ r,R r->K { t:=upd s.t d r,h:=s.h }):Jf P .any f vals (some d) K s:=by
 unfold Jf
 rw [Zag]
 exact (c.lend hv hR).mono fun r h' hr=>by rw [hr.1];exact hk r hr.2
theorem KI {d:Nat} {f:FuncId} {args vals:List LV} {R:LV->Prop} (c:Qe P f args R) (hv:WW s.h args vals) (hR:∀ r,R r->QB r)
  (hk:∀ t y bs,R t->Th t s.h.length y bs->K { t:=upd s.t d y,h:=s.h++bs }):Jf P .any f vals (some d) K s:=by
 unfold Jf
 rw [Zag]
 refine (c.lendThaw hv hR).mono fun r h' hr=>?_
 obtain ⟨t,bs,h1,h2,rfl⟩:=hr
 exact hk t r bs h1 h2
theorem frz_ha {h:List Box} {l sz n:Nat} {xs:List LV} (hl:h[l]?=some (some xs)) (hx:xs.length=n * sz):Qo h (.ha l sz 0 n n)=some (.sl true false sz (Qn sz n xs),h.set l none):=by
 simp only [Qo,hl]
 rw [if_pos ⟨hx,Nat.le_refl _⟩]
theorem ZjV {α:Type} (e:α->LV):∀ (l:List α),Qn 1 l.length (l.map e)=l.map fun x=>[e x]
 | []=>rfl
 | x::l=>by simp [Qn,ZjV e l]
theorem ZiO {α:Type} (e:α->List LV) (sz:Nat):∀ (l:List α),(∀ x∈l,(e x).length=sz)->Qn sz l.length (l.map e).flatten=l.map e
 | [],_=>rfl
 | x::l,h=>by
  have h1:=h x (by simp)
  simp only [List.length_cons,List.map_cons,List.flatten_cons,Qn]
  rw [List.take_append_of_le_length (by omega),List.take_of_length_le (by omega),List.drop_append,List.drop_of_length_le (by omega),h1,Nat.sub_self,List.drop_zero,List.nil_append,
   ZiO e sz l (fun y hy=>h y (by simp [hy]))]
theorem Qm {d:Nat} {f:FuncId} {vals:List LV} {R:LV->List Box->Prop} (c:QE P f vals s.h R) (hk:∀ r h',R r h'->K { t:=upd s.t d r,h:=h' }):Jf P .any f vals (some d) K s:=by
 unfold Jf
 rw [Zag]
 exact c.mono fun r h' hr=>hk r h' hr
end
theorem QM {t m:Nat} {R:LV->List Box->Prop} {e:Exit} {s:St} (he:e=.normal∨e=.ret) (h1:m<=s.h.length) (hR:R (s.t t) s.h):KZ [.tmp t] m R e s:=by
 refine ⟨he,[s.t t],_,s.h.length,rfl,h1,Nat.le_refl _,.inl rfl,?_⟩
 rw [List.take_of_length_le (Nat.le_refl _)]
 exact hR
theorem ZsO {α:Type} (dn:List α) (r:List α) (n:Nat) (h:n=dn.length):List.take n (dn++r)=dn:=by
 rw [h,List.take_append_of_le_length (Nat.le_refl _),List.take_of_length_le (Nat.le_refl _)]
theorem ZsJ {α:Type} (dn:List α) (x:α) (r:List α) (n:Nat) (h:n=dn.length+1):List.drop n (dn++x::r)=r:=by
 rw [h,List.drop_append,List.drop_of_length_le (by omega)]
 simp
@[simp] theorem get_mid {α:Type} {h1 h2:List α} {b:α}:(h1++b::h2)[h1.length]?=some b:=by simp
@[simp] theorem get_skip {α:Type} {h1 h2:List α} {k:Nat}:(h1++h2)[h1.length+k]?=h2[k]?:=by
 rw [List.getElem?_append_right (by omega)];congr 1;omega
@[simp] theorem set_skip {α:Type} {h1 h2:List α} {k:Nat} {c:α}:(h1++h2).set (h1.length+k) c=h1++h2.set k c:=by
 rw [List.set_append_right _ _ (by omega)];congr 2;omega
@[simp] theorem set_mid {α:Type} {h1 h2:List α} {b c:α}:(h1++b::h2).set h1.length c=h1++c::h2:=by simp
def GM.all (w:World):GM:=fun b i=>w.cell? ⟨b,i,none⟩
theorem Qe.row {P:Program} {f:FuncId} {args:List LV} {v:Value} (c:Qe P f args (·=.sc v)) (w:World) (vals:List Value) (hv:RepVals (GM.all w) [] args vals []) :
  Calls P f vals.toArray w fun e w'=>e=.returned v∧Zj7 w w'∧w.heap.size<=w'.heap.size∧∀ b,b < w.heap.size->w'.heap[b]?=w.heap[b]?:=by
 have hi0:WInv w (GM.all w) [] [] [] []:=by
  refine ⟨rfl,rfl,fun b i v hv=>hv,by simp,?_,by simp,?_,?_⟩
  ·rintro b ⟨l,xs,hl,_⟩;simp at hl
  ·intro b m k hm;simp at hm
  ·intro b;simp
 refine (c.2.2 w _ [] [] vals [] hv hi0).mono fun e w' he=>?_
 obtain ⟨u,r,h',B,ν,OH',O',g1,⟨g2,glow⟩,g3,g4⟩:=he
 subst g2
 simp only [Rep] at g3
 obtain ⟨rfl,_⟩:=g3
 refine ⟨g1,g4.since.still,g4.since.size,fun b hb=>(g4.since.kept b hb ?_).1⟩
 rintro (⟨l,xs,k,_⟩ | ⟨m,q,k⟩)<;>simp at k
theorem Zg6 {b w:Bool} {p q:Prop} (h1:b=w->p) (h2:b=(!w)->q):@Q4 (some b) w ⟨p⟩ ⟨q⟩:=by
 refine ⟨b,rfl,h1,fun h=>h2 ?_⟩
 cases b<;>cases w<;>simp at h ⊢
theorem Qk {b:Bool} {p q:Prop} (h1:b=true->p) (h2:b=false->q):@Q4 (some b) true ⟨p⟩ ⟨q⟩:=Zg6 h1 h2
theorem Ql {b:Bool} {p q:Prop} (h1:b=true->q) (h2:b=false->p):@Q4 (some b) false ⟨p⟩ ⟨q⟩:=Zg6 h2 h1
@[simp] theorem bin_beql {a b:Bool}:XB .bool .eql (.sc (.bool a)) (.sc (.bool b))=some (.sc (.bool (a == b))):=by
 cases a<;>cases b<;>rfl
@[simp] theorem bin_bneq {a b:Bool}:XB .bool .neq (.sc (.bool a)) (.sc (.bool b))=some (.sc (.bool (!(a == b)))):=by
 cases a<;>cases b<;>rfl
def cellAt (b:Option Box) (agg:Bool) (sz l:Nat) (h:List Box):Option (LV×List Box):=match b with
 | some (some xs)=>if sz=xs.length then (Wp agg xs).map fun v=>(v,h.set l (some (shareAll xs))) else none
 | _=>none
def Zq1 (v:LV) (h:List Box) (agg:Bool) (sz:Nat):Option (LV×List Box):=match v with
 | .ptr l 0=>cellAt h[l]? agg sz l h
 | _=>none
@[simp] theorem cellAt_some {xs:List LV} {agg:Bool} {sz l:Nat} {h:List Box}:cellAt (some (some xs)) agg sz l h=if sz=xs.length then (Wp agg xs).map fun v=>(v,h.set l (some (shareAll xs))) else none:=rfl
@[simp] theorem cellLV_ptr {h:List Box} {agg:Bool} {sz l:Nat}:Zq1 (.ptr l 0) h agg sz=cellAt h[l]? agg sz l h:=rfl
@[simp] theorem rvVals_cell {s:St} {t:Nat} {agg:Bool} {sz:Nat} {rs:List RV}:Ys s (.cell t agg sz::rs)=(Zq1 (s.t t) s.h agg sz).bind fun q=>(Ys { t:=s.t,h:=q.2 } rs).map fun p=>(q.1::p.1,p.2):=by
 simp only [Ys,Zg9,Zq1]
 cases h:s.t t<;>try rfl
 rename_i l o
 cases o with
 | succ o=>rfl
 | zero =>
  simp only [cellAt]
  cases h2:s.h[l]? with
  | none=>rfl
  | some b=>cases b with
   | none=>rfl
   | some xs =>
    by_cases hc:sz=xs.length
    ·simp only [if_pos hc]
     cases Wp agg xs with
     | none=>rfl
     | some v =>
      simp only [Option.map_some,Option.bind_some]
      cases Ys { s with h:=s.h.set l (some (shareAll xs)) } rs<;>rfl
    ·simp only [if_neg hc];rfl
def ZA (gs:List GI):List Nat:=gs.flatMap fun g=>g.2.writes
def Xy:C->List Nat
 | .skip=>[]
 | .reg gs=>ZA gs
 | .par its=>its.flatMap fun it=>ZA it.list
 | .frz k=>[k]
 | .thw ks n _ _=>(List.range n).filter fun j=>!ks.contains j
 | .seq a b=>Xy a++Xy b
 | .cond _ a b=>Xy a++Xy b
 | .block _ b=>Xy b
 | .loop b=>Xy b
 | .exit _=>[]
 | .ret=>[]
def Fr (W:List Nat) (t t':Nat->LV):Prop:=∀ k,k ∉ W->t' k=t k
theorem Fr.refl (W:List Nat) (t:Nat->LV):Fr W t t:=fun _ _=>rfl
theorem Fr.trans {W:List Nat} {a b c:Nat->LV} (h:Fr W a b) (g:Fr W b c):Fr W a c:=fun k hk=>(g k hk).trans (h k hk)
section
variable {P:Program}
theorem ZcT {g:GI} {K:St->Prop} {s:St} {W:List Nat} (hw:∀ k∈g.2.writes,k∈W) (h:wpG P g K s):wpG P g (fun s'=>K s'∧Fr W s.t s'.t) s:=by
 cases hc:g.2.isCall with
 | false =>
  rw [Wl hc] at h ⊢
  obtain ⟨s',h1,h2⟩:=h
  exact ⟨s',h1,h2,fun k hk=>(Ww g s s' h1).1 k (fun hk'=>hk (hw k hk'))⟩
 | true =>
  cases hg:g.2<;>(try (simp [hg,I.isCall] at hc;done))
  rename_i rw_ d f args
  have hd:∀ k∈d.toList,k∈W:=fun k hk=>hw k (by rw [hg];simp [I.writes,I.dst] at hk ⊢;exact .inl hk)
  have put:∀ r h',Fr W s.t (WA s d r h').t:=fun r h' k hk=>by
   simp only [WA]
   exact KR (fun hk'=>hk (hd k hk'))
  have core:Z7 P rw_ d f args K s->Z7 P rw_ d f args (fun s'=>K s'∧Fr W s.t s'.t) s:=by
   rintro ⟨fid,caps,c1,c2⟩
   exact ⟨fid,caps,c1,VX c2 fun r h' hr=>⟨hr,put r h'⟩⟩
  rw [JY hg] at h ⊢
  cases hg1:g.1 with
  | none=>rw [hg1] at h;exact core h
  | some jw =>
   obtain ⟨j,want⟩:=jw
   rw [hg1] at h
   obtain ⟨b,hb,h1,h2⟩:=h
   refine ⟨b,hb,fun e=>core (h1 e),fun e=>⟨h2 e,?_⟩⟩
   rw [Yl];exact put _ _
theorem Zn8 {W:List Nat}:∀ (gs:List GI) {K:St->Prop} {s:St},(∀ k∈ZA gs,k∈W)->wpL P gs K s->wpL P gs (fun s'=>K s'∧Fr W s.t s'.t) s
 | [],K,s,_,h=>⟨h,Fr.refl W _⟩
 | g::gs,K,s,hw,h=>by
  simp only [ZA,List.flatMap_cons,List.mem_append] at hw
  refine WF (ZcT (W:=W) (fun k hk=>hw k (.inl hk)) h) fun s1 ⟨h1,f1⟩=>?_
  refine Qe.of_code.wpL_mono gs (Zn8 gs (fun k hk=>hw k (.inr hk)) h1) fun s2 ⟨h2,f2⟩=>⟨h2,f1.trans f2⟩
theorem Zp9 {W:List Nat} {b:GI} (hb:∀ k∈b.2.writes,k∈W):∀ (gs:List GI) {K:St->Prop} {s:St},(∀ k∈ZA gs,k∈W)->ZdE P gs b K s->ZdE P gs b (fun s'=>K s'∧Fr W s.t s'.t) s
 | [],K,s,_,h=>ZcT hb h
 | g::gs,K,s,hw,h=>by
  have hw':=hw
  simp only [ZA,List.flatMap_cons,List.mem_append] at hw'
  refine ⟨WF (ZcT (W:=W) (fun k hk=>hw' k (.inl hk)) h.1) fun s1 ⟨h1,f1⟩=>ZcJ gs (Zp9 hb gs (fun k hk=>hw' k (.inr hk)) h1) fun s2 ⟨h2,f2⟩=>⟨h2,f1.trans f2⟩,
   WF (ZcT hb h.2) fun s1 ⟨h1,f1⟩=>ZhT (g::gs) (Zn8 (g::gs) hw h1) fun s2 ⟨h2,f2⟩=>⟨h2,f1.trans f2⟩⟩
theorem ZqL {W:List Nat}:∀ (its:List (It GI)) {K:St->Prop} {s:St},(∀ k∈its.flatMap fun it=>ZA it.list,k∈W)->Y5 P its K s->Y5 P its (fun s'=>K s'∧Fr W s.t s'.t) s
 | [],K,s,_,h=>⟨h,Fr.refl W _⟩
 | it::its,K,s,hw,h=>by
  simp only [List.flatMap_cons,List.mem_append] at hw
  have rest:∀ s1,Fr W s.t s1.t->Y5 P its K s1->Y5 P its (fun s'=>K s'∧Fr W s.t s'.t) s1:=fun s1 f1 h1 =>
   Zf9 its (ZqL its (fun k hk=>hw k (.inr hk)) h1) fun s2 ⟨h2,f2⟩=>⟨h2,f1.trans f2⟩
  cases it with
  | one g =>
   have hg:∀ k∈g.2.writes,k∈W:=fun k hk=>hw k (.inl (by simp [It.list,ZA];exact hk))
   exact WF (ZcT hg h) fun s1 ⟨h1,f1⟩=>rest s1 f1 h1
  | two g g' =>
   have hg:∀ k∈g.2.writes,k∈W:=fun k hk=>hw k (.inl (by simp [It.list,ZA];exact .inl hk))
   have hg':∀ k∈g'.2.writes,k∈W:=fun k hk=>hw k (.inl (by simp [It.list,ZA];exact .inr hk))
   refine ⟨WF (ZcT hg h.1) fun s1 ⟨h1,f1⟩=>WF (ZcT hg' h1) fun s2 ⟨h2,f2⟩=>rest s2 (f1.trans f2) h2,
    WF (ZcT hg' h.2) fun s1 ⟨h1,f1⟩=>WF (ZcT hg h1) fun s2 ⟨h2,f2⟩=>rest s2 (f1.trans f2) h2⟩
  | grp gs g' =>
   have hgs:∀ k∈ZA gs,k∈W:=fun k hk=>hw k (.inl (by simp only [It.list,ZA,List.flatMap_append,List.mem_append] at hk ⊢;exact .inl hk))
   have hg':∀ k∈g'.2.writes,k∈W:=fun k hk=>hw k (.inl (by simp only [It.list,ZA,List.flatMap_append,List.mem_append];exact .inr (by simpa using hk)))
   exact ZcJ gs (Zp9 hg' gs hgs h) fun s1 ⟨h1,f1⟩=>rest s1 f1 h1
theorem ZcQ {W:List Nat}:∀ (c:C) {Q:Exit->St->Prop} {s:St},(∀ k∈Xy c,k∈W)->wpC P c Q s->wpC P c (fun e s'=>Q e s'∧Fr W s.t s'.t) s
 | .skip,Q,s,_,h=>⟨h,Fr.refl W _⟩
 | .reg gs,Q,s,hw,h=>Zn8 gs hw h
 | .par its,Q,s,hw,h=>ZqL its hw h
 | .frz k,Q,s,hw,h=>by
  obtain ⟨s',h1,h2⟩:=h
  refine ⟨s',h1,h2,fun j hj=>ZmD h1 j fun e=>hj (hw j (by simp [Xy,e]))⟩
 | .thw ks n k o,Q,s,hw,h=>by
  obtain ⟨l,p,xs,sz,Qj,h1,h2,h3,h4a,h4b,h4,h5,h6,h7⟩:=h
  refine ⟨l,p,xs,sz,Qj,h1,h2,h3,h4a,h4b,h4,h5,h6,fun c sl hc hs=>⟨h7 c sl hc hs,fun j hj=>?_⟩⟩
  show Zni ks n s.t j=s.t j
  unfold Zni
  split
  ·rename_i hjn
   rw [if_pos]
   cases hc:ks.contains j with
   | true=>rfl
   | false=>exact absurd (hw j (by simp only [Xy,List.mem_filter,List.mem_range];exact ⟨hjn,by rw [hc];rfl⟩)) hj
  ·rfl
 | .seq a b,Q,s,hw,h=>by
  simp only [Xy,List.mem_append] at hw
  refine Qe.of_code.wpC_mono a (ZcQ a (fun k hk=>hw k (.inl hk)) h) fun e s1 ⟨h1,f1⟩=>?_
  cases e<;>first | exact ⟨h1,f1⟩ | skip
  exact Qe.of_code.wpC_mono b (ZcQ b (fun k hk=>hw k (.inr hk)) h1) fun e s2 ⟨h2,f2⟩=>⟨h2,f1.trans f2⟩
 | .cond x a b,Q,s,hw,h=>by
  simp only [Xy,List.mem_append] at hw
  obtain ⟨v,h1,h2,h3⟩:=h
  exact ⟨v,h1,fun e=>ZcQ a (fun k hk=>hw k (.inl hk)) (h2 e),fun e=>ZcQ b (fun k hk=>hw k (.inr hk)) (h3 e)⟩
 | .block id b,Q,s,hw,h=>by
  refine Qe.of_code.wpC_mono b (ZcQ b hw h) fun e s1 ⟨h1,f1⟩=>?_
  cases e<;>first | exact ⟨h1,f1⟩ | skip
  simp only [YP] at h1 ⊢
  split
  ·rename_i hid;rw [if_pos hid] at h1;exact ⟨h1,f1⟩
  ·rename_i hid;rw [if_neg hid] at h1;exact ⟨h1,f1⟩
 | .loop b,Q,s,hw,h=>by
  obtain ⟨I,k0,h0,hr⟩:=h
  refine ⟨fun k s'=>I k s'∧Fr W s.t s'.t,k0,⟨h0,Fr.refl W _⟩,fun k s1 ⟨hI,f1⟩=>?_⟩
  refine Qe.of_code.wpC_mono b (ZcQ b hw (hr k s1 hI)) fun e s2 ⟨h2,f2⟩=>?_
  cases e<;>first | exact ⟨h2,f1.trans f2⟩ | skip
  obtain ⟨k',hlt,h3⟩:=h2
  exact ⟨k',hlt,h3,f1.trans f2⟩
 | .exit id,Q,s,_,h=>⟨h,Fr.refl W _⟩
 | .ret,Q,s,_,h=>⟨h,Fr.refl W _⟩
theorem ZnC {b:C} {Q:Exit->St->Prop} {s:St} (J:Nat->(Nat->LV)->List Box->Prop) (k0:Nat) (h0:J k0 s.t s.h)
  (hr:∀ k t h,(∀ j,((Xy b).contains j)=false->t j=s.t j)->J k t h->wpC P b (Yu (fun s'=>∃ k',k' < k∧J k' s'.t s'.h) Q) ⟨t,h⟩):wpC P (.loop b) Q s:=by
 refine ⟨fun k s'=>J k s'.t s'.h∧Fr (Xy b) s.t s'.t,k0,⟨h0,Fr.refl _ _⟩,fun k s1 ⟨hJ,f1⟩=>?_⟩
 have h1:=hr k s1.t s1.h (fun j hj=>f1 j (by simpa using hj)) hJ
 refine Qe.of_code.wpC_mono b (ZcQ b (fun k hk=>hk) h1) fun e s2 ⟨h2,f2⟩=>?_
 cases e<;>first | exact h2 | skip
 obtain ⟨k',hlt,h3⟩:=h2
 exact ⟨k',hlt,h3,f1.trans f2⟩
theorem Zgz {gs:List GI} {K:St->Prop} {s:St} (M:(Nat->LV)->List Box->Prop) (h:wpL P gs (fun s'=>M s'.t s'.h) s)
  (hk:∀ t h,(∀ j,((ZA gs).contains j)=false->t j=s.t j)->M t h->K ⟨t,h⟩):wpL P gs K s :=
 Qe.of_code.wpL_mono gs (Zn8 (W:=ZA gs) gs (fun k hk=>hk) h) fun s' ⟨h1,f1⟩=>hk s'.t s'.h (fun j hj=>f1 j (by simpa using hj)) h1
theorem wpC_mid {c:C} {Q:Exit->St->Prop} {s:St} (M:(Nat->LV)->List Box->Prop) (h:wpC P c (fun e s'=>match e with | .normal=>M s'.t s'.h | e=>Q e s') s)
  (hk:∀ t h,(∀ j,((Xy c).contains j)=false->t j=s.t j)->M t h->Q .normal ⟨t,h⟩):wpC P c Q s:=by
 refine Qe.of_code.wpC_mono c (ZcQ (W:=Xy c) c (fun k hk=>hk) h) fun e s' ⟨h1,f1⟩=>?_
 cases e<;>first | exact h1 | skip
 exact hk s'.t s'.h (fun j hj=>f1 j (by simpa using hj)) h1
theorem Ztg {b:C} {id:Nat} {Q:Exit->St->Prop} {s:St} (J:Nat->(Nat->LV)->List Box->Prop) (M:(Nat->LV)->List Box->Prop) (k0:Nat) (h0:J k0 s.t s.h)
  (hr:∀ k t h,(∀ j,((Xy b).contains j)=false->t j=s.t j)->J k t h->wpC P b (Yu (fun s'=>∃ k',k' < k∧J k' s'.t s'.h) (YP id (Yu (fun s'=>M s'.t s'.h) Q))) ⟨t,h⟩)
  (hk:∀ t h,(∀ j,((Xy b).contains j)=false->t j=s.t j)->M t h->Q .normal ⟨t,h⟩):wpC P (.loop b) (YP id Q) s:=by
 have h1:=ZnC (Q:=YP id (Yu (fun s'=>M s'.t s'.h) Q)) J k0 h0 hr
 have h2:=ZcQ (W:=Xy b) (.loop b) (fun k hk=>hk) h1
 refine Qe.of_code.wpC_mono (.loop b) h2 fun e s' ⟨h3,f1⟩=>?_
 have hf:∀ j,((Xy b).contains j)=false->s'.t j=s.t j:=fun j hj=>f1 j (by simpa using hj)
 cases e<;>first | exact hk _ _ hf h3 | exact h3 | skip
 ·simp only [YP] at h3 ⊢
  split
  ·rename_i hid;rw [if_pos hid] at h3;exact hk _ _ hf h3
  ·rename_i hid;rw [if_neg hid] at h3;exact h3
theorem Wf {b:C} {Q:Exit->St->Prop} {s:St} (n i0:Nat) (J:Nat->(Nat->LV)->List Box->Prop) (h0:J i0 s.t s.h) (hi0:i0<=n)
  (hr:∀ i t h,(∀ j,((Xy b).contains j)=false->t j=s.t j)->i<=n->J i t h->wpC P b (Yu (fun s'=>i < n∧J (i+1) s'.t s'.h) Q) ⟨t,h⟩):wpC P (.loop b) Q s:=by
 refine ZnC (fun k t h=>∃ i,k=n - i∧i<=n∧J i t h) (n - i0) ⟨i0,rfl,hi0,h0⟩ ?_
 rintro k t h hf ⟨i,rfl,hi,hJ⟩
 refine Qe.of_code.wpC_mono b (hr i t h hf hi hJ) fun e s' hs=>?_
 cases e<;>first | exact hs | skip
 exact ⟨n - (i+1),by have:=hs.1;omega,i+1,rfl,hs.1,hs.2⟩
theorem WS {b:C} {id:Nat} {Q:Exit->St->Prop} {s:St} (n i0:Nat) (J:Nat->(Nat->LV)->List Box->Prop) (M:(Nat->LV)->List Box->Prop) (h0:J i0 s.t s.h) (hi0:i0<=n)
  (hr:∀ i t h,(∀ j,((Xy b).contains j)=false->t j=s.t j)->i<=n->J i t h->wpC P b (Yu (fun s'=>i < n∧J (i+1) s'.t s'.h) (YP id (Yu (fun s'=>M s'.t s'.h) Q))) ⟨t,h⟩)
  (hk:∀ t h,(∀ j,((Xy b).contains j)=false->t j=s.t j)->M t h->Q .normal ⟨t,h⟩):wpC P (.loop b) (YP id Q) s:=by
 refine Ztg (fun k t h=>∃ i,k=n - i∧i<=n∧J i t h) M (n - i0) ⟨i0,rfl,hi0,h0⟩ ?_ hk
 rintro k t h hf ⟨i,rfl,hi,hJ⟩
 refine Qe.of_code.wpC_mono b (hr i t h hf hi hJ) fun e s' hs=>?_
 cases e<;>first | exact hs | skip
 exact ⟨n - (i+1),by have:=hs.1;omega,i+1,rfl,hs.1,hs.2⟩
theorem ZcZ {a b:C} {Q:Exit->St->Prop} {s:St} (M:(Nat->LV)->List Box->Prop) (h:wpC P a (Yu (fun s'=>M s'.t s'.h) Q) s)
  (hk:∀ t h,(∀ j,((Xy a).contains j)=false->t j=s.t j)->M t h->wpC P b Q ⟨t,h⟩):wpC P (.seq a b) Q s:=by
 show wpC P a (Yu (wpC P b Q) Q) s
 refine wpC_mid M (Qe.of_code.wpC_mono a h fun e s' hs=>?_) hk
 cases e<;>exact hs
end
mutual
def Fz:LV->LV->List Box->List Box->Prop
 | .sl u nl sz Qj,y,h,h1=>(y=.sl u nl sz Qj∧h1=h) ∨
   (u=true∧nl=false∧∃ l cap cells rest,y=.ha l sz 0 Qj.length cap∧h[l]?=some (some (cells++rest))∧Qj.length<=cap∧(cells++rest).length=cap * sz∧Zei Qj sz cells (h.set l none) h1)
 | .rp ys,y,h,h1=>(y=.rp ys∧h1=h)∨∃ l xs,y=.ptr l 0∧h[l]?=some (some xs)∧Zaz ys xs (h.set l none) h1
 | .agg ys,y,h,h1=>∃ xs,y=.agg xs∧Zaz ys xs h h1
 | .tup ys,y,h,h1=>∃ xs,y=.tup xs∧Zaz ys xs h h1
 | t,y,h,h1=>y=t∧h1=h
def Zei:List (List LV)->Nat->List LV->List Box->List Box->Prop
 | [],_,cells,h,h1=>cells=[]∧h1=h
 | row::Qj,sz,cells,h,h1=>∃ c1 c2 h',cells=c1++c2∧row.length=sz∧Zaz row c1 h h'∧Zei Qj sz c2 h' h1
def Zaz:List LV->List LV->List Box->List Box->Prop
 | [],xs,h,h1=>xs=[]∧h1=h
 | y::ys,xs,h,h1=>∃ x xs' h',xs=x::xs'∧Fz y x h h'∧Zaz ys xs' h' h1
end
theorem Zhk:∀ (ys xs:List LV) (h h1:List Box),Zaz ys xs h h1->xs.length=ys.length
 | [],xs,h,h1,hz=>by simp only [Zaz] at hz;rw [hz.1]
 | y::ys,xs,h,h1,hz=>by
  simp only [Zaz] at hz
  obtain ⟨u,us,h',rfl,_,z2⟩:=hz
  simp [Zhk ys us h' h1 z2]
theorem ZgB:∀ (Qj:List (List LV)) (sz:Nat) (cells:List LV) (h h1:List Box),Zei Qj sz cells h h1->cells.length=Qj.length * sz
 | [],sz,cells,h,h1,hz=>by simp only [Zei] at hz;rw [hz.1];simp
 | row::Qj,sz,cells,h,h1,hz=>by
  simp only [Zei] at hz
  obtain ⟨c1,c2,h',rfl,hs,z1,z2⟩:=hz
  have e1:=Zhk row c1 h h' z1
  have e2:=ZgB Qj sz c2 h' h1 z2
  rw [List.length_append,List.length_cons,Nat.add_mul,e1,e2,hs];omega
section
variable {x:Cx} {w:World} {μ:List Nat}
def Zr4 (x:Cx) (w:World) (μ:List Nat) (B:GM) (h1:List Box) (E:List Own) (Rv:GM->List Own->Prop):Prop :=
 ∃ B' OH' O',St' x w B' μ h1 OH' (O'++E)∧B.Le B'∧Rv B' O'
theorem fz_box {B:GM} {h:List Box} {OH:List (List Own)} {O:List Own} (s:St' x w B μ h OH O) {l:Nat} {xs:List LV} (hl:h[l]?=some (some xs)) (m:Nat) (hm:m<=xs.length) :
  ∃ (c:Array Value) (e:TypeId) (Oc:List Own) (vs:List Value),w.heap[μ.getD l 0]?=some (.cells c e (0,0))∧c.size=xs.length∧(∀ p:Own->Bool,Oc.countP p<=(OH.getD l []).countP p) ∧
   RepVals (B.put (μ.getD l 0) 0 m c) μ (xs.take m) vs Oc∧(∀ j v,vs[j]?=some v->B.put (μ.getD l 0) 0 m c (μ.getD l 0) j=some v∧v.oneCell'=true)∧vs.length=m∧B.Le (B.put (μ.getD l 0) 0 m c):=by
 obtain ⟨c,e,hc,hxs,hone⟩:=s.inv.box l xs hl
 have hcl:c.size=xs.length:=by rw [<- hxs.length,Array.length_toList]
 have hlv:Kg μ h (μ.getD l 0):=⟨l,xs,hl,rfl⟩
 have hle:B.Le (B.put (μ.getD l 0) 0 m c):=GM.put_le (fun i _=>s.inv.loose _ hlv i)
 have h2:=RepVals.mono (ν:=[]) hle xs c.toList _ hxs
 rw [List.append_nil,<- List.take_append_drop m xs] at h2
 obtain ⟨v1,v2,Oc,Or,e1,e2,k1,k2⟩:=h2.split
 have l1:=k1.length
 rw [List.length_take,Nat.min_eq_left hm] at l1
 refine ⟨c,e,Oc,v1,hc,hcl,fun p=>by rw [e2,List.countP_append];omega,k1,fun j v hj=>?_,l1,hle⟩
 have hjl:j < v1.length:=by
  rcases Nat.lt_or_ge j v1.length with g | g
  ·exact g
  ·rw [List.getElem?_eq_none (by simpa using g)] at hj;simp at hj
 have hj':c[j]?=some v:=by
  rw [<- Array.getElem?_toList,e1,List.getElem?_append_left hjl];exact hj
 refine ⟨?_,hone v (List.mem_of_getElem? (by rw [Array.getElem?_toList];exact hj'))⟩
 unfold GM.put
 rw [if_pos (by omega)]
 exact hj'
theorem St'.le {B:GM} {h:List Box} {OH:List (List Own)} {O O2:List Own} (s:St' x w B μ h OH O) (hf:Zi O2 O):St' x w B μ h OH O2:=s.fewer hf
mutual
theorem ZkU:∀ (t y:LV) (h h1:List Box) (B:GM) (OH:List (List Own)) (O:List Own) (v:Value) (Ov E:List Own),Fz t y h h1->St' x w B μ h OH O->Rep B μ y v Ov ->
  (∀ p:Own->Bool,Ov.countP p+E.countP p<=O.countP p)->Zr4 x w μ B h1 E fun B' O'=>Rep B' μ t v O'
 | .sl u nl sz Qj,y,h,h1,B,OH,O,v,Ov,E,hz,s,hr,hf=>by
  simp only [Fz] at hz
  rcases hz with ⟨rfl,rfl⟩ | ⟨rfl,rfl,l,cap,cells,rest,rfl,hl,hcap,hlen,hz⟩
  ·exact ⟨B,OH,Ov,s.le (fun p=>by have:=hf p;simp only [List.countP_append];omega),fun _ _ _ h=>h,hr⟩
  ·simp only [Rep] at hr
   obtain ⟨rfl,hlμ,rfl⟩:=hr
   have hclen:=ZgB Qj sz cells _ _ hz
   obtain ⟨c,e,Oc,vs,hc,hcs,hOc,hvs,hAt,hvl,hle⟩:=fz_box s hl (Qj.length * sz) (by rw [List.length_append];omega)
   rw [List.take_append_of_le_length (by omega),List.take_of_length_le (by omega)] at hvs
   have s1:=s.settle hl (Oc++((μ.getD l 0,Qj.length * sz,c.size)::E)) hc (Qj.length * sz) (fun p=>by
    have h1:=hf p
    have h2:=hOc p
    simp only [List.countP_append,List.countP_cons,List.countP_nil] at h1 ⊢
    omega)
   obtain ⟨B',OH',O',s2,hle2,hr2,hrows⟩:=ZkR Qj sz cells (h.set l none) h1 _ _ _ vs Oc ((μ.getD l 0,Qj.length * sz,c.size)::E) hz s1 hvs (fun p=>by simp only [List.countP_append];omega)
   refine ⟨B',OH',(μ.getD l 0,Qj.length * sz,c.size)::O',s2.le (fun p=>by simp only [List.countP_append,List.countP_cons];omega),fun b i v hv=>hle2 b i v (hle b i v hv),?_⟩
   simp only [Rep]
   refine .inr ⟨trivial,_,0,none,cap,O',by rw [Nat.zero_mul],.inl rfl,hcap,Qw.of_vals hrows hr2 (fun j u hj=>?_),.inl ⟨trivial,rfl,by rw [hcs,hlen]⟩⟩
   obtain ⟨q1,q2⟩:=hAt j u hj
   exact ⟨by rw [Nat.zero_add];exact hle2 _ _ _ q1,q2⟩
 | .rp ys,y,h,h1,B,OH,O,v,Ov,E,hz,s,hr,hf=>by
  simp only [Fz] at hz
  rcases hz with ⟨rfl,rfl⟩ | ⟨l,xs,rfl,hl,hz⟩
  ·exact ⟨B,OH,Ov,s.le (fun p=>by have:=hf p;simp only [List.countP_append];omega),fun _ _ _ h=>h,hr⟩
  ·simp only [Rep] at hr
   obtain ⟨rfl,hlμ,rfl⟩:=hr
   obtain ⟨c,e,Oc,vs,hc,hcs,hOc,hvs,hAt,hvl,hle⟩:=fz_box s hl xs.length (Nat.le_refl _)
   rw [List.take_of_length_le (Nat.le_refl _)] at hvs
   have s1:=s.settle hl (Oc++E) hc xs.length (fun p=>by
    have h1:=hf p
    have h2:=hOc p
    simp only [List.countP_append,List.countP_nil] at h1 ⊢
    omega)
   obtain ⟨B',OH',O',s2,hle2,hr2⟩:=Zbh ys xs (h.set l none) h1 _ _ _ vs Oc E hz s1 hvs (fun p=>by simp only [List.countP_append];omega)
   refine ⟨B',OH',O',s2,fun b i v hv=>hle2 b i v (hle b i v hv),?_⟩
   simp only [Rep]
   refine ⟨_,0,rfl,Qu.of hr2 fun j u hj=>?_⟩
   obtain ⟨q1,q2⟩:=hAt j u hj
   exact ⟨by rw [Nat.zero_add];exact hle2 _ _ _ q1,q2⟩
 | .agg ys,y,h,h1,B,OH,O,v,Ov,E,hz,s,hr,hf=>by
  simp only [Fz] at hz
  obtain ⟨xs,rfl,hz⟩:=hz
  simp only [Rep] at hr
  obtain ⟨vs,rfl,h0,h2⟩:=hr
  obtain ⟨B',OH',O',s2,hle2,hr2⟩:=Zbh ys xs h h1 B OH O vs Ov E hz s h2 hf
  exact ⟨B',OH',O',s2,hle2,by simp only [Rep];exact ⟨vs,rfl,h0,hr2⟩⟩
 | .tup ys,y,h,h1,B,OH,O,v,Ov,E,hz,s,hr,hf=>by
  simp only [Fz] at hz
  obtain ⟨xs,rfl,hz⟩:=hz
  simp only [Rep] at hr
  obtain ⟨vs,rfl,h2⟩:=hr
  obtain ⟨B',OH',O',s2,hle2,hr2⟩:=Zbh ys xs h h1 B OH O vs Ov E hz s h2 hf
  exact ⟨B',OH',O',s2,hle2,by simp only [Rep];exact ⟨vs,rfl,hr2⟩⟩
 | .sc u,y,h,h1,B,OH,O,v,Ov,E,hz,s,hr,hf=>by
  simp only [Fz] at hz;obtain ⟨rfl,rfl⟩:=hz
  exact ⟨B,OH,Ov,s.le (fun p=>by have:=hf p;simp only [List.countP_append];omega),fun _ _ _ h=>h,hr⟩
 | .ha _ _ _ _ _,y,h,h1,B,OH,O,v,Ov,E,hz,s,hr,hf=>by
  simp only [Fz] at hz;obtain ⟨rfl,rfl⟩:=hz
  exact ⟨B,OH,Ov,s.le (fun p=>by have:=hf p;simp only [List.countP_append];omega),fun _ _ _ h=>h,hr⟩
 | .ptr _ _,y,h,h1,B,OH,O,v,Ov,E,hz,s,hr,hf=>by
  simp only [Fz] at hz;obtain ⟨rfl,rfl⟩:=hz
  exact ⟨B,OH,Ov,s.le (fun p=>by have:=hf p;simp only [List.countP_append];omega),fun _ _ _ h=>h,hr⟩
 | .fn _ _,y,h,h1,B,OH,O,v,Ov,E,hz,s,hr,hf=>by
  simp only [Fz] at hz;obtain ⟨rfl,rfl⟩:=hz
  exact ⟨B,OH,Ov,s.le (fun p=>by have:=hf p;simp only [List.countP_append];omega),fun _ _ _ h=>h,hr⟩
 | .fnm _ _,y,h,h1,B,OH,O,v,Ov,E,hz,s,hr,hf=>by
  simp only [Fz] at hz;obtain ⟨rfl,rfl⟩:=hz
  exact ⟨B,OH,Ov,s.le (fun p=>by have:=hf p;simp only [List.countP_append];omega),fun _ _ _ h=>h,hr⟩
 | .raw _,y,h,h1,B,OH,O,v,Ov,E,hz,s,hr,hf=>by
  simp only [Fz] at hz;obtain ⟨rfl,rfl⟩:=hz
  exact ⟨B,OH,Ov,s.le (fun p=>by have:=hf p;simp only [List.countP_append];omega),fun _ _ _ h=>h,hr⟩
 | .dead,y,h,h1,B,OH,O,v,Ov,E,hz,s,hr,hf=>by
  simp only [Fz] at hz;obtain ⟨rfl,rfl⟩:=hz
  exact ⟨B,OH,Ov,s.le (fun p=>by have:=hf p;simp only [List.countP_append];omega),fun _ _ _ h=>h,hr⟩
 | .both _ _,y,h,h1,B,OH,O,v,Ov,E,hz,s,hr,hf=>by
  simp only [Fz] at hz;obtain ⟨rfl,rfl⟩:=hz
  exact ⟨B,OH,Ov,s.le (fun p=>by have:=hf p;simp only [List.countP_append];omega),fun _ _ _ h=>h,hr⟩
theorem Zbh:∀ (ys xs:List LV) (h h1:List Box) (B:GM) (OH:List (List Own)) (O:List Own) (vs:List Value) (Ov E:List Own),Zaz ys xs h h1->St' x w B μ h OH O->RepVals B μ xs vs Ov ->
  (∀ p:Own->Bool,Ov.countP p+E.countP p<=O.countP p)->Zr4 x w μ B h1 E fun B' O'=>RepVals B' μ ys vs O'
 | [],xs,h,h1,B,OH,O,vs,Ov,E,hz,s,hr,hf=>by
  simp only [Zaz] at hz
  obtain ⟨rfl,rfl⟩:=hz
  exact ⟨B,OH,Ov,s.le (fun p=>by have:=hf p;simp only [List.countP_append];omega),fun _ _ _ h=>h,hr⟩
 | y::ys,xs,h,h1,B,OH,O,vs,Ov,E,hz,s,hr,hf=>by
  simp only [Zaz] at hz
  obtain ⟨u,us,h',rfl,z1,z2⟩:=hz
  simp only [RepVals] at hr
  obtain ⟨v,ws,O1,O2,rfl,rfl,k1,k2⟩:=hr
  obtain ⟨B1,OH1,O1',s1,hle1,r1⟩:=ZkU y u h h' B OH O v O1 (O2++E) z1 s k1 (fun p=>by have:=hf p;simp only [List.countP_append] at this ⊢;omega)
  have k2':=RepVals.mono (ν:=[]) hle1 us ws O2 k2
  rw [List.append_nil] at k2'
  obtain ⟨B2,OH2,O2',s2,hle2,r2⟩:=Zbh ys us h' h1 B1 OH1 _ ws O2 (O1'++E) z2 s1 k2' (fun p=>by simp only [List.countP_append];omega)
  have r1':=Rep.mono (ν:=[]) hle2 y v O1' r1
  rw [List.append_nil] at r1'
  exact ⟨B2,OH2,O1'++O2',s2.le (fun p=>by simp only [List.countP_append];omega),fun b i v hv=>hle2 b i v (hle1 b i v hv),by simp only [RepVals];exact ⟨v,ws,O1',O2',rfl,rfl,r1',r2⟩⟩
theorem ZkR:∀ (Qj:List (List LV)) (sz:Nat) (cells:List LV) (h h1:List Box) (B:GM) (OH:List (List Own)) (O:List Own) (vs:List Value) (Ov E:List Own),Zei Qj sz cells h h1->St' x w B μ h OH O->RepVals B μ cells vs Ov ->
  (∀ p:Own->Bool,Ov.countP p+E.countP p<=O.countP p)->Zr4 x w μ B h1 E fun B' O'=>RepVals B' μ Qj.flatten vs O'∧∀ r∈Qj,r.length=sz
 | [],sz,cells,h,h1,B,OH,O,vs,Ov,E,hz,s,hr,hf=>by
  simp only [Zei] at hz
  obtain ⟨rfl,rfl⟩:=hz
  exact ⟨B,OH,Ov,s.le (fun p=>by have:=hf p;simp only [List.countP_append];omega),fun _ _ _ h=>h,by simpa using hr,by simp⟩
 | row::Qj,sz,cells,h,h1,B,OH,O,vs,Ov,E,hz,s,hr,hf=>by
  simp only [Zei] at hz
  obtain ⟨c1,c2,h',rfl,hlen,z1,z2⟩:=hz
  obtain ⟨v1,v2,O1,O2,rfl,rfl,k1,k2⟩:=hr.split
  obtain ⟨B1,OH1,O1',s1,hle1,r1⟩:=Zbh row c1 h h' B OH O v1 O1 (O2++E) z1 s k1 (fun p=>by have:=hf p;simp only [List.countP_append] at this ⊢;omega)
  have k2':=RepVals.mono (ν:=[]) hle1 c2 v2 O2 k2
  rw [List.append_nil] at k2'
  obtain ⟨B2,OH2,O2',s2,hle2,r2,r3⟩:=ZkR Qj sz c2 h' h1 B1 OH1 _ v2 O2 (O1'++E) z2 s1 k2' (fun p=>by simp only [List.countP_append];omega)
  have r1':=RepVals.mono (ν:=[]) hle2 row v1 O1' r1
  rw [List.append_nil] at r1'
  refine ⟨B2,OH2,O1'++O2',s2.le (fun p=>by simp only [List.countP_append];omega),fun b i v hv=>hle2 b i v (hle1 b i v hv),?_,?_⟩
  ·rw [List.flatten_cons];exact RepVals.app r1' r2
  ·intro r hr
   rcases List.mem_cons.1 hr with rfl | hr
   ·exact hlen
   ·exact r3 r hr
end
end
theorem QE.freeze {P:Program} {f:FuncId} {args:List LV} {h:List Box} {R:LV->List Box->Prop}
  (c:QE P f args h fun r h'=>∃ t h1 m,Fz t r h' h1∧h.length<=m∧m<=h1.length∧Low m t∧(∀ l xs,l < m->h1[l]?=some (some xs)->QI m xs)∧R t (h1.take m)):QE P f args h R:=by
 obtain ⟨h1,⟨r0,h0',t0,h01,m0,_,_,_,_,_,hR0⟩,h2⟩:=c
 refine ⟨h1,⟨_,_,hR0⟩,fun w A μ OH vals Oa hv hi=>(h2 w A μ OH vals Oa hv hi).mono fun e w' he=>?_⟩
 obtain ⟨v,r,h',B,ν,OH',O',g1,⟨t,h1',m,z,m1,m2,lo,lb,hR⟩,g3,g4⟩:=he
 obtain ⟨B',OH2,O2,s2,hle,r2⟩:=ZkU t r h' h1' B OH' (O'++[]) v O' [] z (by rw [List.append_nil];exact g4) g3 (fun p=>by simp)
 rw [List.append_nil] at s2
 have hlen:=s2.inv.len
 have hμ:=hi.len
 have s3:=s2.cut m (by simp only [Zq];omega) lb m2
 have htk:(μ++ν).take m=μ++ν.take (m - μ.length):=by
  rw [List.take_append,List.take_of_length_le (by omega)]
 rw [htk] at s3
 refine ⟨v,t,h1'.take m,B',ν.take (m - μ.length),_,O2,g1,hR,?_,s3⟩
 rw [<- htk]
 exact Rep.low (k:=m) (by simp only [List.length_take];omega) (fun l hl=>by
  rw [List.getD_eq_getElem?_getD,List.getElem?_take,if_pos hl,<- List.getD_eq_getElem?_getD]) t v O2 lo r2
mutual
def ZkN:LV->Bool
 | .sc _=>true
 | .ha _ _ _ _ _=>true
 | .ptr _ _=>true
 | .dead=>true
 | .both _ _=>true
 | .sl _ nl _ xs=>nl && xs.isEmpty
 | _=>false
end
theorem ZkN.rep {A B:GM} {μ:List Nat}:∀ (y:LV) (v:Value) (O:List Own),ZkN y=true->(∀ u x,y=.both u x->Rep A μ x u [])->Rep B μ y v O->Rep A μ y v O∧O=[]
 | .sc _,v,O,_,_,h=>by simp only [Rep] at h ⊢;exact ⟨h,h.2⟩
 | .ha _ _ _ _ _,v,O,_,_,h=>by simp only [Rep] at h ⊢;exact ⟨h,h.1⟩
 | .ptr _ _,v,O,_,_,h=>by simp only [Rep] at h ⊢;exact ⟨h,h.1⟩
 | .dead,v,O,_,_,h=>by simp only [Rep] at h ⊢;exact ⟨h,h⟩
 | .both u x,v,O,_,hx,h=>by simp only [Rep] at h ⊢;obtain ⟨h1,rfl,_⟩:=h;exact ⟨⟨h1,rfl,hx _ x rfl⟩,h1⟩
 | .sl u nl sz xs,v,O,hh,_,h=>by
  simp only [ZkN,Bool.and_eq_true,List.isEmpty_iff] at hh
  obtain ⟨rfl,rfl⟩:=hh
  simp only [Rep] at h ⊢
  rcases h with h | ⟨h,_⟩
  ·exact ⟨.inl h,h.2.2.2⟩
  ·simp at h
 | .rp _,_,_,h,_,_=>by simp [ZkN] at h
 | .fn _ _,_,_,h,_,_=>by simp [ZkN] at h
 | .fnm _ _,_,_,h,_,_=>by simp [ZkN] at h
 | .agg _,_,_,h,_,_=>by simp [ZkN] at h
 | .tup _,_,_,h,_,_=>by simp [ZkN] at h
 | .raw _,_,_,h,_,_=>by simp [ZkN] at h
def LowH (h:List Box):Prop:=∀ (l:Nat) (xs:List LV),h[l]?=some (some xs)->QI h.length xs
theorem WInv.lowH {w:World} {A:GM} {μ:List Nat} {h:List Box} {OH:List (List Own)} {O:List Own} (i:WInv w A μ h OH O):LowH h:=by
 intro l xs hl
 obtain ⟨c,e,_,h2,_⟩:=i.box l xs hl
 rw [<- i.len]
 exact RepVals.seen xs _ _ h2
theorem Zdo {P:Program} {f:FuncId} {m:List (Nat×List Md)} {k:C} {rvs:List RV} {n:Nat} (hc:Qq P f m=some (k,rvs,n)):Zak P f=true:=by
 replace hc:=(Zd3 hc).1
 unfold Ze5 at hc
 split at hc
 ·rename_i hcal;exact hcal
 ·simp at hc
theorem QE.of_low {P:Program} {f:FuncId} {args:List LV} {h:List Box} {R:LV->List Box->Prop} (hc:Zak P f=true) (hex:∃ r h',R r h') (c:LowH h->QE P f args h R):QE P f args h R :=
 ⟨hc,hex,fun w A μ OH vals Oa hv hi=>(c hi.lowH).2.2 w A μ OH vals Oa hv hi⟩
structure Dr where
 nl:Bool
 bs:List Int
abbrev Dr.lv (D:Dr):LV:=.sl false D.nl 1 (D.bs.map fun b=>[.sc (.int .u8 b)])
structure Dr.ok (D:Dr):Prop where
 len:D.bs.length<=1099511627776
 byte:∀ b∈D.bs,0<=b∧b<=255
def ZfD (D:Dr) (i k:Int):Prop:=0<=i∧i<=D.bs.length∧-9223372036854775808<=k∧k<=9223372036854775807
def Zk1 (P:Program) (D:Dr) (f:FuncId) (rest:List LV) (Q:LV->Prop):Prop :=
 ∀ (h1 h3:List Box) (ct:LV) (i k:Int),share ct=D.lv->ZfD D i k->QE P f (.ptr h1.length 0::rest) (h1++some [ct,N i,N k]::h3) fun r h'=>∃ i' k',ZfD D i' k'∧Q r∧h'=h1++some [ct,N i',N k']::h3
section
variable {P:Program} {D:Dr} {K:St->Prop}
theorem Zk1.mono {f:FuncId} {rest:List LV} {Q Q':LV->Prop} (c:Zk1 P D f rest Q) (h:∀ r,Q r->Q' r):Zk1 P D f rest Q' :=
 fun h1 h3 ct i k hct hk=>(c h1 h3 ct i k hct hk).mono fun r h' hr=>by
  obtain ⟨i',k',q1,q2,q3⟩:=hr
  exact ⟨i',k',q1,h r q2,q3⟩
def PostC (D:Dr) (rvs:List RV) (h1 h3:List Box) (ct:LV) (Q:LV->Prop):Exit->St->Prop:=fun e s=>(e=.normal∨e=.ret) ∧
 ∃ r s' i' k' ex,Ys s rvs=some (r,s')∧s'.h=h1++some [ct,N i',N k']::(h3++ex)∧ZfD D i' k'∧Low 0 (ZdR r)∧Q (ZdR r)
theorem ZjW {rvs:List RV} {h1 h3:List Box} {ct:LV} {i j:Int} {Q:LV->Prop} {e:Exit} {s:St} (lh:LowH (h1++some [ct,N i,N j]::h3)) (hs:PostC D rvs h1 h3 ct Q e s) :
  KZ rvs (h1++some [ct,N i,N j]::h3).length (fun r h'=>∃ i' k',ZfD D i' k'∧Q r∧h'=h1++some [ct,N i',N k']::h3) e s:=by
 obtain ⟨he,r,s',i',k',ex,q1,q2,q3,q4,q5⟩:=hs
 have hl:(h1++some [ct,N i',N k']::h3).length=(h1++some [ct,N i,N j]::h3).length:=by simp
 have htk:s'.h.take (h1++some [ct,N i,N j]::h3).length=h1++some [ct,N i',N k']::h3:=by
  rw [q2,<- hl,show h1++some [ct,N i',N k']::(h3++ex)=(h1++some [ct,N i',N k']::h3)++ex by simp,List.take_left']
  rfl
 refine ⟨he,r,s',(h1++some [ct,N i,N j]::h3).length,q1,Nat.le_refl _,by rw [q2];simp,.inr ⟨Low.mono_go (Nat.zero_le _) _ q4,fun l xs hl' hx=>?_⟩,by rw [htk];exact ⟨i',k',q3,q5,rfl⟩⟩
 have hx2:(h1++some [ct,N i',N k']::h3)[l]?=some (some xs):=by
  rw [<- htk,List.getElem?_take,if_pos hl'];exact hx
 by_cases e:l=h1.length
 ·subst e
  simp at hx2
  subst hx2
  have:=lh h1.length _ (by simp;rfl)
  simpa [QI] using this
 ·refine lh l xs ?_
  rcases Nat.lt_or_ge l h1.length with g | g
  ·rw [List.getElem?_append_left g] at hx2 ⊢;exact hx2
  ·rw [List.getElem?_append_right g] at hx2 ⊢
   obtain ⟨q,hq⟩:∃ q,l - h1.length=q+1:=⟨l - h1.length - 1,by omega⟩
   rw [hq] at hx2 ⊢
   simpa using hx2
theorem Zk1.of_codeOf {f:FuncId} {m:List (Nat×List Md)} {k:C} {rvs:List RV} {n:Nat} {rest:List LV} {Q:LV->Prop} (hc:Qq P f m=some (k,rvs,n)) (hm:P.follows .mixedOrders=true)
  (hlen:rest.length+1<=n) (hex:∃ r,Q r) (hw:∀ h1 h3 ct i j,share ct=D.lv->ZfD D i j->wpC P k (PostC D rvs h1 h3 ct Q) { t:=env (.ptr h1.length 0::rest),h:=h1++some [ct,N i,N j]::h3 }):Zk1 P D f rest Q:=by
 intro h1 h3 ct i j hct hk
 have hex':∃ r h',∃ i' k',ZfD D i' k'∧Q r∧h'=h1++some [ct,N i',N k']::h3:=by
  obtain ⟨r,hr⟩:=hex
  exact ⟨r,_,i,j,hk,hr,rfl⟩
 refine QE.of_low (Zdo hc) hex' fun lh=>?_
 exact QE.of_codeOf hc hm (by simpa using hlen) hex' (Qe.of_code.wpC_mono k (hw h1 h3 ct i j hct hk) fun e s hs=>ZjW lh hs)
def Zdr (h:List Box):Prop:=∀ b∈h,∀ ys,b=some ys->ys.all ZkN=true∧∀ u z,LV.both u z ∉ ys
theorem Zdr.nil:Zdr []:=fun _ h=>by simp at h
theorem Zdr.none {h:List Box} (H:Zdr h):Zdr (h++[none]):=fun b hb ys e=>by
 rcases List.mem_append.1 hb with hb | hb
 ·exact H b hb ys e
 ·simp at hb;subst hb;simp at e
theorem Zdr.one {h:List Box} (H:Zdr h) {xs:List LV} (hx:xs.all ZkN=true) (hn:∀ u z,LV.both u z ∉ xs):Zdr (h++[some xs]):=fun b hb ys e=>by
 rcases List.mem_append.1 hb with hb | hb
 ·exact H b hb ys e
 ·simp at hb;subst hb;simp at e;subst e;exact ⟨hx,hn⟩
def CtOk (D:Dr) (ct:LV):Prop:=ct=D.lv∨∃ u,ct=.both u D.lv
theorem Dr.share (D:Dr):share D.lv=D.lv:=by simp
theorem CtOk.share {ct:LV} (h:CtOk D ct):TL.share ct=D.lv:=by
 rcases h with rfl | ⟨u,rfl⟩
 ·exact D.share
 ·simp only [TL.share];exact D.share
def Zlw (P:Program) (D:Dr) (f:FuncId) (rest:List LV) (Q:LV->Prop):Prop :=
 ∀ (h1 h3:List Box) (ct:LV) (i k:Int),Zdr h1->Zdr h3->CtOk D ct->ZfD D i k->QE P f (.ptr h1.length 0::rest) (h1++some [ct,N i,N k]::h3) fun r h'=>∃ i' k',ZfD D i' k'∧Q r∧h'=h1++some [ct,N i',N k']::h3
theorem Zlw.mono {f:FuncId} {rest:List LV} {Q Q':LV->Prop} (c:Zlw P D f rest Q) (h:∀ r,Q r->Q' r):Zlw P D f rest Q' :=
 fun h1 h3 ct i k H1 H3 hct hk=>(c h1 h3 ct i k H1 H3 hct hk).mono fun r h' hr=>by
  obtain ⟨i',k',q1,q2,q3⟩:=hr
  exact ⟨i',k',q1,h r q2,q3⟩
theorem Zlw.of_codeOf {f:FuncId} {m:List (Nat×List Md)} {k:C} {rvs:List RV} {n:Nat} {rest:List LV} {Q:LV->Prop} (hc:Qq P f m=some (k,rvs,n)) (hm:P.follows .mixedOrders=true)
  (hlen:rest.length+1<=n) (hex:∃ r,Q r) (hw:∀ h1 h3 ct i j,Zdr h1->Zdr h3->CtOk D ct->ZfD D i j->wpC P k (PostC D rvs h1 h3 ct Q) { t:=env (.ptr h1.length 0::rest),h:=h1++some [ct,N i,N j]::h3 }):Zlw P D f rest Q:=by
 intro h1 h3 ct i j H1 H3 hct hk
 have hex':∃ r h',∃ i' k',ZfD D i' k'∧Q r∧h'=h1++some [ct,N i',N k']::h3:=by
  obtain ⟨r,hr⟩:=hex
  exact ⟨r,_,i,j,hk,hr,rfl⟩
 refine QE.of_low (Zdo hc) hex' fun lh=>?_
 refine QE.of_codeOf hc hm (by simpa using hlen) hex' (Qe.of_code.wpC_mono k (hw h1 h3 ct i j H1 H3 hct hk) fun e s hs=>?_)
 exact ZjW lh hs
end
end Go.TL