/- Part 7 of the proof of the row of the text YthdkhhebanogbaaGreatZRowWeakened: texts joined. No conditions. -/
import Derived.Test.YthdkhhebanogbaaGreatZfRowWeakened
set_option linter.unusedSimpArgs false
set_option linter.unusedVariables false
set_option linter.unusedSectionVars false
namespace Go.TL
theorem Qb.low0 {A:GM} {μ ν:List Nat}:∀ {xs:List LV} {vs:List Value} {O:List Own},QA 0 xs→Qb A μ xs vs O→Qb A ν xs vs O
 | [],vs,O,_,h=>by simpa only [Qb] using h
 | x::xs,vs,O,hl,h=>by
  simp only [QA] at hl
  simp only [Qb] at h ⊢
  obtain ⟨v,ws,O1,O2,e1,e2,h1,h2⟩:=h
  exact ⟨v,ws,O1,O2,e1,e2,Rep.low (k:=0) (Nat.zero_le _) (fun l hl=>by omega) _ _ _ hl.1 h1,Qb.low0 hl.2 h2⟩
theorem Ki.toF {P:Program} {D:Dr} {f:FuncId} {rest:List LV} {Q:LV→Prop} (c:Ki P D f rest Q) (hlow:QA 0 rest) (hQ:∀ r,Q r→Low 0 r):Q0 P D f rest Q:=by
 intro h1 h3 ct i k hct hk
 have c0:=c [] [] D.lv i k Jf.nil Jf.nil (.inl rfl) hk
 obtain ⟨hcal,⟨r0,_,i0,k0,hk0,hq0,_⟩,_⟩:=c0
 refine ⟨hcal,⟨r0,_,i0,k0,hk0,hq0,rfl⟩,fun w A μ OH vals Oa hv hi=>?_⟩
 have hl0:(h1++some [ct,N i,N k]::h3)[h1.length]?=some (some [ct,N i,N k]):=by simp
 obtain ⟨cc,e,hc,hrep,hone⟩:=hi.box h1.length _ hl0
 generalize hb0:μ.getD h1.length 0=b0 at *
 have hrep0:=hrep
 simp only [Qb] at hrep
 obtain ⟨vct,ws,Oct,O2,hcl,hO,hvct,v1,ws1,O3,O4,rfl,rfl,hv1,v2,ws2,O5,O6,rfl,rfl,hv2,rfl,rfl⟩:=hrep
 simp only [Rep] at hv1 hv2
 obtain ⟨rfl,rfl⟩:=hv1
 obtain ⟨rfl,rfl⟩:=hv2
 have hD:Rep A μ D.lv vct []:=by rw [← hct];exact Rep.share _ _ _ hvct
 have lD:Low 0 D.lv:=by
  simp only [Dr.lv,Low]
  generalize D.bs=l
  induction l with
  | nil=>simp only [List.map_nil,We]
  | cons a l ih=>simp only [List.map_cons,We,QA,Low];exact ⟨⟨trivial,trivial⟩,ih⟩
 have hD':Rep A [b0] D.lv vct []:=Rep.low (k:=0) (Nat.zero_le _) (fun l hl=>by omega) _ _ _ lD hD
 simp only [Qb] at hv
 obtain ⟨v0,vs,O1,O2',rfl,rfl,hp,hvs⟩:=hv
 simp only [Rep] at hp
 obtain ⟨rfl,_,rfl⟩:=hp
 simp only [List.nil_append] at hvs hi ⊢
 have live0:YK μ (h1++some [ct,N i,N k]::h3) b0:=⟨h1.length,_,hl0,hb0⟩
 have liveS:∀ {b:Nat} {x:List LV},YK [b0] [some x] b→b=b0:=by
  rintro b x ⟨l,xs,hl,h⟩
  cases l with
  | zero=>simpa using h.symm
  | succ l=>simp at hl
 have hsz:∀ b,YK μ (h1++some [ct,N i,N k]::h3) b→b < w.heap.size:=by
  rintro b ⟨l,xs,hl,rfl⟩
  obtain ⟨c',e',h',_⟩:=hi.box l xs hl
  exact (Array.getElem?_eq_some_iff.1 h').1
 have tg:∀ x:LV,Rep A [b0] x vct []→Rep A [b0] (.both vct x) vct []:=fun x hx=>by simp only [Rep];exact ⟨trivial,trivial,hx⟩
 have hs:WInv w A [b0] [some [.both vct D.lv,N i,N k]] [[]] O2':=by
  refine ⟨rfl,rfl,hi.cells,?_,?_,?_,?_,?_⟩
  ·intro l xs hl
   cases l with
   | zero =>
    simp only [List.getElem?_cons_zero,Option.some.injEq] at hl
    subst hl
    refine ⟨cc,e,by simpa using hc,?_,hone⟩
    rw [hcl]
    simp only [Qb]
    exact ⟨vct,_,[],[],rfl,rfl,tg _ hD',_,_,[],[],rfl,rfl,by simp [Rep],_,_,[],[],rfl,rfl,by simp [Rep],rfl,rfl⟩
   | succ l=>simp at hl
  ·intro b hb
   rw [liveS hb];exact hi.loose b0 live0
  ·intro l l' xs xs' hl hl' _
   cases l<;>cases l'<;>simp at hl hl' ⊢
  ·intro b n c' hm
   obtain ⟨g1,g2,g3⟩:=hi.own b n c' (by simp at hm ⊢;exact .inl hm)
   exact ⟨g1,g2,fun hb=>g3 (by rw [liveS hb];exact live0)⟩
  ·intro b
   have:=hi.once b
   simp only [List.countP_append] at this
   simp;omega
 have cs:=(c [] [] (.both vct D.lv) i k Jf.nil Jf.nil (.inr ⟨vct,rfl⟩) hk).2.2 w A [b0] [[]] (.pointer (some ⟨b0,0,none⟩)::vs) O2' (by
  simp only [Qb]
  exact ⟨_,vs,[],O2',rfl,rfl,by simp [Rep],hvs.low0 hlow⟩) hs
 rw [hb0]
 refine cs.mono fun e' w' he=>?_
 obtain ⟨v,r,h',B,ν,OH',O',g1,⟨i',k',g2,g3,rfl⟩,g4,g5⟩:=he
 simp only [List.length_nil,List.nil_append] at g5
 have hν:ν=[]:=by
  have:=g5.inv.len
  simp at this
  exact this
 subst hν
 have hOH:∃ oh,OH'=[oh]:=by
  have:=g5.inv.lenO
  simp at this
  match OH',this with
  | [x],_=>exact ⟨x,rfl⟩
 obtain ⟨oh,rfl⟩:=hOH
 simp only [List.append_nil] at g4 g5
 have I:=g5.inv
 have S:=g5.since
 obtain ⟨c2,e2,k1,k2,k3⟩:=I.box 0 _ rfl
 simp only [List.getD_cons_zero] at k1 k2
 simp only [Qb] at k2
 obtain ⟨u0,us,P1,P2,hc2,hP,hu0,u1,us1,P3,P4,rfl,rfl,hu1,u2,us2,P5,P6,rfl,rfl,hu2,rfl,rfl⟩:=k2
 simp only [Rep] at hu0 hu1 hu2
 obtain ⟨rfl,rfl,_⟩:=hu0
 obtain ⟨rfl,rfl⟩:=hu1
 obtain ⟨rfl,rfl⟩:=hu2
 simp only [List.append_nil] at hP
 subst hP
 have T0s:∀ b,(YV w A [b0] [some [.both u0 D.lv,N i,N k]] [[]] O2').T0 b→b=b0∨Y1 O2' b:=by
  rintro b (hb | hb)
  ·exact .inl (liveS hb)
  ·right;simpa using hb
 have swp:∀ l xs,(h1++some [ct,N i',N k']::h3)[l]?=some (some xs)→∃ ys,(h1++some [ct,N i,N k]::h3)[l]?=some (some ys)∧(l≠h1.length→ys=xs):=by
  intro l xs hl
  by_cases el:l=h1.length
  ·subst el;exact ⟨_,hl0,fun h=>absurd rfl h⟩
  ·refine ⟨xs,?_,fun _=>rfl⟩
   rcases Nat.lt_or_ge l h1.length with g | g
   ·rw [List.getElem?_append_left g] at hl ⊢;exact hl
   ·rw [List.getElem?_append_right g] at hl ⊢
    obtain ⟨q,hq⟩:∃ q,l - h1.length=q+1:=⟨l - h1.length - 1,by omega⟩
    rw [hq] at hl ⊢
    simpa using hl
 have lvb:∀ b,YK μ (h1++some [ct,N i',N k']::h3) b→YK μ (h1++some [ct,N i,N k]::h3) b:=by
  rintro b ⟨l,xs,hl,h⟩
  obtain ⟨ys,hy,_⟩:=swp l xs hl
  exact ⟨l,ys,hy,h⟩
 have keep:∀ b,b < w.heap.size→b≠b0→¬ Y1 O2' b→w'.heap[b]?=w.heap[b]?∧∀ i,B b i=A b i:=fun b hb hb0 ho=>S.kept b hb (fun h=>by
  rcases T0s b h with h | h
  ·exact hb0 h
  ·exact ho h)
 have ownL:∀ b,Y1 O2' b→¬ YK μ (h1++some [ct,N i,N k]::h3) b:=by
  rintro b ⟨n,c',hm⟩
  exact (hi.own b n c' (by simp [hm])).2.2
 have ownH:∀ b,Y1 OH.flatten b→b < w.heap.size∧b≠b0∧¬ Y1 O2' b:=by
  rintro b ⟨n,c',hm⟩
  obtain ⟨⟨cs,e3,q1,_⟩,_,q3⟩:=hi.own b n c' (List.mem_append.2 (.inr hm))
  refine ⟨(Array.getElem?_eq_some_iff.1 q1).1,fun h=>q3 (by rw [h];exact live0),fun h=>?_⟩
  have a1:=Ww.1 h
  have a2:=Ww.1 ⟨n,c',hm⟩
  have a3:=hi.once b
  simp only [List.countP_append] at a3
  omega
 have ownO:∀ b,Y1 O' b→b < w.heap.size→b=b0∨Y1 O2' b:=by
  rintro b ⟨n,c',hm⟩ hb
  rcases S.ownT b n c' (by simp [hm]) with h | h
  ·have:w.heap.size≤b:=h
   omega
  ·exact T0s b h
 have notO0:¬ Y1 O' b0:=by
  rintro ⟨n,c',hm⟩
  exact (I.own b0 n c' (by simp [hm])).2.2 ⟨0,_,rfl,rfl⟩
 refine ⟨v,r,_,B,[],OH,O',g1,⟨i',k',g2,g3,rfl⟩,?_,?_,?_⟩
 ·rw [List.append_nil]
  exact Rep.low (k:=0) (Nat.zero_le _) (fun l hl=>by omega) _ _ _ (hQ r g3) g4
 ·rw [List.append_nil]
  refine ⟨by have:=hi.len;simpa using this,by have:=hi.lenO;simpa using this,I.cells,?_,?_,?_,?_,?_⟩
  ·intro l xs hl
   obtain ⟨ys,hy,hne⟩:=swp l xs hl
   by_cases el:l=h1.length
   ·subst el
    simp at hl
    subst hl
    rw [hb0]
    refine ⟨c2,e2,k1,?_,k3⟩
    rw [hc2,hO]
    simp only [Qb]
    refine ⟨u0,_,Oct,[],rfl,by simp,?_,_,_,[],[],rfl,rfl,by simp [Rep],_,_,[],[],rfl,rfl,by simp [Rep],rfl,rfl⟩
    have:=Rep.mono (ν:=[]) S.le ct u0 Oct hvct
    rwa [List.append_nil] at this
   ·have:=hne el
    subst this
    obtain ⟨c',e',q1,q2,q3⟩:=hi.box l ys hy
    have hlv:YK μ (h1++some [ct,N i,N k]::h3) (μ.getD l 0):=⟨l,ys,hy,rfl⟩
    obtain ⟨z1,_⟩:=keep (μ.getD l 0) (hsz _ hlv) (fun h=>el (hi.apart l h1.length _ _ hy hl0 (by rw [h,hb0]))) (fun h=>ownL _ h hlv)
    refine ⟨c',e',by rw [z1];exact q1,?_,q3⟩
    have:=Qb.mono (ν:=[]) S.le ys c'.toList _ q2
    rwa [List.append_nil] at this
  ·intro b hb j
   have hb':=lvb b hb
   by_cases eb:b=b0
   ·subst eb;exact I.loose b ⟨0,_,rfl,rfl⟩ j
   ·rw [(keep b (hsz b hb') eb (fun h=>ownL b h hb')).2 j];exact hi.loose b hb' j
  ·intro l l' xs xs' hl hl' h
   obtain ⟨ys,hy,_⟩:=swp l xs hl
   obtain ⟨ys',hy',_⟩:=swp l' xs' hl'
   exact hi.apart l l' ys ys' hy hy' h
  ·intro b n c' hm
   rcases List.mem_append.1 hm with hm | hm
   ·obtain ⟨q1,q2,q3⟩:=I.own b n c' (by simp [hm])
    refine ⟨q1,q2,fun hb=>?_⟩
    have hb':=lvb b hb
    rcases ownO b ⟨n,c',hm⟩ (hsz b hb') with h | h
    ·rw [h] at hm;exact notO0 ⟨n,c',hm⟩
    ·exact ownL b h hb'
   ·obtain ⟨⟨cs,e3,q1,q1b,q1c⟩,q2,q3⟩:=hi.own b n c' (List.mem_append.2 (.inr hm))
    obtain ⟨a1,a2,a3⟩:=ownH b ⟨n,c',hm⟩
    obtain ⟨z1,z2⟩:=keep b a1 a2 a3
    exact ⟨⟨cs,e3,by rw [z1];exact q1,q1b,q1c⟩,fun j hj=>by rw [z2];exact q2 j hj,fun hb=>q3 (lvb b hb)⟩
  ·intro b
   have a1:=I.once b
   have a2:=hi.once b
   simp only [List.countP_append] at a1 a2 ⊢
   by_cases h:Y1 OH.flatten b
   ·obtain ⟨b1,b2,b3⟩:=ownH b h
    have:¬ Y1 O' b:=fun ho=>by
     rcases ownO b ho b1 with q | q
     ·exact b2 q
     ·exact b3 q
    have:O'.countP (Xp b)=0:=by
     rcases Nat.eq_zero_or_pos (O'.countP (Xp b)) with q | q
     ·exact q
     ·exact absurd (Ww.2 q) this
    omega
   ·have:OH.flatten.countP (Xp b)=0:=by
     rcases Nat.eq_zero_or_pos (OH.flatten.countP (Xp b)) with q | q
     ·exact q
     ·exact absurd (Ww.2 q) h
    omega
 ·rw [List.append_nil]
  have up:∀ b,(YV w A [b0] [some [.both u0 D.lv,N i,N k]] [[]] O2').T0 b→(YV w A μ (h1++some [ct,N i,N k]::h3) OH O2').T0 b:=by
   intro b hb
   rcases T0s b hb with h | ⟨n,c',h⟩
   ·rw [h];exact .inl live0
   ·exact .inr ⟨n,c',List.mem_append.2 (.inl h)⟩
  refine ⟨S.size,fun b hb ht=>S.kept b hb (fun h=>ht (up b h)),?_,fun b hb=>.inr (.inl (lvb b hb)),S.le,⟨[],by simp [YV]⟩,S.still⟩
  intro b n c' hm
  rcases List.mem_append.1 hm with hm | hm
  ·exact (S.ownT b n c' (by simp [hm])).imp id (up b)
  ·exact .inr (.inr ⟨n,c',List.mem_append.2 (.inr hm)⟩)
end Go.TL
namespace Go.Proofs.YthdkhhebanogbaaGreat
open Go Go.TL
open Go.Proofs.YthdkhhebanogbaaGreat.Ty
set_option linter.unusedSimpArgs false
set_option linter.unusedVariables false
set_option linter.unusedSectionVars false
set_option maxRecDepth 20000
set_option maxHeartbeats 4000000
def AnyW (n:Nat) (l:List Int):Prop:=l.length≤n∧1≤l.length∧∀ x∈l,I64 x
theorem Zf6 {n:Nat} (h:1≤n):AnyW n [0]:=⟨by simpa using h,by simp,by simp [I64]⟩
theorem anyW_one {n m:Nat} {l:List Int} {k:Int} (h:AnyW n l) (hk:I64 k) (hm:n+1≤m):AnyW m (k::l):=⟨by have:=h.1;simp;omega,by simp,by
 intro x hx
 rcases List.mem_cons.1 hx with rfl | hx
 ·exact hk
 ·exact h.2.2 x hx⟩
theorem Zjl {n m:Nat} {l l2:List Int} {k:Int} (h:AnyW n l) (h2:AnyW n l2) (hk:I64 k) (hm:2 * n+1≤m):AnyW m (k::(l++l2)):=⟨by have:=h.1;have:=h2.1;simp;omega,by simp,by
 intro x hx
 rcases List.mem_cons.1 hx with rfl | hx
 ·exact hk
 ·rcases List.mem_append.1 hx with hx | hx
  ·exact h.2.2 x hx
  ·exact h2.2.2 x hx⟩
section
variable (D:Dr) (ok:D.ok)
include ok
theorem Y5 (n:Int) (hn:I64 n):Q0 Tryz.prog D QE [N n] (fun r=>∃ m,r=N m∧0≤m∧m≤4294967295∧(0 < n→m < n)):=by
 refine Q0.of_codeOf Zcy Qz (by simp) ⟨N 0,0,rfl,by omega,by omega,by omega⟩ ?_
 intro h1 h3 ct i k hct hk
 have hb:=Zlv D ok
 simp (disch:=omega) [V6]
 (with_reducible first | refine Qn (fun h5=>?_) (fun h5=>?_) | refine Qm (fun h5=>?_) (fun h5=>?_))
 ·simp only [Qi,Qg,Ql,Qj,Qe,Qc,Bool.not_true,Bool.not_false] at h5
  simp (disch:=omega)
  (first | refine Wb (.inr rfl) rfl ?_ (by simp) ?_ | refine QQ (.inr rfl) rfl ?_ (by simp) ?_)
  ·exact hk
  ·simp<;>omega
 ·simp only [Qi,Qg,Ql,Qj,Qe,Qc,Bool.not_true,Bool.not_false] at h5
  simp (disch:=omega)
  have hz:¬ n=0:=by omega
  have rem:∀ a:Int,0≤a→0≤a.tmod n∧a.tmod n < n∧a.tmod n≤a:=fun a ha=>by
   rw [Int.tmod_eq_emod_of_nonneg ha]
   exact ⟨Int.emod_nonneg _ hz,Int.emod_lt_of_pos _ (by omega),by
    have e:=Int.emod_add_mul_ediv a n
    have:=Int.mul_nonneg (show 0≤n by omega) (Int.ediv_nonneg ha (show 0≤n by omega))
    omega⟩
  (with_reducible first | refine Qn (fun h6=>?_) (fun h6=>?_) | refine Qm (fun h6=>?_) (fun h6=>?_))
  ·simp (disch:=omega)
   refine Qp hb hct hk ?_
   rintro r i1 k1 hk1 ⟨b,rfl,hb0,hb1⟩
   simp (disch:=omega) [Js,hz]
   (first | refine Wb (.inr rfl) rfl ?_ (by simp) ?_ | refine QQ (.inr rfl) rfl ?_ (by simp) ?_)
   ·exact hk1
   ·have:=rem b hb0
    simp;omega
  ·simp (disch:=omega)
   refine Qp hb hct hk ?_
   rintro r i1 k1 hk1 ⟨a,rfl,ha0,ha1⟩
   simp (disch:=omega)
   refine Qp hb hct hk1 ?_
   rintro r i2 k2 hk2 ⟨b,rfl,hb0,hb1⟩
   simp (disch:=omega)
   refine Qp hb hct hk2 ?_
   rintro r i3 k3 hk3 ⟨c,rfl,hc0,hc1⟩
   simp (disch:=omega)
   refine Qp hb hct hk3 ?_
   rintro r i4 k4 hk4 ⟨d,rfl,hd0,hd1⟩
   simp (disch:=omega) [Js,hz,Qd]
   (first | refine Wb (.inr rfl) rfl ?_ (by simp) ?_ | refine QQ (.inr rfl) rfl ?_ (by simp) ?_)
   ·exact hk4
   ·have:=rem (a * 16777216+b * 65536+c * 256+d) (by omega)
    simp;omega
theorem ZrB (s : GSys) (hsI : I64 s.size) (data : Bool) : ∀ deep : Nat, deep ≤ 12 → Q0 Tryz.prog D WB [s.lv, N deep, B data] (fun r => ∃ l, r = OU true false l ∧ AnyW (2 ^ (deep + 1) - 1) l) := by
  intro deep
  induction deep with
  | zero =>
    intro _
    refine Q0.of_codeOf Vm Qz (by simp) ⟨_, [0], rfl, Zf6 (by simp)⟩ ?_
    intro h1 h3 ct i k hct hk
    simp (disch := omega) [J7, Qw, Qs]
    refine Qp (Wn D ok 6 (by unfold I64; omega)) hct hk ?_
    rintro r i1 k1 hk1 ⟨m, rfl, hm0, hm1, _⟩
    repeat' (first
    | (with_reducible (first | refine Qn (fun hb_ => ?_) (fun hb_ => ?_) | refine Qm (fun hb_ => ?_) (fun hb_ => ?_)) <;> simp (disch := omega) [hb_, Qd])
    | simp (disch := omega) [Qd])
    all_goals (first | refine Wb (.inr rfl) rfl ?_ (by simp) ?_ | refine QQ (.inr rfl) rfl ?_ (by simp) ?_)
    all_goals first | exact hk1 | exact ⟨[0], by simp, Zf6 (by simp)⟩
  | succ deep ih =>
    intro hd
    have ih := ih (by omega)
    have hp : 1 ≤ 2 ^ (deep + 1) := Nat.one_le_two_pow
    have hp2 : 2 ^ (deep + 1 + 1) = 2 * 2 ^ (deep + 1) := by rw [Nat.pow_succ]; omega
    have hp3 : 2 ^ (deep + 1) ≤ 2 ^ 13 := Nat.pow_le_pow_right (by omega) (by omega)
    refine Q0.of_codeOf Vm Qz (by simp) ⟨_, [0], rfl, Zf6 (by omega)⟩ ?_
    intro h1 h3 ct i k hct hk
    have glen : ∀ {l : List Int}, AnyW (2 ^ (deep + 1) - 1) l → l.length ≤ 100000 := fun h => by have := h.1; omega
    have num : ∃ l, OU true false [0] = OU true false l ∧ AnyW (2 ^ (deep + 1 + 1) - 1) l := ⟨[0], rfl, Zf6 (by omega)⟩
    simp (disch := omega) [J7, Qw, Qs]
    refine Qp (Wn D ok 6 (by unfold I64; omega)) hct hk ?_
    rintro r i1 k1 hk1 ⟨m, rfl, hm0, hm1, _⟩
    cases data
    all_goals
      repeat' (first
    | (with_reducible (first | refine Qn (fun hb_ => ?_) (fun hb_ => ?_) | refine Qm (fun hb_ => ?_) (fun hb_ => ?_)) <;> simp (disch := omega) [hb_, Qd])
    | simp (disch := omega) [Qd])
      · (first | refine Wb (.inr rfl) rfl ?_ (by simp) ?_ | refine QQ (.inr rfl) rfl ?_ (by simp) ?_)
        · exact hk1
        · exact num
      · (first | refine Wb (.inr rfl) rfl ?_ (by simp) ?_ | refine QQ (.inr rfl) rfl ?_ (by simp) ?_)
        · exact hk1
        · exact num
      · refine Qp ih hct hk1 ?_
        rintro r i2 k2 hk2 ⟨l, rfl, hl⟩
        have ll := glen hl
        repeat' (first
    | (with_reducible (first | refine Qn (fun hb_ => ?_) (fun hb_ => ?_) | refine Qm (fun hb_ => ?_) (fun hb_ => ?_)) <;> simp (disch := omega) [hb_, Qd])
    | simp (disch := omega) [Qd])
        ·
          refine Qp (Y5 D ok s.size hsI) hct hk2 ?_
          rintro r i3 k3 hk3 ⟨g, rfl, hg0, hg1, _⟩
          simp (disch := omega) [Qd]
          refine Qa (Zbq _ _ _ _ ll) (by simp) ?_
          simp (disch := omega) [Qd]
          (first | refine Wb (.inr rfl) rfl ?_ (by simp) ?_ | refine QQ (.inr rfl) rfl ?_ (by simp) ?_)
          · exact hk3
          · exact ⟨(19 + g) :: l, by simp, anyW_one hl (by unfold I64; omega) (by omega)⟩
        all_goals first
          | (refine Qp (Y5 D ok s.size hsI) hct hk2 ?_
             rintro r i3 k3 hk3 ⟨g, rfl, hg0, hg1, _⟩
             simp (disch := omega) [Qd]
             refine Qp ih hct hk3 ?_
             rintro r i4 k4 hk4 ⟨l2, rfl, hl2⟩
             have ll2 := glen hl2
             simp (disch := omega) [Qd]
             refine Qa (XT _ _ _ _ _ _ ll ll2) (by simp) ?_
             simp (disch := omega) [Qd]
             (first | refine Wb (.inr rfl) rfl ?_ (by simp) ?_ | refine QQ (.inr rfl) rfl ?_ (by simp) ?_)
             · exact hk4
             · exact ⟨(3 + g) :: (l ++ l2), by simp, Zjl hl hl2 (by unfold I64; omega) (by omega)⟩)
          | (refine Qp ih hct hk2 ?_
             rintro r i4 k4 hk4 ⟨l2, rfl, hl2⟩
             have ll2 := glen hl2
             simp (disch := omega) [Qd]
             refine Qa (XT _ _ _ _ _ _ ll ll2) (by simp) ?_
             simp (disch := omega) [Qd]
             (first | refine Wb (.inr rfl) rfl ?_ (by simp) ?_ | refine QQ (.inr rfl) rfl ?_ (by simp) ?_)
             · exact hk4
             · first
                 | (refine ⟨2 :: (l ++ l2), ?_, Zjl hl hl2 (by unfold I64; omega) (by omega)⟩; simp; done)
                 | (refine ⟨1 :: (l ++ l2), ?_, Zjl hl hl2 (by unfold I64; omega) (by omega)⟩; simp; done))
theorem ZhL (s:GSys) (hsI:I64 s.size):Ki Tryz.prog D Zh [s.lv] (fun r=>∃ l,r=OU true false l∧Zg6 100 l):=by
 refine Ki.of_codeOf Zeq Qz (by simp) ⟨OU true false [],[],rfl,by simp [Zg6]⟩ ?_
 intro h1 h3 ct i k H1 H3 hct hk
 have hct':=hct.share
 simp (disch:=omega) [VH,Qw,Qs]
 refine Qp (X9 D ok 2 (by unfold I64;omega)) hct' hk ?_
 rintro r i1 k1 hk1 ⟨b,rfl⟩
 simp (disch:=omega)
 have hd:=(ZrB D ok s hsI b 3 (by omega)).hard
 refine WG (hd.thaw (by rintro r ⟨l,rfl,hl⟩;exact Za8 (fun n:Int=>Value.int .i64 n) true false l (.inr ⟨rfl,rfl⟩)) (by simp) H1 H3.none hct hk1) ?_
 rintro y h' ⟨t,i2,k2,bs,hk2,⟨l,rfl,hl⟩,hth,rfl⟩
 obtain ⟨ln,lp,lI⟩:=hl
 rcases (ZnO (fun n:Int=>Value.int .i64 n)).1 hth with ⟨rfl,_,_⟩ | ⟨_,hne,slack,cap,⟨hcap,hsl⟩,rfl,rfl⟩
 ·simp at lp
 clear hth
 simp (disch:=omega)
 refine Qp (Wn D ok 14 (by unfold I64;omega)) hct' hk2 ?_
 rintro r i3 k3 hk3 ⟨m,rfl,_⟩
 simp (disch:=omega)
 (with_reducible first | refine Qn (fun h5=>?_) (fun h5=>?_) | refine Qm (fun h5=>?_) (fun h5=>?_))
 ·simp (disch:=omega)
  refine Qp (Wn D ok l.length (by unfold I64;omega)) hct' hk3 ?_
  rintro r i4 k4 hk4 ⟨m2,rfl,q0,q1,_⟩
  have q2:=q1 (by omega)
  obtain ⟨j,rfl⟩:∃ j:Nat,m2=j:=⟨m2.toNat,by omega⟩
  simp (disch:=omega)
  have pick:=JI D ok false [-1,0,2,18,19,34,35,36,37,1000] (by simp) (by simp)
  refine Qp pick hct' hk4 ?_
  rintro r i5 k5 hk5 ⟨v,rfl,hv⟩
  simp (disch:=omega) [Kn (show j < l.length by omega)]
  refine ⟨by omega,?_⟩
  rw [Zmz (xs:=List.take j (l.map N++List.replicate slack .dead)++N v::List.drop (j+1) (l.map N++List.replicate slack .dead)) (by simp) (by simp;omega) hcap,ZfJ l _ j v (by omega)]
  have hA:Zg6 100 (l.set j v):=by
   refine ⟨by simp;omega,fun x hx=>?_⟩
   rcases List.mem_or_eq_of_mem_set hx with hx | rfl
   ·exact lI x hx
   ·simp at hv;unfold I64;omega
  generalize l.set j v=l' at hA
  simp (disch:=omega)
  (first | refine Wb (.inr rfl) rfl ?_ (by simp) ?_ | refine QQ (.inr rfl) rfl ?_ (by simp) ?_)
  ·exact hk5
  ·exact ⟨l',by simp,hA⟩
 ·simp (disch:=omega)
  (with_reducible first | refine Qn (fun h6=>?_) (fun h6=>?_) | refine Qm (fun h6=>?_) (fun h6=>?_))
  ·simp (disch:=omega) [Qd]
   have hc:∀ P,Yq 1 (.ha P 1 0 l.length cap) none (some ((l.length:Int) - 1)) none=some (.ha P 1 0 (l.length - 1) cap):=fun P=>by
    simp only [Yq,Option.getD_none,Option.getD_some]
    rw [if_pos ⟨trivial,trivial,by omega,by omega,hcap,rfl⟩]
    congr 2;omega
   rw [hc]
   simp (disch:=omega)
   rw [Zmz (xs:=l.map N++List.replicate slack .dead) (by simp) (by simp;omega) (by omega),ZcZ l _ _ (by omega)]
   have hA:Zg6 100 (l.take (l.length - 1)):=⟨by simp;omega,fun x hx=>lI x (List.mem_of_mem_take hx)⟩
   generalize l.take (l.length - 1)=l' at hA
   simp (disch:=omega)
   (first | refine Wb (.inr rfl) rfl ?_ (by simp) ?_ | refine QQ (.inr rfl) rfl ?_ (by simp) ?_)
   ·exact hk3
   ·exact ⟨l',by simp,hA⟩
  ·simp (disch:=omega)
   rw [Zmz (xs:=l.map N++List.replicate slack .dead) (by simp) (by simp;omega) (by omega),ZcZ l _ _ (by omega),List.take_of_length_le (Nat.le_refl _)]
   simp (disch:=omega)
   (with_reducible first | refine Qn (fun h7=>?_) (fun h7=>?_) | refine Qm (fun h7=>?_) (fun h7=>?_))
   ·simp (disch:=omega)
    have ha:WS 1 (OU true false l) (.sl true false 1 [[N 0]])=some (OU true false (l++[0])):=Zfj (l:=l) (r:=[0]) (u:=true) (nl:=false) (by simp;omega)
    rw [ha]
    have hA:Zg6 100 (l++[0]):=⟨by simp;omega,fun x hx=>by
     rcases List.mem_append.1 hx with hx | hx
     ·exact lI x hx
     ·simp at hx;subst hx;unfold I64;omega⟩
    generalize l++[0]=l' at hA
    simp (disch:=omega)
    (first | refine Wb (.inr rfl) rfl ?_ (by simp) ?_ | refine QQ (.inr rfl) rfl ?_ (by simp) ?_)
    ·exact hk3
    ·exact ⟨l',by simp,hA⟩
   ·simp (disch:=omega)
    (with_reducible first | refine Qn (fun h8=>?_) (fun h8=>?_) | refine Qm (fun h8=>?_) (fun h8=>?_))
    ·simp (disch:=omega)
     refine Zgm (fun m t h=>∃ l',t 5=OU true false l'∧Zg6 100 l'∧1≤l'.length∧m+l'.length=100∧h=h1++some [ct,N i3,N k3]::(h3++[none,none])) (fun t h=>∃ l',t 5=OU true false l'∧Zg6 100 l'∧h=h1++some [ct,N i3,N k3]::(h3++[none,none])) (100 - l.length)
      ⟨l,by simp,⟨by omega,lI⟩,lp,by omega,by simp⟩ ?_ ?_
     ·rintro m t1 hh hf ⟨l',e5,hA,hp,hm,rfl⟩
      clear hf
      simp (disch:=omega) [e5]
      (with_reducible first | refine Qn (fun h9=>?_) (fun h9=>?_) | refine Qm (fun h9=>?_) (fun h9=>?_))
      ·simp only [Qi,Qg,Ql,Qj,Qe,Qc,Bool.not_true,Bool.not_false] at h9
       simp (disch:=omega) [e5]
       refine Qa (XT 1 false false false l' l' (by omega) (by omega)) (by simp) ?_
       simp (disch:=omega) [e5]
       refine ⟨m - (l'.length+1),by omega,1::(l'++l'),by simp,⟨by simp;omega,fun x hx=>?_⟩,by simp,by simp;omega⟩
       rcases List.mem_cons.1 hx with rfl | hx
       ·unfold I64;omega
       ·rcases List.mem_append.1 hx with hx | hx<;>exact hA.2 x hx
      ·simp (disch:=omega) [e5]
       exact ⟨l',rfl,hA⟩
     ·rintro t1 hh hf ⟨l',e5,hA,rfl⟩
      clear hf
      simp (disch:=omega) [e5]
      (first | refine Wb (.inr rfl) rfl ?_ (by simp) ?_ | refine QQ (.inr rfl) rfl ?_ (by simp) ?_)
      ·exact hk3
      ·exact ⟨l',by simp,hA⟩
    ·simp (disch:=omega)
     (first | refine Wb (.inr rfl) rfl ?_ (by simp) ?_ | refine QQ (.inr rfl) rfl ?_ (by simp) ?_)
     ·exact hk3
     ·exact ⟨l,by simp,by omega,lI⟩
theorem ZhK (s:GSys) (hsI:I64 s.size):Q0 Tryz.prog D Zh [s.lv] (fun r=>∃ l,r=OU true false l∧Zg6 100 l) :=
 (ZhL D ok s hsI).toF (by simp) (by rintro r ⟨l,rfl,_⟩;simp)
end
mutual
def GTerm.nf:GTerm→GTerm
 | .mk op n _ ty _ ks=>.mk op n false ty ks.isEmpty (nfs ks)
def nfs:List GTerm→List GTerm
 | []=>[]
 | k::ks=>k.nf::nfs ks
end
theorem Zqj:∀ ks:List GTerm,nfs ks=ks.map GTerm.nf
 | []=>by simp [nfs]
 | k::ks=>by simp [nfs,Zqj ks]
@[simp] theorem ZeJ (ks:List GTerm):(nfs ks).length=ks.length:=by simp [Zqj]
theorem nfs_snoc (a:List GTerm) (k:GTerm):nfs (a++[k])=nfs a++[k.nf]:=by simp [Zqj]
def isTW (g:GTerm) (r:LV):Prop:=∃ cs,r=.agg cs∧shareAll cs=g.nf.cells∧WI cs
def isTWz (g:GTerm) (r:LV):Prop:=∃ r',nz r'=nz r∧isTW g r'∧Low 0 r'
theorem Zh5 (l:List Int):Wf (OU true false l):=Za8 (fun n:Int=>Value.int .i64 n) true false l (.inr ⟨rfl,rfl⟩)
theorem Zef:∀ {Qh:List (List LV)} {r:List LV},Wx Qh→WI r→Wx (Qh++[r])
 | [],r,_,h=>by simp only [List.nil_append,Wx];exact ⟨h,trivial⟩
 | a::l,r,h,h2=>by
  simp only [List.cons_append,Wx] at h ⊢
  exact ⟨h.1,Zef h.2 h2⟩
theorem rows_len {Qh:List (List LV)} {ws:List GTerm} (h:Qq Qh=QM ws):∀ r∈Qh,r.length=4:=by
 intro r hr
 rw [Xv,Vz] at h
 have:r.map share∈ws.map GTerm.cells:=by rw [← h];exact List.mem_map.2 ⟨r,hr,rfl⟩
 obtain ⟨w,_,hw⟩:=List.mem_map.1 this
 have e:=congrArg List.length hw
 rw [List.length_map] at e
 rw [← e]
 cases w;rfl
theorem isTWz_mk {op n:Int} {f1 f2:Bool} {ty:List Int} {K:List GTerm} {Qh:List (List LV)} (h:Qq Qh=QM (nfs K)) (lo:We 0 Qh) (hwh:Wx Qh) :
  isTWz (.mk op n f1 ty f2 K) (.agg [N op,N n,OU true false ty,KR Qh]):=by
 refine ⟨.agg [N op,N n,OU true false ty,.sl true Qh.isEmpty 4 Qh],by simp [nz,Y6,KR_nz],⟨_,rfl,?_,?_⟩,by simp [lo]⟩
 ·have e:Qh.isEmpty=K.isEmpty:=by
   have:=congrArg List.isEmpty h
   rw [Vz] at this
   cases Qh<;>cases K<;>simp [Qq,nfs] at this ⊢
  simp only [GTerm.nf,GTerm.cells,shareAll,share,h,e]
  simp
 ·simp only [WI,Wf]
  refine ⟨trivial,trivial,by have:=Zh5 ty;simpa only [Wf] using this,⟨?_,hwh⟩,trivial⟩
  cases Qh with
  | nil=>exact .inl rfl
  | cons a l=>exact .inr ⟨trivial,rfl,rows_len h⟩
theorem Zre (g:GTerm):g.cells.length=4:=by cases g;rfl
mutual
def GTerm.ocells:GTerm→List LV
 | .mk op n _ ty _ ks=>[N op,N n,OU true false ty,.sl true ks.isEmpty 4 (VO ks)]
def VO:List GTerm→List (List LV)
 | []=>[]
 | k::ks=>k.ocells::VO ks
end
mutual
theorem ZoM:∀ g:GTerm,WI g.ocells
 | .mk op n nl1 ty nl2 ks=>by
  simp only [GTerm.ocells,WI,Wf]
  refine ⟨trivial,trivial,by have:=Zh5 ty;simpa only [Wf] using this,⟨?_,ZqE ks⟩,trivial⟩
  cases ks with
  | nil=>exact .inl (by simp [VO])
  | cons a l=>exact .inr ⟨trivial,rfl,ZqU _⟩
theorem ZqE:∀ ks:List GTerm,Wx (VO ks)
 | []=>by simp [VO,Wx]
 | k::ks=>by simp only [VO,Wx];exact ⟨ZoM k,ZqE ks⟩
theorem ZqU:∀ ks:List GTerm,∀ r∈VO ks,r.length=4
 | [],r,h=>by simp [VO] at h
 | k::ks,r,h=>by
  simp only [VO,List.mem_cons] at h
  rcases h with rfl | h
  ·cases k;rfl
  ·exact ZqU ks r h
end
mutual
theorem ZnY:∀ g:GTerm,shareAll g.ocells=g.nf.cells
 | .mk op n nl1 ty nl2 ks=>by simp [GTerm.ocells,GTerm.nf,GTerm.cells,Zqx ks]
theorem Zqx:∀ ks:List GTerm,Qq (VO ks)=QM (nfs ks)
 | []=>by simp [VO,nfs,QM]
 | k::ks=>by simp [VO,nfs,QM,ZnY k,Zqx ks]
end
mutual
theorem Ziw:∀ g:GTerm,QA 0 g.ocells
 | .mk op n nl1 ty nl2 ks=>by simp [GTerm.ocells,Zlq ks]
theorem Zlq:∀ ks:List GTerm,We 0 (VO ks)
 | []=>by simp [VO]
 | k::ks=>by simp [VO,Ziw k,Zlq ks]
end
theorem isTW_ex (g:GTerm):∃ r,isTW g r∧Low 0 r:=⟨.agg g.ocells,⟨_,rfl,ZnY g,ZoM g⟩,by simp [Ziw g]⟩
theorem isTWz_ex (g:GTerm):∃ r,isTWz g r∧Low 0 r:=by
 obtain ⟨r,h,l⟩:=isTW_ex g
 exact ⟨r,⟨r,rfl,h,l⟩,l⟩
theorem Qf.ofTWz {P:Program} {f:FuncId} {args:List LV} {g:GTerm} (c:Qf P f args (isTWz g)):Qf P f args (isTW g):=Qf.nzR c fun r h=>h
theorem Zn1 (bw:Int) (hbw:0≤bw∧bw≤100000) (d:Nat):∀ (g:GTerm) (nv fr:Int),g.size≤d→g.sk nv→0≤nv→nv+2 * g.size≤1000000→0≤fr→fr+2 * g.size≤1000000 →
  Qf Tryz.prog YU [g.lv,N bw,N fr] (isTW (shG bw fr g)):=by
 induction d with
 | zero=>intro g _ _ h;have:=g.size_pos;omega
 | succ d ih =>
  rintro ⟨op,n,nl1,gty,nl2,ks⟩ nv fr hd hform hn0 hnv hd0 hdeep
  simp only [GTerm.sk] at hform
  obtain ⟨⟨hop,hn,hty,hk⟩,hvar,hforms⟩:=hform
  simp only [GTerm.size] at hd hnv hdeep
  have hgl:=hty.1
  simp only [GTerm.lv,GTerm.cells]
  refine Qf.ofTWz (Qf.of_codeOf ZcT Qz (by simp) (isTWz_ex _) ?_)
  have CL:=ZS nl1 gty (by omega)
  have hSl:=Y9 (bw:=bw) (fr:=fr) (op:=op) ks 0
  simp only [VG]
  rw [JF,JF]
  refine Vn (fun t h=>t 3=.rp [N op,N n,L nl1 gty,.sl false nl2 4 (QM ks)]∧t 1=N bw∧t 2=N fr∧t 6=.ptr 1 0∧t 7=.ptr 2 0 ∧
   h=[none,some [N 0,N 0,.sl true true 1 [],.sl true true 1 []],some [N op,N (if op=0∧fr≤n then n+bw else n),OU true false gty,.sl true true 1 []]]) ?_ ?_
  ·simp (disch:=omega) [Qw,Qs]
   refine Qa CL (by simp) ?_
   by_cases h0:op=0
   ·subst h0
    have e0:eqB 0 0=true:=by rw [Qe]
    have hI:I64 (n+bw):=by have:=hvar rfl;unfold I64;omega
    by_cases h1:fr≤n
    ·have e1:leB fr n=true:=by rw [Ql];exact h1
     simp (disch:=omega) [e0,e1,h1,Qd,hI]
    ·have e1:leB fr n=false:=by rw [Qj];omega
     simp (disch:=omega) [e0,e1,h1]
   ·have e0:eqB op 0=false:=by rw [Qc];exact h0
    simp (disch:=omega) [e0,h0]
  ·rintro t1 hh hf1 ⟨a3,a1,a2,a6,a7,rfl⟩
   have eS:shG bw fr (.mk op n nl1 gty nl2 ks)=.mk op (if op=0∧fr≤n then n+bw else n) nl1 gty nl2 (Y0 bw fr op 0 ks):=by simp [shG]
   rw [eS]
   generalize (if op=0∧fr≤n then n+bw else n)=n' at *
   simp (disch:=omega) [a1,a2,a3,a6,a7]
   refine Wy ks.length 0 (fun i t h=>t 8=N i∧∃ Qh tl,h=none::some [N 0,N 0,.sl true true 1 [],.sl true true 1 []]::some [N op,N n',OU true false gty,KR Qh]::tl∧Qq Qh=QM (nfs ((Y0 bw fr op 0 ks).take i))∧We 0 Qh∧Wx Qh)
    (fun t h=>∃ Qh tl,h=none::some [N 0,N 0,.sl true true 1 [],.sl true true 1 []]::some [N op,N n',OU true false gty,KR Qh]::tl∧Qq Qh=QM (nfs (Y0 bw fr op 0 ks))∧We 0 Qh∧Wx Qh) ⟨by simp,[],[],by simp [KR],by simp [QM,Qq,nfs],by simp,by simp [Wx]⟩ (by omega) ?_ ?_
   ·rintro i t2 hh hf2 hi ⟨e8,Qh,tl,rfl,hsh,hlo,hwh⟩
    (have e1:=hf2 1 (by kernel_rfl);have e2:=hf2 2 (by kernel_rfl);have e3:=hf2 3 (by kernel_rfl);have e6:=hf2 6 (by kernel_rfl);have e7:=hf2 7 (by kernel_rfl);clear hf2;simp [a1,a2,a3,a6,a7] at e1 e2 e3 e6 e7)
    by_cases h6:i < ks.length
    ·have hb:ltB (i:Int) ks.length=true:=by rw [Qi];omega
     have hsk:=Yi h6
     have hA:=Xw op i
     have hkf:(ks[i]).sk (nv+Qr op i):=by have:=ZhX.1 hforms i h6;simpa using this
     have recu:=ih ks[i] (nv+Qr op i) (fr+Qr op i) (by omega) hkf (by omega) (by omega) (by omega) (by omega)
     have hix:=Zft ks false nl2 i h6
     have hrl:Qh.length=i:=by rw [← Wq,hsh,Jc,ZeJ,List.length_take];omega
     have hal:=Zfa Qh
     simp (disch:=omega) [e1,e2,e3,e6,e7,e8,hb,hix,hal]
     refine Qa (Zgv op i) (by simp) ?_
     simp (disch:=omega) [e1,e2,e3,e6,e7,e8,Qd]
     refine Qk (Qf.low recu) (by simp) ?_
     rintro r2 ⟨⟨cs,rfl,hcs2,hww⟩,lo2⟩
     obtain ⟨c0,c1,c2,c3,rfl⟩:=len4 (cs:=cs) (by rw [← Q6,hcs2];exact Zre _)
     have ap:=KR_app (Qh:=Qh) (r:=[c0,c1,c2,c3]) (by omega)
     have hfl2:=Zq0 (Qh++[[c0,c1,c2,c3]])
     have hce2:=ZoN (Qh++[[c0,c1,c2,c3]])
     simp (disch:=omega) [e1,e2,e3,e6,e7,e8,Qo,ap,h6,Qd,hfl2,hce2]
     refine ⟨_,rfl,?_,?_,Zef hwh hww⟩
     ·rw [Zk4 h6,nfs_snoc,Zan,← hsh,← hcs2];simp [Xv,Xx]
     ·simp at lo2;simp [hlo,lo2]
    ·have hb:ltB (i:Int) ks.length=false:=by rw [Qg];omega
     have e:=List.take_of_length_le (l:=Y0 bw fr op 0 ks) (i:=i) (by omega)
     rw [e] at hsh
     simp (disch:=omega) [e3,e8,hb]
     exact ⟨Qh,rfl,hsh,hlo,hwh⟩
   ·rintro t2 hh hf2 ⟨Qh,tl,rfl,hsh,hlo,hwh⟩
    (have e6:=hf2 6 (by kernel_rfl);have e7:=hf2 7 (by kernel_rfl);clear hf2;simp [a6,a7] at e6 e7)
    have hal:=Zfa Qh
    simp (disch:=omega) [e6,e7,hal]
    exact ⟨KR_low hlo,isTWz_mk hsh hlo hwh⟩
abbrev Ns (l:List Int):List LV:=l.map fun x=>N x
def TI (n0:Nat) (T:List Box) (nl:Bool) (ty:List Int) (c:LV) (fp:List Nat):Prop :=
 (fp=[]∧∃ u,c=OU u nl ty)∨(nl=false∧∃ l cap sl,fp=[l]∧c=.ha (n0+l) 1 0 ty.length cap∧T[l]?=some (some (Ns ty++List.replicate sl .dead))∧ty.length+sl=cap)
mutual
def TN (n0:Nat) (T:List Box):GTerm→List LV→List Nat→Prop
 | .mk op n nl1 ty nl2 ks,cs,fp=>∃ cT cK f1 f2,cs=[N op,N n,cT,cK]∧fp=f1++f2∧TI n0 T nl1 ty cT f1 ∧
   ((ks=[]∧nl2=true∧f2=[]∧∃ u sz,cK=.sl u true sz []) ∨
    (ks≠[]∧nl2=false∧∃ l cap sl cells f',f2=l::f'∧cK=.ha (n0+l) 4 0 ks.length cap∧T[l]?=some (some (cells++List.replicate sl .dead))∧ks.length * 4+sl=cap * 4∧ks.length≤cap∧TR n0 T ks cells f'))
def TR (n0:Nat) (T:List Box):List GTerm→List LV→List Nat→Prop
 | [],cells,fp=>cells=[]∧fp=[]
 | k::ks,cells,fp=>∃ c1 c2 f1 f2,cells=c1++c2∧fp=f1++f2∧TN n0 T k c1 f1∧TR n0 T ks c2 f2
end
theorem TI.frame {n0:Nat} {T T':List Box} {nl:Bool} {ty:List Int} {c:LV} {fp:List Nat} (h:TI n0 T nl ty c fp) (hf:∀ l∈fp,T'[l]?=T[l]?):TI n0 T' nl ty c fp:=by
 rcases h with h | ⟨h1,l,cap,sl,rfl,h2,h3,h4⟩
 ·exact .inl h
 ·exact .inr ⟨h1,l,cap,sl,rfl,h2,by rw [hf l (by simp)];exact h3,h4⟩
mutual
theorem TN.frame {n0:Nat} {T T':List Box}:∀ {g:GTerm} {cs:List LV} {fp:List Nat},TN n0 T g cs fp→(∀ l∈fp,T'[l]?=T[l]?)→TN n0 T' g cs fp
 | .mk op n nl1 ty nl2 ks,cs,fp,h,hf=>by
  simp only [TN] at h ⊢
  obtain ⟨cT,cK,f1,f2,h1,rfl,h3,h4⟩:=h
  refine ⟨cT,cK,f1,f2,h1,rfl,h3.frame fun l hl=>hf l (by simp [hl]),?_⟩
  rcases h4 with h4 | ⟨h5,h6,l,cap,sl,cells,f',rfl,h7,h8,h9,h10,h11⟩
  ·exact .inl h4
  ·exact .inr ⟨h5,h6,l,cap,sl,cells,f',rfl,h7,by rw [hf l (by simp)];exact h8,h9,h10,TR.frame h11 fun l hl=>hf l (by simp [hl])⟩
theorem TR.frame {n0:Nat} {T T':List Box}:∀ {ks:List GTerm} {cells:List LV} {fp:List Nat},TR n0 T ks cells fp→(∀ l∈fp,T'[l]?=T[l]?)→TR n0 T' ks cells fp
 | [],_,_,h,_=>by simpa only [TR] using h
 | k::ks,cells,fp,h,hf=>by
  simp only [TR] at h ⊢
  obtain ⟨c1,c2,f1,f2,h1,rfl,h3,h4⟩:=h
  exact ⟨c1,c2,f1,f2,h1,rfl,h3.frame fun l hl=>hf l (by simp [hl]),h4.frame fun l hl=>hf l (by simp [hl])⟩
end
theorem TN.len {n0:Nat} {T:List Box} {g:GTerm} {cs:List LV} {fp:List Nat} (h:TN n0 T g cs fp):cs.length=4:=by
 cases g
 simp only [TN] at h
 obtain ⟨cT,cK,f1,f2,h1,_⟩:=h
 rw [h1];rfl
theorem TR.len {n0:Nat} {T:List Box}:∀ {ks:List GTerm} {cells:List LV} {fp:List Nat},TR n0 T ks cells fp→cells.length=ks.length * 4
 | [],_,_,h=>by simp only [TR] at h;simp [h.1]
 | k::ks,cells,fp,h=>by
  simp only [TR] at h
  obtain ⟨c1,c2,f1,f2,rfl,rfl,h3,h4⟩:=h
  simp only [List.length_append,List.length_cons,h3.len,h4.len];omega
theorem TI.al {n0:Nat} {T:List Box} {nl:Bool} {ty:List Int} {c:LV} {fp:List Nat} (h:TI n0 T nl ty c fp):c.alive=true:=by
 rcases h with ⟨_,u,rfl⟩ | ⟨h1,l,cap,sl,rfl,rfl,h3,h4⟩<;>rfl
theorem TI.sh {n0:Nat} {T:List Box} {nl:Bool} {ty:List Int} {c:LV} {fp:List Nat} (h:TI n0 T nl ty c fp):TI n0 T nl ty (share c) fp:=by
 rcases h with ⟨h,u,rfl⟩ | ⟨h1,l,cap,sl,h0,rfl,h3,h4⟩
 ·exact .inl ⟨h,false,by simp⟩
 ·exact .inr ⟨h1,l,cap,sl,h0,by simp,h3,h4⟩
theorem TN.al {n0:Nat} {T:List Box} {g:GTerm} {cs:List LV} {fp:List Nat} (h:TN n0 T g cs fp):Wh cs=true:=by
 cases g
 simp only [TN] at h
 obtain ⟨cT,cK,f1,f2,h1,_,h3,h4⟩:=h
 have hK:cK.alive=true:=by
  rcases h4 with ⟨_,_,_,u,sz,rfl⟩ | ⟨_,_,l,cap,sl,cells,f',_,rfl,_⟩<;>rfl
 rw [h1]
 simp [Wh,h3.al,hK,LV.alive]
theorem TN.sh {n0:Nat} {T:List Box} {g:GTerm} {cs:List LV} {fp:List Nat} (h:TN n0 T g cs fp):TN n0 T g (shareAll cs) fp:=by
 cases g
 simp only [TN] at h ⊢
 obtain ⟨cT,cK,f1,f2,rfl,h2,h3,h4⟩:=h
 refine ⟨share cT,share cK,f1,f2,by simp,h2,h3.sh,?_⟩
 rcases h4 with ⟨h5,h6,h7,u,sz,rfl⟩ | ⟨h5,h6,l,cap,sl,cells,f',rfl,rfl,h8⟩
 ·exact .inl ⟨h5,h6,h7,false,sz,by simp⟩
 ·exact .inr ⟨h5,h6,l,cap,sl,cells,f',rfl,by simp,h8⟩
theorem TI.lt {n0:Nat} {T:List Box} {nl:Bool} {ty:List Int} {c:LV} {fp:List Nat} (h:TI n0 T nl ty c fp):∀ l∈fp,l < T.length:=by
 rcases h with ⟨rfl,_⟩ | ⟨h1,l,cap,sl,rfl,rfl,h3,h4⟩
 ·simp
 ·intro k hk
  simp at hk;subst hk
  exact (List.getElem?_eq_some_iff.1 h3).1
mutual
theorem TN.lt {n0:Nat} {T:List Box}:∀ {g:GTerm} {cs:List LV} {fp:List Nat},TN n0 T g cs fp→∀ l∈fp,l < T.length
 | .mk op n nl1 ty nl2 ks,cs,fp,h=>by
  simp only [TN] at h
  obtain ⟨cT,cK,f1,f2,h1,rfl,h3,h4⟩:=h
  intro l hl
  rcases List.mem_append.1 hl with hl | hl
  ·exact h3.lt l hl
  ·rcases h4 with ⟨_,_,rfl,_⟩ | ⟨h5,h6,l',cap,sl,cells,f',rfl,h7,h8,h9,h10,h11⟩
   ·simp at hl
   ·rcases List.mem_cons.1 hl with rfl | hl
    ·exact (List.getElem?_eq_some_iff.1 h8).1
    ·exact TR.lt h11 l hl
theorem TR.lt {n0:Nat} {T:List Box}:∀ {ks:List GTerm} {cells:List LV} {fp:List Nat},TR n0 T ks cells fp→∀ l∈fp,l < T.length
 | [],_,_,h=>by simp only [TR] at h;rw [h.2];simp
 | k::ks,cells,fp,h=>by
  simp only [TR] at h
  obtain ⟨c1,c2,f1,f2,h1,rfl,h3,h4⟩:=h
  intro l hl
  rcases List.mem_append.1 hl with hl | hl
  ·exact TN.lt h3 l hl
  ·exact TR.lt h4 l hl
end
theorem Zqe:∀ (x y:LV) (v:Int) (n:Nat) (bs:List Box),share x=N v→Th x n y bs→y=N v∧bs=[]:=by
 intro x y v n bs hs ht
 cases x<;>simp only [share] at hs<;>simp only [Th] at ht<;>(try (simp at hs;done))
 obtain ⟨rfl,rfl⟩:=ht
 exact ⟨hs,rfl⟩
theorem Zqz:∀ (l:List Int) (Qh:List (List LV)) (n:Nat) (cells:List LV) (bs:List Box),Qq Qh=(l.map fun x=>[N x])→KO Qh 1 n cells bs→cells=Ns l∧bs=[]
 | [],Qh,n,cells,bs,hs,ht=>by
  cases Qh with
  | nil=>simpa only [KO,List.map_nil] using ht
  | cons r rs=>simp [Qq] at hs
 | x::l,Qh,n,cells,bs,hs,ht=>by
  cases Qh with
  | nil=>simp [Qq] at hs
  | cons r rs =>
   simp only [Qq,List.map_cons,List.cons.injEq] at hs
   simp only [KO] at ht
   obtain ⟨c1,b1,c2,b2,h1,h2,h3,rfl,rfl⟩:=ht
   match r,h1 with
   | [a],_ =>
    simp only [shareAll,List.cons.injEq,and_true] at hs
    simp only [Jl] at h2
    obtain ⟨y,b1',ys',b2',g1,⟨rfl,rfl⟩,rfl,rfl⟩:=h2
    obtain ⟨rfl,rfl⟩:=Zqe a y x n b1' hs.1 g1
    obtain ⟨rfl,rfl⟩:=Zqz l rs _ c2 b2 hs.2 h3
    simp
theorem sl_of {x:LV} {nl:Bool} {sz:Nat} {R:List (List LV)} {n:Nat} {y:LV} {bs:List Box} (hs:share x=.sl false nl sz R) (ht:Th x n y bs):∃ u Qh,x=.sl u nl sz Qh∧Qq Qh=R:=by
 cases x<;>simp only [share] at hs<;>simp only [Th] at ht<;>(try (simp at hs;done))
 rename_i u nl' sz' Qh
 simp only [LV.sl.injEq,true_and] at hs
 obtain ⟨rfl,rfl,h⟩:=hs
 exact ⟨u,Qh,rfl,h⟩
theorem th_TI {n0 n:Nat} {T bs:List Box} {x y:LV} {ty:List Int} (hs:share x=L false ty) (ht:Th x (n0+n) y bs) (hb:∀ i b,bs[i]?=some b→T[n+i]?=some b) :
  ∃ fp,TI n0 T false ty y fp∧fp.Nodup∧∀ l∈fp,n≤l∧l < n+bs.length:=by
 obtain ⟨u,Qh,rfl,hr⟩:=sl_of hs ht
 have hlen:Qh.length=ty.length:=by rw [← Wq,hr];simp
 simp only [Th] at ht
 rcases ht with ⟨rfl,rfl,rfl⟩ | ⟨_,hne,cells,bs',slack,cap,h1,⟨h2,h3⟩,rfl,rfl⟩
 ·simp at hlen
  have:ty=[]:=List.eq_nil_of_length_eq_zero hlen.symm
  subst this
  exact ⟨[],.inl ⟨rfl,false,by simp⟩,by simp,by simp⟩
 ·obtain ⟨rfl,rfl⟩:=Zqz ty Qh _ cells bs' hr h1
  refine ⟨[n],.inr ⟨rfl,n,cap,slack,rfl,by simp [hlen],?_,by omega⟩,by simp,by simp⟩
  have:=hb 0 _ (by simp;rfl)
  simpa using this
theorem ZdB {α:Type} {b1 b2:List α} {i:Nat} {b:α} (h:b1[i]?=some b):(b1++b2)[i]?=some b:=by
 rw [List.getElem?_append_left (List.getElem?_eq_some_iff.1 h).1];exact h
theorem Zln {f1 f2:List Nat} {n m k:Nat} (h1:f1.Nodup) (h2:f2.Nodup) (b1:∀ l∈f1,n≤l∧l < m) (b2:∀ l∈f2,m≤l∧l < k):(f1++f2).Nodup:=by
 rw [List.nodup_append]
 refine ⟨h1,h2,fun a ha b hb e=>?_⟩
 have:=b1 a ha
 have:=b2 b hb
 omega
mutual
theorem th_TN {n0:Nat} {T:List Box}:∀ (g:GTerm) (n:Nat) (xs cs:List LV) (bs:List Box),shareAll xs=g.nf.cells→Jl xs (n0+n) cs bs→(∀ i b,bs[i]?=some b→T[n+i]?=some b) →
  ∃ fp,TN n0 T g.nf cs fp∧fp.Nodup∧∀ l∈fp,n≤l∧l < n+bs.length
 | .mk op m nl1 ty nl2 ks,n,xs,cs,bs,hs,ht,hb=>by
  have h4:xs.length=4:=by rw [← Q6,hs];simp
  match xs,h4 with
  | [a,b,c,d],_ =>
   simp only [shareAll,GTerm.nf,GTerm.cells,List.cons.injEq,and_true] at hs
   obtain ⟨s1,s2,s3,s4⟩:=hs
   simp only [Jl] at ht
   obtain ⟨y1,b1,_,_,t1,⟨y2,b2,_,_,t2,⟨y3,b3,_,_,t3,⟨y4,b4,_,_,t4,⟨rfl,rfl⟩,rfl,rfl⟩,rfl,rfl⟩,rfl,rfl⟩,rfl,rfl⟩:=ht
   obtain ⟨rfl,rfl⟩:=Zqe _ _ _ _ _ s1 t1
   obtain ⟨rfl,rfl⟩:=Zqe _ _ _ _ _ s2 t2
   simp only [List.length_nil,Nat.add_zero,List.nil_append,List.append_nil] at t3 t4 hb ⊢
   obtain ⟨f1,g1,g2,g3⟩:=th_TI (n0:=n0) (n:=n) (T:=T) s3 t3 (fun i b hi=>hb i b (ZdB hi))
   obtain ⟨u,Qh,rfl,hr⟩:=sl_of s4 t4
   simp only [Th] at t4
   have hl:Qh.length=ks.length:=by rw [← Wq,hr];simp
   rcases t4 with ⟨rfl,rfl,rfl⟩ | ⟨hz,hne,cells,bs',slack,cap,k1,⟨k2,k3⟩,rfl,rfl⟩
   ·simp at hl
    have:ks=[]:=List.eq_nil_of_length_eq_zero hl.symm
    subst this
    refine ⟨f1,?_,g2,fun l hl=>by have:=g3 l hl;simp;omega⟩
    simp only [GTerm.nf,TN,nfs]
    exact ⟨_,_,f1,[],rfl,by simp,g1,.inl (by simp)⟩
   ·obtain ⟨f2,q1,q2,q3⟩:=th_TR ks (n+b3.length) Qh cells bs' hr (by rw [← Nat.add_assoc];exact k1) (fun i b hi=>by
     rw [Nat.add_assoc]
     refine hb _ b ?_
     rw [List.getElem?_append_right (by omega),show b3.length+i - b3.length=i by omega]
     exact ZdB hi)
    have hbox:T[n+(b3.length+bs'.length)]?=some (some (cells++List.replicate slack .dead)):=hb _ _ (by
     rw [List.getElem?_append_right (by omega),show b3.length+bs'.length - b3.length=bs'.length by omega];simp)
    refine ⟨f1++((n+(b3.length+bs'.length))::f2),?_,?_,?_⟩
    ·simp only [GTerm.nf,TN,ZeJ]
     refine ⟨_,_,f1,_,rfl,rfl,g1,.inr ⟨?_,hz,n+(b3.length+bs'.length),cap,slack,cells,f2,rfl,?_,hbox,by omega,by omega,q1⟩⟩
     ·intro e
      have:=congrArg List.length e
      simp at this
      rw [this] at hl
      exact hne (List.eq_nil_of_length_eq_zero (by simpa using hl))
     ·simp [hl];omega
    ·refine Zln (n:=n) (m:=n+b3.length) (k:=n+(b3.length+bs'.length)+1) g2 ?_ g3 ?_
     ·rw [List.nodup_cons]
      refine ⟨fun h=>?_,q2⟩
      have:=q3 _ h
      omega
     ·intro l hl
      rcases List.mem_cons.1 hl with rfl | hl
      ·omega
      ·have:=q3 l hl;omega
    ·intro l hl
     simp only [List.length_append,List.length_cons,List.length_nil]
     rcases List.mem_append.1 hl with hl | hl
     ·have:=g3 l hl;omega
     ·rcases List.mem_cons.1 hl with rfl | hl
      ·omega
      ·have:=q3 l hl;omega
theorem th_TR {n0:Nat} {T:List Box}:∀ (ks:List GTerm) (n:Nat) (Qh:List (List LV)) (cells:List LV) (bs:List Box),Qq Qh=QM (nfs ks)→KO Qh 4 (n0+n) cells bs→(∀ i b,bs[i]?=some b→T[n+i]?=some b) →
  ∃ fp,TR n0 T (nfs ks) cells fp∧fp.Nodup∧∀ l∈fp,n≤l∧l < n+bs.length
 | [],n,Qh,cells,bs,hs,ht,hb=>by
  cases Qh with
  | nil =>
   simp only [KO] at ht
   obtain ⟨rfl,rfl⟩:=ht
   exact ⟨[],by simp [nfs,TR],by simp,by simp⟩
  | cons r rs=>simp [Qq,nfs,QM] at hs
 | k::ks,n,Qh,cells,bs,hs,ht,hb=>by
  cases Qh with
  | nil=>simp [Qq,nfs,QM] at hs
  | cons r rs =>
   simp only [Qq,nfs,QM,List.cons.injEq] at hs
   simp only [KO] at ht
   obtain ⟨c1,b1,c2,b2,h1,h2,h3,rfl,rfl⟩:=ht
   obtain ⟨f1,g1,g2,g3⟩:=th_TN (T:=T) k n r c1 b1 hs.1 h2 (fun i b hi=>hb i b (ZdB hi))
   obtain ⟨f2,q1,q2,q3⟩:=th_TR (T:=T) ks (n+b1.length) rs c2 b2 hs.2 (by rw [← Nat.add_assoc];exact h3) (fun i b hi=>by
    rw [Nat.add_assoc]
    refine hb _ b ?_
    rw [List.getElem?_append_right (by omega),show b1.length+i - b1.length=i by omega];exact hi)
   refine ⟨f1++f2,?_,Zln g2 q2 g3 q3,fun l hl=>?_⟩
   ·simp only [nfs,TR]
    exact ⟨c1,c2,f1,f2,rfl,rfl,g1,q1⟩
   ·simp only [List.length_append]
    rcases List.mem_append.1 hl with hl | hl
    ·have:=g3 l hl;omega
    ·have:=q3 l hl;omega
end
theorem TR.split {n0:Nat} {T:List Box}:∀ {ks:List GTerm} {cells:List LV} {fp:List Nat},TR n0 T ks cells fp→∀ (i:Nat) (hi:i < ks.length),
  ∃ Ca ci Cb Fa fi Fb,cells=Ca++ci++Cb∧fp=Fa++fi++Fb∧Ca.length=i * 4∧TN n0 T ks[i] ci fi ∧
   ∀ T' g' ci' fi',TN n0 T' g' ci' fi'→(∀ l∈Fa++Fb,T'[l]?=T[l]?)→TR n0 T' (ks.set i g') (Ca++ci'++Cb) (Fa++fi'++Fb)
 | [],_,_,_,i,hi=>by simp at hi
 | k::ks,cells,fp,h,0,hi=>by
  simp only [TR] at h
  obtain ⟨c1,c2,f1,f2,rfl,rfl,h3,h4⟩:=h
  refine ⟨[],c1,c2,[],f1,f2,by simp,by simp,by simp,h3,fun T' g' ci' fi' ht hf=>?_⟩
  simp only [List.set_cons_zero,TR,List.nil_append]
  exact ⟨ci',c2,fi',f2,rfl,rfl,ht,h4.frame fun l hl=>hf l (by simp [hl])⟩
 | k::ks,cells,fp,h,i+1,hi=>by
  simp only [TR] at h
  obtain ⟨c1,c2,f1,f2,rfl,rfl,h3,h4⟩:=h
  obtain ⟨Ca,ci,Cb,Fa,fi,Fb,rfl,rfl,e3,e4,e5⟩:=h4.split i (by simpa using hi)
  refine ⟨c1++Ca,ci,Cb,f1++Fa,fi,Fb,by simp,by simp,by rw [List.length_append,h3.len,e3];omega,by simpa using e4,fun T' g' ci' fi' ht hf=>?_⟩
  simp only [List.set_cons_succ,TR]
  refine ⟨c1,Ca++ci'++Cb,f1,Fa++fi'++Fb,by simp,by simp,h3.frame fun l hl=>hf l (by simp [hl]),e5 T' g' ci' fi' ht fun l hl=>hf l ?_⟩
  simp only [List.mem_append] at hl ⊢
  rcases hl with hl | hl<;>simp [hl]
theorem Zk5:∀ (ks:List GTerm) (i:Nat) (hi:i < ks.length) (g':GTerm),WV (ks.set i g')+ks[i].size=WV ks+g'.size
 | [],i,hi,_=>by simp at hi
 | k::ks,0,hi,g'=>by simp [WV];omega
 | k::ks,i+1,hi,g'=>by
  have:=Zk5 ks i (by simpa using hi) g'
  simp only [List.set_cons_succ,WV,List.getElem_cons_succ];omega
theorem Zq5:∀ (ks:List GTerm) (i:Nat) (g':GTerm),wfs ks→g'.wf→wfs (ks.set i g')
 | [],i,_,_,_=>by simp [wfs]
 | k::ks,0,g',h,h'=>by simp only [wfs,List.set_cons_zero] at h ⊢;exact ⟨h',h.2⟩
 | k::ks,i+1,g',h,h'=>by simp only [wfs,List.set_cons_succ] at h ⊢;exact ⟨h.1,Zq5 ks i g' h.2 h'⟩
theorem ZqC:∀ (ks:List GTerm) (i:Nat) (g':GTerm),fls ks→g'.fl→fls (ks.set i g')
 | [],i,_,_,_=>by simp [fls]
 | k::ks,0,g',h,h'=>by simp only [fls,List.set_cons_zero] at h ⊢;exact ⟨h',h.2⟩
 | k::ks,i+1,g',h,h'=>by simp only [fls,List.set_cons_succ] at h ⊢;exact ⟨h.1,ZqC ks i g' h.2 h'⟩
theorem wfs_at:∀ (ks:List GTerm) (i:Nat) (hi:i < ks.length),wfs ks→(ks[i]).wf
 | [],i,hi,_=>by simp at hi
 | k::ks,0,_,h=>by simp only [wfs] at h;exact h.1
 | k::ks,i+1,hi,h=>by simp only [wfs] at h;exact wfs_at ks i (by simpa using hi) h.2
def Hole (n0:Nat) (T:List Box) (r R l:Nat) (A B:List LV) (fp:List Nat) (sz:Nat):Prop :=
 ∀ (T':List Box) (g':GTerm) (cs':List LV) (fp':List Nat),T.length≤T'.length→T'[l]?=some (some (A++cs'++B))→(∀ k,k < T.length→k≠l→k ∉ fp→T'[k]?=T[k]?) →
  TN n0 T' g' cs' fp'→fp'.Nodup→l ∉ fp'→(∀ k∈fp',k∈fp∨T.length≤k)→g'.wf→g'.fl →
  ∃ gr crs fpr,T'[r]?=some (some crs)∧TN n0 T' gr crs fpr∧fpr.Nodup∧r ∉ fpr∧gr.wf∧gr.fl∧gr.size+sz=R+g'.size
theorem Hole.root {n0:Nat} {T:List Box} {r:Nat} {fp:List Nat} {sz:Nat}:Hole n0 T r sz r [] [] fp sz:=by
 intro T' g' cs' fp' h1 h2 h3 h4 h5 h6 h7 h8 h9
 exact ⟨g',cs',fp',by simpa using h2,h4,h5,h6,h8,h9,by omega⟩
theorem Hole.down {n0:Nat} {T:List Box} {r R l:Nat} {A B:List LV} {f1 f':List Nat} {lk cap sl:Nat} {op n:Int} {nl1:Bool} {ty:List Int} {ks:List GTerm} {cT:LV} {cells:List LV}
  (Hl:Hole n0 T r R l A B (f1++lk::f') (GTerm.mk op n nl1 ty false ks).size) (hl:T[l]?=some (some (A++[N op,N n,cT,.ha (n0+lk) 4 0 ks.length cap]++B))) (hT:TI n0 T nl1 ty cT f1)
  (hk:T[lk]?=some (some (cells++List.replicate sl .dead))) (hsl:ks.length * 4+sl=cap * 4) (hcap:ks.length≤cap) (hR:TR n0 T ks cells f') (nd:(f1++lk::f').Nodup) (hlf:l ∉ f1++lk::f')
  (wf:(GTerm.mk op n nl1 ty false ks).wf) (fl:(GTerm.mk op n nl1 ty false ks).fl) (i:Nat) (hi:i < ks.length) :
  ∃ A' ci B' fi,cells++List.replicate sl .dead=A'++ci++B'∧A'.length=i * 4∧TN n0 T ks[i] ci fi∧fi.Nodup∧lk ∉ fi∧Hole n0 T r R lk A' B' fi ks[i].size:=by
 obtain ⟨Ca,ci,Cb,Fa,fi,Fb,rfl,rfl,e3,e4,e5⟩:=hR.split i hi
 have nd':=nd
 rw [List.nodup_append,List.nodup_cons] at nd'
 obtain ⟨d1,⟨d2,d3⟩,d4⟩:=nd'
 rw [List.append_assoc,List.nodup_append] at d3
 obtain ⟨d5,d6,d7⟩:=d3
 rw [List.nodup_append] at d6
 obtain ⟨d8,d9,d10⟩:=d6
 simp only [List.mem_append,List.mem_cons,not_or] at d2 hlf
 have hll:l < T.length:=(List.getElem?_eq_some_iff.1 hl).1
 have hlk:lk < T.length:=(List.getElem?_eq_some_iff.1 hk).1
 refine ⟨Ca,ci,Cb++List.replicate sl .dead,fi,by simp,e3,e4,d8,d2.1.2,?_⟩
 intro T' g' ci' fi' hlen h2 h3 h4 h5 h6 h7 h8 h9
 have lt1:=hT.lt
 have ltR:=hR.lt
 have ltfi:=e4.lt
 have new:∀ k,k < T.length→k ∉ fi→k ∉ fi':=fun k hk hn h=>by
  rcases h7 k h with h | h
  ·exact hn h
  ·omega
 simp only [GTerm.wf] at wf
 simp only [GTerm.fl] at fl
 have key:=Hl T' (.mk op n nl1 ty false (ks.set i g')) [N op,N n,cT,.ha (n0+lk) 4 0 ks.length cap] (f1++lk::(Fa++fi'++Fb)) hlen
  (by rw [h3 l hll hlf.2.1 hlf.2.2.1.2];exact hl)
  (fun k hk' hkl hkn=>by
   simp only [List.mem_append,List.mem_cons,not_or] at hkn
   exact h3 k hk' hkn.2.1 hkn.2.2.1.2)
  ?_ ?_ ?_ ?_ ?_ ?_
 ·obtain ⟨gr,crs,fpr,k1,k2,k3,k4,k5,k6,k7⟩:=key
  refine ⟨gr,crs,fpr,k1,k2,k3,k4,k5,k6,?_⟩
  have:=Zk5 ks i hi g'
  simp only [GTerm.size] at k7
  omega
 ·simp only [TN]
  refine ⟨cT,_,f1,_,rfl,rfl,hT.frame fun x hx=>h3 x (lt1 x hx) (fun e=>d4 x hx lk (by simp) e) (fun h=>d4 x hx x (by simp [h]) rfl),.inr ⟨?_,trivial,lk,cap,sl,Ca++ci'++Cb,_,rfl,by simp,by rw [h2];simp,by simpa using hsl,by simpa using hcap,e5 T' g' ci' fi' h4 fun x hx=>?_⟩⟩
  ·intro e
   have:=congrArg List.length e
   simp at this
   subst this
   simp at hi
  ·have hx':x∈Fa++fi++Fb:=by simp only [List.mem_append] at hx ⊢;rcases hx with hx | hx<;>simp [hx]
   refine h3 x (ltR x hx') (fun e=>?_) (fun h=>?_)
   ·subst e
    simp only [List.mem_append] at hx
    rcases hx with hx | hx
    ·exact d2.1.1 hx
    ·exact d2.2 hx
   ·rcases List.mem_append.1 hx with hx | hx
    ·exact d7 x hx x (by simp [h]) rfl
    ·exact d10 x h x hx rfl
 ·rw [List.nodup_append,List.nodup_cons,List.append_assoc,List.nodup_append,List.nodup_append]
  have ltFa:∀ x∈Fa,x < T.length:=fun x hx=>ltR x (by simp [hx])
  have ltFb:∀ x∈Fb,x < T.length:=fun x hx=>ltR x (by simp [hx])
  refine ⟨d1,⟨?_,d5,⟨h5,d9,fun a ha b hb e=>?_⟩,fun a ha b hb e=>?_⟩,fun a ha b hb e=>?_⟩
  ·simp only [List.mem_append,not_or]
   exact ⟨d2.1.1,h6,d2.2⟩
  ·subst e
   rcases h7 a ha with h | h
   ·exact d10 a h a hb rfl
   ·have:=ltFb a hb;omega
  ·subst e
   rcases List.mem_append.1 hb with hb | hb
   ·rcases h7 a hb with h | h
    ·exact d7 a ha a (by simp [h]) rfl
    ·have:=ltFa a ha;omega
   ·exact d7 a ha a (by simp [hb]) rfl
  ·subst e
   simp only [List.mem_cons,List.mem_append] at hb
   rcases hb with rfl | hb | hb | hb
   ·exact d4 a ha a (by simp) rfl
   ·exact d4 a ha a (by simp [hb]) rfl
   ·rcases h7 a hb with h | h
    ·exact d4 a ha a (by simp [h]) rfl
    ·have:=lt1 a ha;omega
   ·exact d4 a ha a (by simp [hb]) rfl
 ·simp only [List.mem_append,List.mem_cons,not_or]
  exact ⟨hlf.1,hlf.2.1,⟨hlf.2.2.1.1,new l hll hlf.2.2.1.2⟩,hlf.2.2.2⟩
 ·intro k hk'
  simp only [List.mem_append,List.mem_cons] at hk' ⊢
  rcases hk' with hk' | hk' | (hk' | hk') | hk'
  ·exact .inl (.inl hk')
  ·exact .inl (.inr (.inl hk'))
  ·exact .inl (.inr (.inr (.inl (.inl hk'))))
  ·rcases h7 k hk' with h | h
   ·exact .inl (.inr (.inr (.inl (.inr h))))
   ·exact .inr h
  ·exact .inl (.inr (.inr (.inr hk')))
 ·simp only [GTerm.wf]
  exact ⟨wf.1,wf.2.1,wf.2.2.1,by simpa using wf.2.2.2.1,Zq5 ks i g' wf.2.2.2.2 h8⟩
 ·simp only [GTerm.fl]
  exact ⟨fl.1,ZqC ks i g' fl.2 h9⟩
theorem ZoD (h:List Box):∀ l:List Int,JC (l.map fun x=>[N x]) 1 (Ns l) h h
 | []=>by simp [JC]
 | x::l=>by
  simp only [List.map_cons,JC]
  refine ⟨[N x],Ns l,h,by simp,rfl,?_,ZoD h l⟩
  simp only [YI,Fz]
  exact ⟨N x,[],h,rfl,⟨rfl,rfl⟩,rfl,rfl⟩
theorem TI.fz {n0:Nat} {T:List Box} {nl:Bool} {ty:List Int} {c:LV} {fp:List Nat} (t:TI n0 T nl ty c fp) {h:List Box} (hh:∀ l∈fp,h[n0+l]?=T[l]?) :
  ∃ u h1,Fz (OU u nl ty) c h h1∧h1.length=h.length∧∀ k,(∀ l∈fp,k≠n0+l)→h1[k]?=h[k]?:=by
 rcases t with ⟨rfl,u,rfl⟩ | ⟨rfl,l,cap,sl,rfl,rfl,h3,h4⟩
 ·exact ⟨u,h,by simp only [Fz];exact .inl (by simp),rfl,fun _ _=>rfl⟩
 ·refine ⟨true,h.set (n0+l) none,?_,by simp,fun k hk=>?_⟩
  ·simp only [Fz]
   refine .inr ⟨trivial,trivial,n0+l,cap,Ns ty,List.replicate sl .dead,by simp,by rw [hh l (by simp)];exact h3,by simp;omega,by simp;omega,ZoD _ ty⟩
  ·have:=hk l (by simp)
   rw [List.getElem?_set_ne (fun e=>this e.symm)]
mutual
theorem TN.fz {n0:Nat} {T:List Box}:∀ {g:GTerm} {cs:List LV} {fp:List Nat},TN n0 T g cs fp→fp.Nodup→∀ {h:List Box},(∀ l∈fp,h[n0+l]?=T[l]?) →
  ∃ os h1,YI os cs h h1∧h1.length=h.length∧(∀ k,(∀ l∈fp,k≠n0+l)→h1[k]?=h[k]?)∧QA 0 os∧∃ os',Y6 os'=Y6 os∧shareAll os'=g.cells∧QA 0 os'∧Wh os'=true∧os'.length=4
 | .mk op n nl1 ty nl2 ks,cs,fp,t,nd,h,hh=>by
  simp only [TN] at t
  obtain ⟨cT,cK,f1,f2,rfl,rfl,h3,h4⟩:=t
  rw [List.nodup_append] at nd
  obtain ⟨d1,d2,d3⟩:=nd
  obtain ⟨u,h1,z1,z2,z3⟩:=h3.fz (h:=h) (fun l hl=>hh l (by simp [hl]))
  have hh2:∀ l∈f2,h1[n0+l]?=T[l]?:=fun l hl=>by
   rw [z3 (n0+l) (fun k hk e=>d3 k hk l hl (by omega))];exact hh l (by simp [hl])
  rcases h4 with ⟨rfl,rfl,rfl,u2,sz,rfl⟩ | ⟨hne,rfl,l,cap,sl,cells,f',rfl,rfl,h8,h9,h10,h11⟩
  ·refine ⟨[N op,N n,OU u nl1 ty,.sl u2 true sz []],h1,?_,z2,fun k hk=>z3 k (fun l hl=>hk l (by simp [hl])),by simp,[N op,N n,OU u nl1 ty,.sl u2 true 4 []],by simp [Y6,nz],by simp [GTerm.cells,QM],by simp,rfl,rfl⟩
   simp only [YI]
   exact ⟨_,_,h,rfl,by simp [Fz],_,_,h,rfl,by simp [Fz],_,_,h1,rfl,z1,_,_,h1,rfl,by simp [Fz],rfl,rfl⟩
  ·rw [List.nodup_cons] at d2
   obtain ⟨Qh,h5,y1,y2,y3,y4,rows',y5,y6,y7,y8⟩:=TR.fz h11 d2.2 (h:=h1.set (n0+l) none) (fun k hk=>by
    rw [List.getElem?_set_ne (fun e=>d2.1 (by rw [show l=k by omega];exact hk))]
    exact hh2 k (by simp [hk]))
   have hrl:Qh.length=ks.length:=by
    have e:=congrArg List.length y5
    have e2:=congrArg List.length y6
    rw [Vr,Vr] at e
    rw [Wq,Jc] at e2
    omega
   refine ⟨[N op,N n,OU u nl1 ty,.sl true false 4 Qh],h5,?_,by rw [y2];simpa using z2,fun k hk=>?_,by simp [y4],[N op,N n,OU u nl1 ty,.sl true false 4 rows'],by simp [Y6,nz,y5],by simp [GTerm.cells,y6],by simp [y7],rfl,rfl⟩
   ·simp only [YI]
    refine ⟨_,_,h,rfl,by simp [Fz],_,_,h,rfl,by simp [Fz],_,_,h1,rfl,z1,_,_,h5,rfl,?_,rfl,rfl⟩
    simp only [Fz]
    refine .inr ⟨trivial,trivial,n0+l,cap,cells,List.replicate sl .dead,by rw [hrl],by rw [hh2 l (by simp)];exact h8,by omega,?_,y1⟩
    rw [List.length_append,h11.len,List.length_replicate];omega
   ·rw [y3 k (fun x hx=>hk x (by simp [hx])),List.getElem?_set_ne (fun e=>hk l (by simp) e.symm),z3 k (fun x hx=>hk x (by simp [hx]))]
theorem TR.fz {n0:Nat} {T:List Box}:∀ {ks:List GTerm} {cells:List LV} {fp:List Nat},TR n0 T ks cells fp→fp.Nodup→∀ {h:List Box},(∀ l∈fp,h[n0+l]?=T[l]?) →
  ∃ Qh h1,JC Qh 4 cells h h1∧h1.length=h.length∧(∀ k,(∀ l∈fp,k≠n0+l)→h1[k]?=h[k]?)∧We 0 Qh∧∃ rows',ZaS rows'=ZaS Qh∧Qq rows'=QM ks∧We 0 rows'∧∀ r∈rows',r.length=4
 | [],cells,fp,t,nd,h,hh=>by
  simp only [TR] at t
  obtain ⟨rfl,rfl⟩:=t
  exact ⟨[],h,by simp [JC],rfl,fun _ _=>rfl,by simp,[],rfl,by simp [Qq,QM],by simp,by simp⟩
 | k::ks,cells,fp,t,nd,h,hh=>by
  simp only [TR] at t
  obtain ⟨c1,c2,f1,f2,rfl,rfl,t1,t2⟩:=t
  rw [List.nodup_append] at nd
  obtain ⟨d1,d2,d3⟩:=nd
  obtain ⟨os,h1,z1,z2,z3,z4,os',z5,z6,z7,_,z8⟩:=TN.fz t1 d1 (h:=h) (fun l hl=>hh l (by simp [hl]))
  obtain ⟨Qh,h5,y1,y2,y3,y4,rows',y5,y6,y7,y8⟩:=TR.fz t2 d2 (h:=h1) (fun l hl=>by
   rw [z3 (n0+l) (fun k hk e=>d3 k hk l hl (by omega))];exact hh l (by simp [hl]))
  have hol:os.length=4:=by rw [← Vs,← z5,Vs,z8]
  refine ⟨os::Qh,h5,?_,by rw [y2,z2],fun x hx=>?_,by simp [z4,y4],os'::rows',by simp [ZaS,z5,y5],by simp [Qq,QM,z6,y6],by simp [z7,y7],?_⟩
  ·simp only [JC]
   exact ⟨c1,c2,h1,rfl,hol,z1,y1⟩
  ·rw [y3 x (fun l hl=>hx l (by simp [hl])),z3 x (fun l hl=>hx l (by simp [hl]))]
  ·intro r hr
   rcases List.mem_cons.1 hr with rfl | hr
   ·exact z8
   ·exact y8 r hr
end
def isS (m:Nat) (r:LV):Prop:=∃ (w:GTerm) (cs:List LV),r=.agg cs∧shareAll cs=w.cells∧QA 0 cs∧Wh cs=true∧cs.length=4∧w.wf∧w.fl∧w.size≤m
def isSz (m:Nat) (r:LV):Prop:=Low 0 r∧∃ r',nz r'=nz r∧isS m r'
def Hp (h1 h3:List Box) (c z:Box) (T:List Box):List Box:=h1++c::(h3++(none::z::T))
def nB (h1 h3:List Box):Nat:=h1.length+h3.length+3
def p4 (h1 h3:List Box):Nat:=h1.length+h3.length+2
section
variable {h1 h3 T:List Box} {c z:Box}
theorem Hp_at (k:Nat):(Hp h1 h3 c z T)[h1.length+h3.length+1+k]?=(none::z::T)[k]?:=by
 unfold Hp
 rw [List.getElem?_append_right (by omega),show h1.length+h3.length+1+k - h1.length=(h3.length+k)+1 by omega,List.getElem?_cons_succ,List.getElem?_append_right (by omega)]
 congr 1;omega
theorem Xa (l:Nat):(Hp h1 h3 c z T)[nB h1 h3+l]?=T[l]?:=by
 rw [show nB h1 h3+l=h1.length+h3.length+1+(l+2) by unfold nB;omega,Hp_at];rfl
theorem ZqT:(Hp h1 h3 c z T)[p4 h1 h3]?=some z:=by
 rw [show p4 h1 h3=h1.length+h3.length+1+1 by unfold p4;omega,Hp_at];rfl
theorem ZoG (k:Nat) (x:Box):(Hp h1 h3 c z T).set (h1.length+h3.length+1+k) x=h1++c::(h3++(none::z::T).set k x):=by
 unfold Hp
 rw [List.set_append_right _ _ (by omega),show h1.length+h3.length+1+k - h1.length=(h3.length+k)+1 by omega,List.set_cons_succ,List.set_append_right _ _ (by omega),show h3.length+k - h3.length=k by omega]
theorem Zaw (l:Nat) (x:Box):(Hp h1 h3 c z T).set (nB h1 h3+l) x=Hp h1 h3 c z (T.set l x):=by
 rw [show nB h1 h3+l=h1.length+h3.length+1+(l+2) by unfold nB;omega,ZoG];rfl
theorem ZqZ (x:Box):(Hp h1 h3 c z T).set (p4 h1 h3) x=Hp h1 h3 c x T:=by
 rw [show p4 h1 h3=h1.length+h3.length+1+1 by unfold p4;omega,ZoG];rfl
theorem Zdo:(Hp h1 h3 c z T).length=nB h1 h3+T.length:=by unfold Hp nB;simp;omega
theorem ZgG (S:List Box):Hp h1 h3 c z T++S=Hp h1 h3 c z (T++S):=by unfold Hp;simp
theorem Ke {P:Program} {D:Dr} {K:St→Prop} {d:Nat} {f:FuncId} {rest:List LV} {Q:LV→Prop} {t:Nat→LV} {ct:LV} {i k:Int} (cc:Q0 P D f rest Q) (hct:TL.share ct=D.lv) (hk:WR D i k)
  (hh:∀ r i' k',WR D i' k'→Q r→K { t:=upd t d r,h:=Hp h1 h3 (some [ct,N i',N k']) z T }):YY P .fr f (.ptr h1.length 0::rest) (some d) K { t:=t,h:=Hp h1 h3 (some [ct,N i,N k]) z T } :=
 Qp cc hct hk hh
theorem Hp_take:(Hp h1 h3 c z T).take (h1.length+h3.length+1)=h1++c::h3:=by
 unfold Hp
 rw [show h1++c::(h3++(none::z::T))=(h1++c::h3)++(none::z::T) by simp,List.take_append_of_le_length (by simp;omega),List.take_of_length_le (by simp;omega)]
end
structure NodeAt (n0:Nat) (T:List Box) (r R l:Nat) (A B cs:List LV) (g:GTerm) (fp:List Nat):Prop where
 box:T[l]?=some (some (A++cs++B))
 tn:TN n0 T g cs fp
 nd:fp.Nodup
 nl:l ∉ fp
 wf:g.wf
 fl:g.fl
 hole:Hole n0 T r R l A B fp g.size
 sz:g.size≤R
theorem Zn8 (g:GTerm) (h:List Box):YI g.cells g.cells h h:=by
 cases g
 simp only [GTerm.cells,YI,Fz]
 exact ⟨_,_,h,rfl,⟨rfl,rfl⟩,_,_,h,rfl,⟨rfl,rfl⟩,_,_,h,rfl,.inl ⟨rfl,rfl⟩,_,_,h,rfl,.inl ⟨rfl,rfl⟩,rfl,rfl⟩
def SpR (D:Dr) (h1 h3:List Box) (ct:LV) (m:Nat) (r:LV) (h':List Box):Prop :=
 ∃ t h'' k,Fz t r h' h''∧h1.length+h3.length+1≤k∧k≤h''.length∧Low k t∧(∀ l xs,l < k→h''[l]?=some (some xs)→QA k xs)∧∃ i' k',WR D i' k'∧isSz m t∧h''.take k=h1++some [ct,N i',N k']::h3
theorem Zmj {h1 h3:List Box} {ct:LV} {i j i' k':Int} (lh:LowH (h1++some [ct,N i,N j]::h3)) (l:Nat) (xs:List LV) (hx:(h1++some [ct,N i',N k']::h3)[l]?=some (some xs)):QA (h1.length+h3.length+1) xs:=by
 have hl:(h1++some [ct,N i,N j]::h3).length=h1.length+h3.length+1:=by simp;omega
 rw [← hl]
 by_cases e:l=h1.length
 ·subst e
  simp at hx
  subst hx
  have:=lh h1.length _ (by simp;rfl)
  simpa [QA] using this
 ·refine lh l xs ?_
  rcases Nat.lt_or_ge l h1.length with g | g
  ·rw [List.getElem?_append_left g] at hx ⊢;exact hx
  ·rw [List.getElem?_append_right g] at hx ⊢
   obtain ⟨q,hq⟩:∃ q,l - h1.length=q+1:=⟨l - h1.length - 1,by omega⟩
   rw [hq] at hx ⊢
   simpa using hx
theorem Zq2 {D:Dr} {h1 h3 T:List Box} {ct:LV} {i j i' k':Int} {m:Nat} {e:Exit} {s:St} {zs os:List LV} {h'':List Box} (lh:LowH (h1++some [ct,N i,N j]::h3)) (he:e=.normal∨e=.ret) (h4:s.t 4=.ptr (p4 h1 h3) 0) (hh:s.h=Hp h1 h3 (some [ct,N i',N k']) (some zs) T)
  (hz:zs.length=4) (hk:WR D i' k') (fz:YI os zs (Hp h1 h3 (some [ct,N i',N k']) (some (shareAll zs)) T) h'') (hlen:h''.length=(Hp h1 h3 (some [ct,N i',N k']) (some (shareAll zs)) T).length)
  (hfr:∀ k,k < h1.length+h3.length+1→h''[k]?=(Hp h1 h3 (some [ct,N i',N k']) (some (shareAll zs)) T)[k]?) (hs:isSz m (.agg os)) :
  Post [.cell 4 true 4] (h1.length+h3.length+1) (SpR D h1 h3 ct m) e s:=by
 refine ⟨he,[.agg zs],⟨s.t,Hp h1 h3 (some [ct,N i',N k']) (some (shareAll zs)) T⟩,(Hp h1 h3 (some [ct,N i',N k']) (some (shareAll zs)) T).length,?_,by rw [Zdo];unfold nB;omega,Nat.le_refl _,.inl rfl,?_⟩
 ·simp only [Yd,Zfn,h4,hh,ZqT,hz,Wr,if_true,ZqZ]
 ·rw [List.take_of_length_le (Nat.le_refl _)]
  have htk:h''.take (h1.length+h3.length+1)=h1++some [ct,N i',N k']::h3:=by
   rw [← Hp_take (c:=some [ct,N i',N k']) (z:=some (shareAll zs)) (T:=T)]
   apply List.ext_getElem?
   intro k
   rw [List.getElem?_take,List.getElem?_take]
   split
   ·rename_i hlt;exact hfr k hlt
   ·rfl
  refine ⟨.agg os,h'',h1.length+h3.length+1,by simp only [ZaJ,Fz];exact ⟨zs,rfl,fz⟩,Nat.le_refl _,by rw [hlen,Zdo];unfold nB;omega,Low.mono_go (Nat.zero_le _) _ hs.1,fun l xs hl hx=>?_,i',k',hk,hs,htk⟩
  refine Zmj lh (i':=i') (k':=k') l xs ?_
  rw [← htk,List.getElem?_take,if_pos hl];exact hx
theorem sp_same {D:Dr} {h1 h3:List Box} {T:List Box} {ct:LV} {i j i' k':Int} {m:Nat} {e:Exit} {s:St} {g:GTerm} (lh:LowH (h1++some [ct,N i,N j]::h3)) (he:e=.normal∨e=.ret) (h4:s.t 4=.ptr (p4 h1 h3) 0) (hh:s.h=Hp h1 h3 (some [ct,N i',N k']) (some g.cells) T)
  (hk:WR D i' k') (wf:g.wf) (fl:g.fl) (hm:g.size≤m):Post [.cell 4 true 4] (h1.length+h3.length+1) (SpR D h1 h3 ct m) e s :=
 Zq2 (i:=i) (j:=j) lh he h4 hh (by simp) hk (Zn8 g _) rfl (fun _ _=>rfl) ⟨by simp,.agg g.cells,rfl,g,_,rfl,by simp,by simp,by cases g;rfl,by simp,wf,fl,hm⟩
theorem sp_done {D:Dr} {h1 h3:List Box} {T:List Box} {ct:LV} {i j i' k':Int} {m:Nat} {e:Exit} {s:St} {g:GTerm} {cs:List LV} {fp:List Nat} (lh:LowH (h1++some [ct,N i,N j]::h3)) (he:e=.normal∨e=.ret) (h4:s.t 4=.ptr (p4 h1 h3) 0) (hh:s.h=Hp h1 h3 (some [ct,N i',N k']) (some cs) T)
  (hk:WR D i' k') (tn:TN (nB h1 h3) T g cs fp) (nd:fp.Nodup) (wf:g.wf) (fl:g.fl) (hm:g.size≤m):Post [.cell 4 true 4] (h1.length+h3.length+1) (SpR D h1 h3 ct m) e s:=by
 obtain ⟨os,h'',z1,z2,z3,z4,os',z5,z6,z7,z8,z9⟩:=tn.fz nd (h:=Hp h1 h3 (some [ct,N i',N k']) (some (shareAll cs)) T) (fun l _=>Xa l)
 refine Zq2 (i:=i) (j:=j) lh he h4 hh tn.len hk z1 z2 (fun k hk=>z3 k fun l _ e=>?_) ⟨by simpa using z4,.agg os',by simp [nz,z5],g,os',rfl,z6,z7,z8,z9,wf,fl,hm⟩
 unfold nB at e;omega
theorem ZpB (h:List Box) (g:GTerm):Vt h (.agg g.cells) (.agg g.cells):=by
 simp only [Vt]
 refine ⟨_,rfl,?_⟩
 cases g
 exact Zl ZhT (Zl ZhT (Zl (ZqA (by simp) (by simp)) (Zl (ZqA (by simp) (by simp)) Zhk)))
mutual
theorem Zll:∀ (g:GTerm) (fr:Int),shG 0 fr g=g
 | .mk op n nl1 ty nl2 ks,fr=>by simp [shG,ZiT ks op 0 fr]
theorem ZiT:∀ (ks:List GTerm) (op:Int) (i:Nat) (fr:Int),Y0 0 fr op i ks=ks
 | [],_,_,_=>by simp [Y0]
 | k::ks,op,i,fr=>by simp [Y0,Zll k,ZiT ks op (i+1) fr]
end
mutual
theorem nf_ok:∀ (g:GTerm),g.wf→g.nf.wf∧g.nf.fl∧g.nf.size=g.size
 | .mk op n nl1 ty nl2 ks,h=>by
  simp only [GTerm.wf] at h
  obtain ⟨h1,h2,h3⟩:=nfs_ok ks h.2.2.2.2
  simp only [GTerm.nf,GTerm.wf,GTerm.fl,GTerm.size,ZeJ]
  exact ⟨⟨h.1,h.2.1,h.2.2.1,h.2.2.2.1,h1⟩,⟨by simp [Zt],h2⟩,by rw [h3]⟩
theorem nfs_ok:∀ (ks:List GTerm),wfs ks→wfs (nfs ks)∧fls (nfs ks)∧WV (nfs ks)=WV ks
 | [],_=>by simp [nfs,wfs,fls,WV]
 | k::ks,h=>by
  simp only [wfs] at h
  obtain ⟨h1,h2,h3⟩:=nf_ok k h.1
  obtain ⟨h4,h5,h6⟩:=nfs_ok ks h.2
  simp only [nfs,wfs,fls,WV]
  exact ⟨⟨h1,h4⟩,⟨h2,h5⟩,by rw [h3,h6]⟩
end
theorem Zok:∀ ks:List GTerm,ks.length≤WV ks
 | []=>by simp [WV]
 | k::ks=>by have:=Zok ks;have:=k.size_pos;simp only [WV,List.length_cons];omega
theorem NodeAt.put {n0:Nat} {T:List Box} {r R l:Nat} {A B cs cs':List LV} {g g':GTerm} {fp fp':List Nat} (N1:NodeAt n0 T r R l A B cs g fp) (tn:TN n0 T g' cs' fp') (nd:fp'.Nodup) (hs:∀ k∈fp',k∈fp) (wf:g'.wf) (fl:g'.fl) :
  ∃ gr crs fpr,(T.set l (some (A++cs'++B)))[r]?=some (some crs)∧TN n0 (T.set l (some (A++cs'++B))) gr crs fpr∧fpr.Nodup∧r ∉ fpr∧gr.wf∧gr.fl∧gr.size+g.size=R+g'.size:=by
 have hl:l < T.length:=(List.getElem?_eq_some_iff.1 N1.box).1
 have hn:l ∉ fp':=fun h=>N1.nl (hs l h)
 exact N1.hole _ g' cs' fp' (by simp) (by simp [hl]) (fun k _ hk _=>by rw [List.getElem?_set_ne (Ne.symm hk)]) (tn.frame fun k hk=>List.getElem?_set_ne (fun e=>hn (by rw [e];exact hk))) nd hn (fun k hk=>.inl (hs k hk)) wf fl
theorem TR.snoc {n0:Nat} {T:List Box} {k:GTerm} {c:List LV} {f2:List Nat} (hk:TN n0 T k c f2):∀ {ks:List GTerm} {cells:List LV} {f:List Nat},TR n0 T ks cells f→TR n0 T (ks++[k]) (cells++c) (f++f2)
 | [],cells,f,h=>by
  simp only [TR] at h
  obtain ⟨rfl,rfl⟩:=h
  simp only [List.nil_append,TR]
  exact ⟨c,[],f2,[],by simp,by simp,hk,rfl,rfl⟩
 | a::ks,cells,f,h=>by
  simp only [TR] at h
  obtain ⟨c1,c2,f1,f3,rfl,rfl,h3,h4⟩:=h
  simp only [List.cons_append,TR]
  exact ⟨c1,c2++c,f1,f3++f2,by simp,by simp,h3,TR.snoc hk h4⟩
theorem Znq {k:GTerm} (hk:k.wf):∀ {ks:List GTerm},wfs ks→wfs (ks++[k])
 | [],_=>by simp only [List.nil_append,wfs];exact ⟨hk,trivial⟩
 | a::ks,h=>by simp only [List.cons_append,wfs] at h ⊢;exact ⟨h.1,Znq hk h.2⟩
theorem fls_snoc {k:GTerm} (hk:k.fl) {ks:List GTerm} (h:fls ks):fls (ks++[k]):=ZH.2 fun a ha=>by
 rcases List.mem_append.1 ha with ha | ha
 ·exact ZH.1 h a ha
 ·simp at ha;subst ha;exact hk
theorem NodeAt.app {n0:Nat} {T T':List Box} {r R l lk cap sl:Nat} {A B cells:List LV} {cs:List LV} {cT:LV} {op n:Int} {nl1 nl2:Bool} {ty:List Int} {ks:List GTerm} {f1 f2 f':List Nat} (N1:NodeAt n0 T r R l A B cs (.mk op n nl1 ty nl2 ks) (f1++f2))
  (hTI:TI n0 T nl1 ty cT f1) (hR:TR n0 T ks cells f') (hlen:T.length≤T'.length) (h1:T'[l]?=some (some (A++[N op,N n,cT,.ha (n0+lk) 4 0 (ks.length+1) cap]++B))) (h2:∀ k,k < T.length→k≠l→k ∉ f2→T'[k]?=T[k]?) (h3:∀ k∈f',T'[k]?=T[k]?)
  (h4:T'[lk]?=some (some (cells++[N 1,N 0,.sl true true 1 [],.sl true true 1 []]++List.replicate sl .dead))) (h5:(ks.length+1) * 4+sl=cap * 4) (h6:f'.Nodup) (h7:lk ∉ f1++f') (h8:l≠lk) (h9:∀ k∈f',k∈f2) (h10:lk∈f2∨T.length≤lk) (hsz:ks.length≤1000000) :
  ∃ gr crs fpr,T'[r]?=some (some crs)∧TN n0 T' gr crs fpr∧fpr.Nodup∧r ∉ fpr∧gr.wf∧gr.fl∧gr.size≤R+1:=by
 have w:=N1.wf
 have f:=N1.fl
 have nd:=N1.nd
 have nl:=N1.nl
 simp only [GTerm.wf] at w
 simp only [GTerm.fl] at f
 rw [List.nodup_append] at nd
 simp only [List.mem_append,not_or] at nl h7
 obtain ⟨d1,d2,d3⟩:=nd
 have lt1:=hTI.lt
 have key:=N1.hole T' (.mk op n nl1 ty false (ks++[.mk 1 0 true [] true []])) [N op,N n,cT,.ha (n0+lk) 4 0 (ks.length+1) cap] (f1++lk::(f'++[])) hlen h1
  (fun k hk hkl hkn=>by simp only [List.mem_append,not_or] at hkn;exact h2 k hk hkl hkn.2) ?_ ?_ ?_ ?_ ?_ ?_
 ·obtain ⟨gr,crs,fpr,q1,q2,q3,q4,q5,q6,q7⟩:=key
  have:WV (ks++[.mk 1 0 true [] true []])=WV ks+1:=by rw [ZgT];simp [WV,GTerm.size]
  simp only [GTerm.size,this] at q7
  exact ⟨gr,crs,fpr,q1,q2,q3,q4,q5,q6,by omega⟩
 ·simp only [TN]
  have num:TN n0 T' (.mk 1 0 true [] true []) [N 1,N 0,.sl true true 1 [],.sl true true 1 []] []:=by
   simp only [TN]
   exact ⟨_,_,[],[],rfl,rfl,.inl ⟨rfl,true,rfl⟩,.inl (by simp)⟩
  refine ⟨cT,_,f1,_,rfl,rfl,hTI.frame fun k hk=>h2 k (lt1 k hk) (fun e=>nl.1 (e ▸ hk)) (fun h=>d3 k hk k h rfl),.inr ⟨by simp,trivial,lk,cap,sl,_,_,rfl,by simp,h4,by simpa using h5,by simp;omega,TR.snoc num (hR.frame h3)⟩⟩
 ·rw [List.append_nil,List.nodup_append,List.nodup_cons]
  refine ⟨d1,⟨h7.2,h6⟩,fun a ha b hb e=>?_⟩
  subst e
  rcases List.mem_cons.1 hb with rfl | hb
  ·exact h7.1 ha
  ·exact d3 a ha a (h9 a hb) rfl
 ·simp only [List.append_nil,List.mem_append,List.mem_cons,not_or]
  exact ⟨nl.1,h8,fun h=>nl.2 (h9 l h)⟩
 ·intro k hk
  simp only [List.append_nil,List.mem_append,List.mem_cons] at hk ⊢
  rcases hk with hk | rfl | hk
  ·exact .inl (.inl hk)
  ·rcases h10 with h | h
   ·exact .inl (.inr h)
   ·exact .inr h
  ·exact .inl (.inr (h9 k hk))
 ·simp only [GTerm.wf]
  exact ⟨w.1,w.2.1,w.2.2.1,by simp;omega,Znq (by simp only [GTerm.wf,wfs];exact ⟨by unfold I64;omega,by unfold I64;omega,by simp [Lok],by simp,trivial⟩) w.2.2.2.2⟩
 ·simp only [GTerm.fl]
  exact ⟨f.1,fls_snoc (by simp only [GTerm.fl,fls];exact ⟨by simp [Zt],trivial⟩) f.2⟩
section
variable (D:Dr) (ok:D.ok)
include ok
theorem Zrj (g:GTerm) (nv:Int) (m:Nat) (wf:g.wf) (fl:g.fl) (hsk:g.sk nv) (hn0:0≤nv) (hn1:nv+2 * g.size≤1000000) (hm:g.size≤m):Q0 Tryz.prog D ZaK [g.lv] (isS (m+1)):=by
 refine Q0.nzR (Q:=isSz (m+1)) ?_ (fun r hr=>hr.2)
 intro h1 h3 ct i k hct hk
 have hl:(h1++some [ct,N i,N k]::h3).length=h1.length+h3.length+1:=by simp;omega
 have ez:isSz (m+1) (.agg g.cells):=⟨by simp,.agg g.cells,rfl,g,_,rfl,by simp,by simp,by cases g;rfl,by simp,wf,fl,by omega⟩
 refine QN.of_low (R:=fun r h'=>∃ i' k',WR D i' k'∧isSz (m+1) r∧h'=h1++some [ct,N i',N k']::h3) (Jt ZdX) ⟨_,_,i,k,hk,ez,rfl⟩ fun lh=>?_
 have hex:∃ r h',SpR D h1 h3 ct (m+1) r h':=⟨.agg g.cells,h1++some [ct,N i,N k]::h3,.agg g.cells,_,h1.length+h3.length+1,by simp only [Fz];exact ⟨_,rfl,Zn8 g _⟩,Nat.le_refl _,by rw [hl];exact Nat.le_refl _,by simp,fun l xs h' hx=>Zmj lh l xs hx,i,k,hk,ez,by rw [← hl,List.take_of_length_le (Nat.le_refl _)]⟩
 refine QN.freeze (QN.mono (R:=SpR D h1 h3 ct (m+1)) (QN.of_codeOf ZdX Qz (by simp) hex ?_) (fun r h' hr=>by
  obtain ⟨t,h'',k,z1,z2,z3,z4,z5,i',k',z6,z7,z8⟩:=hr
  exact ⟨t,h'',k,z1,by rw [hl];exact z2,z3,z4,z5,i',k',z6,z7,z8⟩))
 rw [hl]
 simp (disch:=omega) [ZdW,Qw,Qs]
 refine Qp (X9 D ok 6 (by unfold I64;omega)) hct hk ?_
 rintro r i1 k1 hk1 ⟨b,rfl⟩
 have hg4:g.cells.length=4:=by simp
 cases b with
 | false =>
  simp (disch:=omega) [Qw,Qs,List.take_of_length_le]
  refine sp_same (i:=i) (j:=k) (T:=[]) lh (.inr rfl) (by simp [p4];try omega) (by simp [Hp]) hk1 wf fl (by omega)
 | true =>
  simp (disch:=omega) [Qw,Qs,List.take_of_length_le]
  have hs:=Zn1 0 (by omega) g.size g nv 0 (Nat.le_refl _) hsk hn0 (by omega) (by omega) (by have:=g.size_pos;omega)
  refine Zg2 hs (Zl (ZpB _ g) (Zl ZhT (Zl ZhT Zhk))) (by rintro r ⟨cs,rfl,_,hw⟩;simp only [Wf];exact hw) ?_
  rintro _ y bs ⟨xs,rfl,hxs,hw⟩ hth
  simp only [Th] at hth
  obtain ⟨cs,rfl,hth⟩:=hth
  have hH:∀ (T:List Box),h1++some [ct,N i1,N k1]::(h3++(none::some [N 0,N 0,.sl true true 1 [],.sl true true 1 []]::T))=Hp h1 h3 (some [ct,N i1,N k1]) (some [N 0,N 0,.sl true true 1 [],.sl true true 1 []]) T:=fun T=>rfl
  have hn:(Hp h1 h3 (some [ct,N i1,N k1]) (some [N 0,N 0,.sl true true 1 [],.sl true true 1 []]) []).length=nB h1 h3:=by rw [Zdo];simp
  rw [hH [],hn] at hth
  obtain ⟨fp,tn,nd,hfp⟩:=th_TN (n0:=nB h1 h3) (T:=bs++[some cs]) (shG 0 0 g) 0 xs cs bs hxs hth (fun i b hb=>by rw [Nat.zero_add];exact ZdB hb)
  rw [hH []]
  have c4:=tn.len
  have hT:∀ b:Box,nB h1 h3+(bs++[b]).length=nB h1 h3+bs.length+1:=fun b=>by simp;omega
  rw [ZgG,List.nil_append]
  simp (disch:=omega) [ZgG,Zdo,Xa,Zaw,c4,List.take_of_length_le,List.drop_of_length_le]
  have e3:List.drop 0 cs=cs:=rfl
  have hcs:(bs++[some cs])[bs.length]?=some (some cs):=by simp
  have hw2:(shG 0 0 g).nf.wf∧(shG 0 0 g).nf.fl∧(shG 0 0 g).nf.size=g.size:=by rw [Zll];exact nf_ok g wf
  obtain ⟨wf2,fl2,sz2⟩:=hw2
  generalize (shG 0 0 g).nf=g0 at tn wf2 fl2 sz2
  have NA:NodeAt (nB h1 h3) (bs++[some cs]) bs.length g.size bs.length [] [] cs g0 fp:=⟨by simp,tn,nd,fun h=>by have:=hfp _ h;omega,wf2,fl2,by rw [← sz2];exact Hole.root,by omega⟩
  generalize bs++[some cs]=T at *
  generalize bs.length=r5 at *
  refine Zgm (fun q t h=>∃ l A B cs g1 fp i' k',t 6=.ptr (nB h1 h3+l) A.length∧WR D i' k'∧h=Hp h1 h3 (some [ct,N i',N k']) (some [N 0,N 0,.sl true true 1 [],.sl true true 1 []]) T∧NodeAt (nB h1 h3) T r5 g.size l A B cs g1 fp∧g1.size=q)
   (fun t h=>∃ l A B cs g1 fp i' k',t 6=.ptr (nB h1 h3+l) A.length∧WR D i' k'∧h=Hp h1 h3 (some [ct,N i',N k']) (some [N 0,N 0,.sl true true 1 [],.sl true true 1 []]) T∧NodeAt (nB h1 h3) T r5 g.size l A B cs g1 fp) g0.size ?_ ?_ ?_
  ·refine ⟨r5,[],[],cs,g0,fp,i1,k1,by simp,hk1,rfl,NA,rfl⟩
  ·rintro q t h hf ⟨l,A,B,cs,⟨op,n,nl1,ty,nl2,ks⟩,fp,i2,k2,a6,hk2,rfl,N1,rfl⟩
   (have e0:=hf 0 (by kernel_rfl);have e4:=hf 4 (by kernel_rfl);have e5:=hf 5 (by kernel_rfl);clear hf;simp [p4] at e0 e4 e5)
   have box:=N1.box
   have tn:=N1.tn
   simp only [TN] at tn
   obtain ⟨cT,cK,f1,f2,rfl,rfl,hTI,hK⟩:=tn
   simp only [List.append_assoc,List.cons_append,List.nil_append] at box
   have alT:=hTI.al
   rcases hK with ⟨rfl,rfl,rfl,u,sz,rfl⟩ | ⟨hne,rfl,lk,cap,sl,cells,f',rfl,rfl,hbx,hsl,hcap,hR⟩
   ·have le3:A.length+3+1≤A.length+(B.length+1+1+1+1):=by omega
    simp (disch:=omega) [e0,e4,e5,a6,Xa,box,le3]
    exact ⟨l,A,⟨rfl,rfl⟩,B,_,_,_,i2,k2,hk2,rfl,N1⟩
   ·have le3:A.length+3+1≤A.length+(B.length+1+1+1+1):=by omega
    have kpos:0 < ks.length:=List.length_pos_iff.2 hne
    have hb:ltB 0 (ks.length:Int)=true:=by rw [Qi];omega
    have kI:I64 ks.length:=by have:=N1.wf;simp only [GTerm.wf] at this;unfold I64;omega
    simp (disch:=omega) [e0,e4,e5,a6,Xa,box,le3,hb]
    refine Ke (Wn D ok 3 (by unfold I64;omega)) hct hk2 ?_
    rintro r i3 k3 hk3 ⟨b,rfl,hb0,_,_⟩
    simp (disch:=omega) [e0,e4,e5,a6,Xa,box,le3]
    (with_reducible first | refine Qn (fun hbb=>?_) (fun hbb=>?_) | refine Qm (fun hbb=>?_) (fun hbb=>?_))
    ·simp (disch:=omega) [e0,e4,e5,a6,Xa,box,le3,hbb]
     have go:∀ (jn:Nat),jn < ks.length→∃ A' ci B' fi g2,A'.length=jn * 4∧NodeAt (nB h1 h3) T r5 g.size lk A' B' ci g2 fi∧g2.size < (GTerm.mk op n nl1 ty false ks).size:=by
      intro jn hj
      obtain ⟨A',ci,B',fi,d1,d2,d3,d4,d5,d6⟩:=N1.hole.down N1.box hTI hbx hsl hcap hR N1.nd N1.nl N1.wf N1.fl jn hj
      have w:=N1.wf
      have f:=N1.fl
      simp only [GTerm.wf] at w
      simp only [GTerm.fl] at f
      refine ⟨A',ci,B',fi,ks[jn],d2,⟨by rw [hbx,d1],d3,d4,d5,wfs_at ks jn hj w.2.2.2.2,ZH.1 f.2 _ (List.getElem_mem hj),d6,by have:=Yi hj;have:=N1.sz;simp only [GTerm.size] at this;omega⟩,?_⟩
      have:=Yi hj
      simp only [GTerm.size];omega
     refine ⟨?_,?_⟩
     all_goals
      refine Ke (Wn D ok ks.length kI) hct hk3 ?_
      rintro r i4 k4 hk4 ⟨j,rfl,hj0,hj1,_⟩
      obtain ⟨jn,rfl⟩:∃ jn:Nat,j=jn:=⟨j.toNat,by omega⟩
      have hj2:=hj1 (by omega)
      obtain ⟨A',ci,B',fi,g2,d1,d2,d3⟩:=go jn (by omega)
      have hix:=Kn (l:=nB h1 h3+lk) (sz:=4) (off:=0) (n:=ks.length) (cap:=cap) (i:=jn) (by omega)
      simp (disch:=omega) [e0,e4,e5,a6,Xa,box,le3,hix]
      exact ⟨_,d3,lk,A',⟨rfl,by omega⟩,B',ci,g2,fi,i4,k4,hk4,rfl,d2,rfl⟩
    ·simp (disch:=omega) [e0,e4,e5,a6,Xa,box,le3,hbb]
     exact ⟨l,A,⟨rfl,rfl⟩,B,_,_,_,i3,k3,hk3,rfl,N1⟩
  ·rintro t h hf ⟨l,A,B,cs,⟨op,n,nl1,ty,nl2,ks⟩,fp,i2,k2,a6,hk2,rfl,N1⟩
   (have e0:=hf 0 (by kernel_rfl);have e4:=hf 4 (by kernel_rfl);have e5:=hf 5 (by kernel_rfl);clear hf;simp [p4] at e0 e4 e5)
   have e4':t 4=.ptr (p4 h1 h3) 0:=by rw [e4];unfold p4;congr 1
   have box:=N1.box
   have tn:=N1.tn
   have w:=N1.wf
   have f:=N1.fl
   simp only [TN] at tn
   simp only [GTerm.wf] at w
   simp only [GTerm.fl] at f
   obtain ⟨cT,cK,f1,f2,rfl,rfl,hTI,hK⟩:=tn
   simp only [List.append_assoc,List.cons_append,List.nil_append] at box
   have le:∀ j:Nat,j≤3→A.length+j+1≤A.length+(B.length+1+1+1+1):=fun j hj=>by omega
   have le0:A.length+1≤A.length+(B.length+1+1+1+1):=by omega
   have s0:∀ v,splice (A++N op::N n::cT::cK::B) A.length [v]=A++[v,N n,cT,cK]++B:=fun v=>by simp [splice]
   have haF:∀ l n cap,(LV.ha l 4 0 n cap).flat=true:=fun _ _ _=>rfl
   have haC:∀ l n cap,(LV.ha l 4 0 n cap).cells=[.ha l 4 0 n cap]:=fun _ _ _=>rfl
   have R1:=N1.sz
   simp only [GTerm.size] at R1
   have same:∀ i3 k3,WR D i3 k3→∃ T' gr crs fpr i' k',Hp h1 h3 (some [ct,N i3,N k3]) (some [N 0,N 0,LV.sl true true 1 [],LV.sl true true 1 []]) T=Hp h1 h3 (some [ct,N i',N k']) (some [N 0,N 0,LV.sl true true 1 [],LV.sl true true 1 []]) T'∧WR D i' k'∧T'[r5]?=some (some crs)∧TN (nB h1 h3) T' gr crs fpr∧fpr.Nodup∧¬r5∈fpr∧gr.wf∧gr.fl∧gr.size≤m+1:=fun i3 k3 hk3=>by
    obtain ⟨gr,crs,fpr,q1,q2,q3,q4,q5,q6,q7⟩:=N1.hole T _ _ _ (Nat.le_refl _) N1.box (fun _ _ _ _=>rfl) N1.tn N1.nd N1.nl (fun k hk=>.inl hk) N1.wf N1.fl
    exact ⟨T,gr,crs,fpr,i3,k3,rfl,hk3,q1,q2,q3,q4,q5,q6,by omega⟩
   have tk:∀ (j:Nat) (X:List LV),List.take (A.length+j) (A++X)=A++List.take j X:=fun j X=>List.take_length_add_append j
   have dr:∀ (j:Nat) (X:List LV),List.drop (A.length+j+1) (A++X)=List.drop (j+1) X:=fun j X=>by rw [Nat.add_assoc,List.drop_length_add_append]
   simp only [YH]
   refine Vn (fun t h=>∃ T' gr crs fpr i' k',h=Hp h1 h3 (some [ct,N i',N k']) (some [N 0,N 0,.sl true true 1 [],.sl true true 1 []]) T'∧WR D i' k'∧T'[r5]?=some (some crs)∧TN (nB h1 h3) T' gr crs fpr∧fpr.Nodup∧r5 ∉ fpr∧gr.wf∧gr.fl∧gr.size≤m+1) ?_ ?_
   ·simp (disch:=omega) [e0,e4',e5,a6,Xa,box]
    refine Ke (Wn D ok 6 (by unfold I64;omega)) hct hk2 ?_
    rintro r i3 k3 hk3 ⟨v,rfl,hv0,hv1,_⟩
    simp (disch:=omega) [e0,e4',e5,a6,Xa,box]
    (with_reducible first | refine Qn (fun hb0=>?_) (fun hb0=>?_) | refine Qm (fun hb0=>?_) (fun hb0=>?_))
    ·simp (disch:=omega) [e0,e4',e5,a6,Xa,box,hb0]
     refine Ke (Wn D ok 15 (by unfold I64;omega)) hct hk3 ?_
     rintro r i4 k4 hk4 ⟨x,rfl,hx0,hx1,_⟩
     have hx2:=hx1 (by omega)
     simp (disch:=omega) [e0,e4',e5,a6,Xa,Zaw,box,Qd,le0,s0]
     obtain ⟨gr,crs,fpr,q1,q2,q3,q4,q5,q6,q7⟩:=N1.put (cs':=[N (x - 1),N n,cT,cK]) (g':=.mk (x - 1) n nl1 ty nl2 ks) (fp':=f1++f2) (by simp only [TN];exact ⟨cT,cK,f1,f2,rfl,rfl,hTI,hK⟩) N1.nd (fun k h=>h)
      (by simp only [GTerm.wf];exact ⟨by unfold I64;omega,w.2⟩) (by simp only [GTerm.fl];exact f)
     simp only [GTerm.size] at q7
     exact ⟨_,gr,crs,fpr,i4,k4,rfl,hk4,by simpa using q1,by simpa using q2,q3,q4,q5,q6,by omega⟩
    ·simp (disch:=omega) [e0,e4',e5,a6,Xa,box,hb0]
     (with_reducible first | refine Qn (fun hb1=>?_) (fun hb1=>?_) | refine Qm (fun hb1=>?_) (fun hb1=>?_))
     ·simp (disch:=omega) [e0,e4',e5,a6,Xa,box,hb0,hb1]
      refine Ke (JI D ok false [-2,-1,0,1,2,3,7,8,16] (by simp) (by simp)) hct hk3 ?_
      rintro r i4 k4 hk4 ⟨x,rfl,hx⟩
      have hxI:I64 x:=by simp at hx;unfold I64;omega
      simp (disch:=omega) [e0,e4',e5,a6,Xa,Zaw,box,le 1 (by omega),tk,dr]
      obtain ⟨gr,crs,fpr,q1,q2,q3,q4,q5,q6,q7⟩:=N1.put (cs':=[N op,N x,cT,cK]) (g':=.mk op x nl1 ty nl2 ks) (fp':=f1++f2) (by simp only [TN];exact ⟨cT,cK,f1,f2,rfl,rfl,hTI,hK⟩) N1.nd (fun k h=>h)
       (by simp only [GTerm.wf];exact ⟨w.1,hxI,w.2.2⟩) (by simp only [GTerm.fl];exact f)
      simp only [GTerm.size] at q7
      exact ⟨_,gr,crs,fpr,i4,k4,rfl,hk4,by simpa using q1,by simpa using q2,q3,q4,q5,q6,by omega⟩
     ·simp (disch:=omega) [e0,e4',e5,a6,Xa,box,hb0,hb1]
      (with_reducible first | refine Qn (fun hb2=>?_) (fun hb2=>?_) | refine Qm (fun hb2=>?_) (fun hb2=>?_))
      ·simp (disch:=omega) [e0,e4',e5,a6,Xa,box,hb0,hb1,hb2]
       refine Ke (JI D ok false [-2,-1,0,1,2,3,7,8,16] (by simp) (by simp)) hct hk3 ?_
       rintro r i4 k4 hk4 ⟨x,rfl,hx⟩
       have hxI:I64 x:=by simp at hx;unfold I64;omega
       simp (disch:=omega) [e0,e4',e5,a6,Xa,Zaw,box,le 1 (by omega),tk,dr]
       obtain ⟨gr,crs,fpr,q1,q2,q3,q4,q5,q6,q7⟩:=N1.put (cs':=[N op,N x,cT,cK]) (g':=.mk op x nl1 ty nl2 ks) (fp':=f1++f2) (by simp only [TN];exact ⟨cT,cK,f1,f2,rfl,rfl,hTI,hK⟩) N1.nd (fun k h=>h)
        (by simp only [GTerm.wf];exact ⟨w.1,hxI,w.2.2⟩) (by simp only [GTerm.fl];exact f)
       simp only [GTerm.size] at q7
       exact ⟨_,gr,crs,fpr,i4,k4,rfl,hk4,by simpa using q1,by simpa using q2,q3,q4,q5,q6,by omega⟩
      ·simp (disch:=omega) [e0,e4',e5,a6,Xa,box,hb0,hb1,hb2]
       (with_reducible first | refine Qn (fun hb3=>?_) (fun hb3=>?_) | refine Qm (fun hb3=>?_) (fun hb3=>?_))
       ·simp (disch:=omega) [e0,e4',e5,a6,Xa,box,hb0,hb1,hb2,hb3]
        refine Ke (JI D ok false [0,1,35,99] (by simp) (by simp)) hct hk3 ?_
        rintro r i4 k4 hk4 ⟨x,rfl,hx⟩
        have hxI:I64 x:=by simp at hx;unfold I64;omega
        have hch:Qo 1 1 [N x]=[x].map fun y=>[N y]:=rfl
        simp (disch:=omega) [e0,e4',e5,a6,Xa,Zaw,box,le 2 (by omega),tk,dr,Qo]
        obtain ⟨gr,crs,fpr,q1,q2,q3,q4,q5,q6,q7⟩:=N1.put (cs':=[N op,N n,OU true false [x],cK]) (g':=.mk op n false [x] nl2 ks) (fp':=f2) (by simp only [TN];exact ⟨_,cK,[],f2,rfl,by simp,.inl ⟨rfl,true,rfl⟩,hK⟩) (List.nodup_append.1 N1.nd).2.1 (fun k h=>by simp [h])
         (by simp only [GTerm.wf];exact ⟨w.1,w.2.1,by simp [Lok,hxI],w.2.2.2⟩) (by simp only [GTerm.fl];exact ⟨by simp [Zt],f.2⟩)
        simp only [GTerm.size] at q7
        simp only [List.append_assoc,List.cons_append,List.nil_append] at q1 q2
        exact ⟨_,gr,crs,fpr,i4,k4,rfl,hk4,q1,q2,q3,q4,q5,q6,by omega⟩
       ·simp (disch:=omega) [e0,e4',e5,a6,Xa,box,hb0,hb1,hb2,hb3]
        (with_reducible first | refine Qn (fun hb4=>?_) (fun hb4=>?_) | refine Qm (fun hb4=>?_) (fun hb4=>?_))
        ·rcases hK with ⟨rfl,rfl,rfl,u,sz,rfl⟩ | ⟨hne,rfl,lk,cap,sl,cells,f',rfl,rfl,hbx,hsl,hcap,hR⟩
         ·simp (disch:=omega) [e0,e4',e5,a6,Xa,box,hb0,hb1,hb2,hb3,hb4,le 3 (by omega),Qo]
          have gx:∀ X:Box,(T++[X])[l]?=T[l]?:=fun X=>List.getElem?_append_left (List.getElem?_eq_some_iff.1 box).1
          have sx:∀ X Y:Box,(T++[X]).set l Y=T.set l Y++[X]:=fun X Y=>List.set_append_left _ _ (List.getElem?_eq_some_iff.1 box).1
          have hx:∀ X Y:Box,(T.set l Y++[X])[T.length]?=some X:=fun X Y=>by rw [List.getElem?_append_right (by simp)];simp
          have hy:∀ X Y Z:Box,(T.set l Y++[X]).set T.length Z=T.set l Y++[Z]:=fun X Y Z=>by rw [List.set_append_right _ _ (by simp)];simp
          refine Zpm (by simp) (by simp [most]) fun cap slack hc hs=>?_
          have ix:=Zq7 (l:=nB h1 h3+T.length) (sz:=4) (off:=0) (n:=1) (cap:=cap) (by omega)
          simp (disch:=omega) [e0,e4',e5,a6,Xa,ZgG,Zdo,Zaw,box,le 3 (by omega),tk,dr,gx,sx,hx,hy,ix,haF,haC]
          obtain ⟨gr,crs,fpr,q1,q2,q3,q4,q5,q6,q7⟩:=N1.app (T':=T.set l (some (A++[N op,N n,cT,.ha (nB h1 h3+T.length) 4 0 1 cap]++B))++[some ([]++[N 1,N 0,.sl true true 1 [],.sl true true 1 []]++List.replicate slack .dead)]) (lk:=T.length) (cap:=cap) (cells:=[]) (f':=[]) hTI (by simp [TR]) (by simp)
           (by rw [List.getElem?_append_left (by rw [List.length_set];exact (List.getElem?_eq_some_iff.1 box).1),List.getElem?_set_self (List.getElem?_eq_some_iff.1 box).1];rfl) (fun k hk hkl _=>by rw [List.getElem?_append_left (by rw [List.length_set];exact hk),List.getElem?_set_ne (Ne.symm hkl)]) (by simp)
           (hx _ _) (by simp at hs ⊢;omega) (by simp) (by simp only [List.append_nil];intro h;have:=hTI.lt _ h;omega) (by have:=(List.getElem?_eq_some_iff.1 box).1;omega) (by simp) (.inr (Nat.le_refl _)) (by simp)
          simp only [List.append_assoc,List.cons_append,List.nil_append] at q1 q2
          exact ⟨_,gr,crs,fpr,i3,k3,rfl,hk3,q1,q2,q3,q4,q5,q6,by omega⟩
         ·simp (disch:=omega) [e0,e4',e5,a6,Xa,box,hb0,hb1,hb2,hb3,hb4,le 3 (by omega),Qo]
          have ix:=fun l cap=>Kn (l:=l) (sz:=4) (off:=0) (n:=ks.length+1) (cap:=cap) (i:=ks.length) (by omega)
          have hcl:=hR.len
          have b0:∀ X:Box,(T.set lk X)[lk]?=some X:=fun X=>by rw [List.getElem?_set_self (List.getElem?_eq_some_iff.1 hbx).1]
          have lne:l≠lk:=fun e=>N1.nl (by simp [e])
          have b1:∀ X:Box,(T.set lk X)[l]?=T[l]?:=fun X=>List.getElem?_set_ne (Ne.symm lne)
          have b2:∀ X Y:Box,((T.set lk X).set l Y)[lk]?=some X:=fun X Y=>by rw [List.getElem?_set_ne lne,b0]
          have b3:∀ X Y Z:Box,((T.set lk X).set l Y).set lk Z=(T.set lk Z).set l Y:=fun X Y Z=>by rw [List.set_comm _ _ lne,List.set_set]
          have drc:∀ X:List LV,List.drop (ks.length * 4+4) (cells++X)=List.drop 4 X:=fun X=>by rw [← hcl,List.drop_length_add_append]
          have kb:=Zok ks
          refine Zpj (l:=nB h1 h3+lk) (xs:=cells++List.replicate sl .dead) (by simp) (by rw [Xa];exact hbx) (by simp [hcl];omega) hcap (by simp [most];omega) (fun hin=>?_) (fun hout cap' slack hc hs=>?_)
          ·obtain ⟨s',rfl⟩:∃ s',sl=s'+4:=⟨sl - 4,by simp at hin;omega⟩
           have hrep:List.replicate (s'+4) LV.dead=.dead::.dead::.dead::.dead::List.replicate s' .dead:=rfl
           have hle:∀ s':Nat,ks.length * 4+4≤cells.length+(s'+1+1+1+1):=fun s'=>by omega
           simp (disch:=omega) [e0,e4',e5,a6,Xa,ZgG,Zdo,Zaw,box,le 3 (by omega),tk,dr,ix,b1,b2,b3,b0,haF,haC,drc,hrep,hle]
           have ndk:=(List.nodup_append.1 N1.nd).2.1
           rw [List.nodup_cons] at ndk
           obtain ⟨gr,crs,fpr,q1,q2,q3,q4,q5,q6,q7⟩:=N1.app (T':=(T.set lk (some (cells++[N 1,N 0,.sl true true 1 [],.sl true true 1 []]++List.replicate s' .dead))).set l (some (A++[N op,N n,cT,.ha (nB h1 h3+lk) 4 0 (ks.length+1) cap]++B))) (lk:=lk) (cap:=cap) (cells:=cells) (f':=f') hTI hR (by simp)
            (by rw [List.getElem?_set_self (by rw [List.length_set];exact (List.getElem?_eq_some_iff.1 box).1)]) (fun k hk hkl hkn=>by rw [List.getElem?_set_ne (Ne.symm hkl),List.getElem?_set_ne (fun e=>hkn (by simp [e]))]) (fun k hk=>by rw [List.getElem?_set_ne (fun e=>N1.nl (by rw [e];simp [hk])),List.getElem?_set_ne (fun e=>ndk.1 (by rw [e];exact hk))])
            (b2 _ _) (by simp at hin;omega) ndk.2 (by simp only [List.mem_append,not_or];exact ⟨fun h=>(List.nodup_append.1 N1.nd).2.2 lk h lk (by simp) rfl,ndk.1⟩) lne (fun k hk=>by simp [hk]) (.inl (by simp)) (by omega)
           simp only [List.append_assoc,List.cons_append,List.nil_append] at q1 q2
           exact ⟨_,gr,crs,fpr,i3,k3,rfl,hk3,q1,q2,q3,q4,q5,q6,by omega⟩
          ·have c0:∀ X Y:Box,(T.set lk X++[Y])[l]?=T[l]?:=fun X Y=>by rw [List.getElem?_append_left (by rw [List.length_set];exact (List.getElem?_eq_some_iff.1 box).1),b1]
           have c1:∀ X Y Z:Box,(T.set lk X++[Y]).set l Z=(T.set lk X).set l Z++[Y]:=fun X Y Z=>List.set_append_left _ _ (by rw [List.length_set];exact (List.getElem?_eq_some_iff.1 box).1)
           have c2:∀ X Y:Box,(T.set lk X++[Y])[T.length]?=some Y:=fun X Y=>by rw [List.getElem?_append_right (by simp)];simp
           have c3:∀ X Y Z:Box,((T.set lk X).set l Y++[Z])[T.length]?=some Z:=fun X Y Z=>by rw [List.getElem?_append_right (by simp)];simp
           have c4:∀ X Y Z:Box,(T.set lk X++[Y]).set T.length Z=T.set lk X++[Z]:=fun X Y Z=>by rw [List.set_append_right _ _ (by simp)];simp
           have c5:∀ X Y Z W:Box,((T.set lk X).set l Y++[Z]).set T.length W=(T.set lk X).set l Y++[W]:=fun X Y Z W=>by rw [List.set_append_right _ _ (by simp)];simp
           have hle:∀ s':Nat,ks.length * 4+4≤cells.length+(s'+1+1+1+1):=fun s'=>by omega
           simp (disch:=omega) [e0,e4',e5,a6,Xa,ZgG,Zdo,Zaw,box,le 3 (by omega),tk,dr,ix,b1,b2,b3,b0,haF,haC,drc,c0,c1,c2,c3,c4,c5,hle]
           have ndk:=(List.nodup_append.1 N1.nd).2.1
           rw [List.nodup_cons] at ndk
           have ltf:=hR.lt
           obtain ⟨gr,crs,fpr,q1,q2,q3,q4,q5,q6,q7⟩:=N1.app (T':=(T.set lk (some (List.replicate (cells.length+sl) .dead))).set l (some (A++[N op,N n,cT,.ha (nB h1 h3+T.length) 4 0 (ks.length+1) cap']++B))++[some (cells++[N 1,N 0,.sl true true 1 [],.sl true true 1 []]++List.replicate slack .dead)]) (lk:=T.length) (cap:=cap') (cells:=cells) (f':=f') hTI hR (by simp)
            (by rw [List.getElem?_append_left (by simp;exact (List.getElem?_eq_some_iff.1 box).1),List.getElem?_set_self (by rw [List.length_set];exact (List.getElem?_eq_some_iff.1 box).1)]) (fun k hk hkl hkn=>by rw [List.getElem?_append_left (by simpa using hk),List.getElem?_set_ne (Ne.symm hkl),List.getElem?_set_ne (fun e=>hkn (by simp [e]))]) (fun k hk=>by rw [List.getElem?_append_left (by simpa using ltf k hk),List.getElem?_set_ne (fun e=>N1.nl (by rw [e];simp [hk])),List.getElem?_set_ne (fun e=>ndk.1 (by rw [e];exact hk))])
            (c3 _ _ _) (by simp at hs ⊢;omega) ndk.2 (by simp only [List.mem_append,not_or];exact ⟨fun h=>by have:=hTI.lt _ h;omega,fun h=>by have:=ltf _ h;omega⟩) (by have:=(List.getElem?_eq_some_iff.1 box).1;omega) (fun k hk=>by simp [hk]) (.inr (Nat.le_refl _)) (by omega)
           simp only [List.append_assoc,List.cons_append,List.nil_append] at q1 q2
           exact ⟨_,gr,crs,fpr,i3,k3,rfl,hk3,q1,q2,q3,q4,q5,q6,by omega⟩
        ·rcases hK with ⟨rfl,rfl,rfl,u,sz,rfl⟩ | ⟨hne,rfl,lk,cap,sl,cells,f',rfl,rfl,hbx,hsl,hcap,hR⟩
         ·have hn1:ltB 1 0=false:=by rw [Qg];omega
          simp (disch:=omega) [e0,e4',e5,a6,Xa,box,hb0,hb1,hb2,hb3,hb4,le 3 (by omega),Qo,hn1]
          exact same i3 k3 hk3
         ·simp (disch:=omega) [e0,e4',e5,a6,Xa,box,hb0,hb1,hb2,hb3,hb4,le 3 (by omega),Qo]
          (with_reducible first | refine Qn (fun hb5=>?_) (fun hb5=>?_) | refine Qm (fun hb5=>?_) (fun hb5=>?_))
          ·obtain ⟨ka,kb,kr,rfl⟩:∃ ka kb kr,ks=ka::kb::kr:=by
            rw [Qi] at hb5
            match ks,hb5 with
            | a::b::r,_=>exact ⟨a,b,r,rfl⟩
            | [a],h=>simp at h
            | [],h=>simp at h
           simp only [TR] at hR
           obtain ⟨ca,_,fa,_,rfl,rfl,ha,cb,cr,fb,fr,rfl,rfl,hb,hr⟩:=hR
           have ala:=ha.al
           have alb:=hb.al
           have sha:=ha.sh
           have shb:=hb.sh
           obtain ⟨x0,x1,x2,x3,rfl⟩:=len4 ha.len
           obtain ⟨y0,y1,y2,y3,rfl⟩:=len4 hb.len
           have ix0:=Zq7 (l:=nB h1 h3+lk) (sz:=4) (off:=0) (n:=(ka::kb::kr).length) (cap:=cap) (by simp)
           have ix1:=Kn (l:=nB h1 h3+lk) (sz:=4) (off:=0) (n:=(ka::kb::kr).length) (cap:=cap) (i:=1) (by simp)
           have b0:∀ X:Box,(T.set lk X)[lk]?=some X:=fun X=>by rw [List.getElem?_set_self (List.getElem?_eq_some_iff.1 hbx).1]
           have lne:l≠lk:=fun e=>N1.nl (by simp [e])
           have b1:∀ X:Box,(T.set lk X)[l]?=T[l]?:=fun X=>List.getElem?_set_ne (Ne.symm lne)
           have c0:∀ X:Box,(T++[X])[lk]?=T[lk]?:=fun X=>List.getElem?_append_left (List.getElem?_eq_some_iff.1 hbx).1
           have c1:∀ X:Box,(T++[X])[l]?=T[l]?:=fun X=>List.getElem?_append_left (List.getElem?_eq_some_iff.1 box).1
           have c2:∀ X Y:Box,(T++[X]).set lk Y=T.set lk Y++[X]:=fun X Y=>List.set_append_left _ _ (List.getElem?_eq_some_iff.1 hbx).1
           have c3:∀ X Y:Box,(T.set lk Y++[X])[lk]?=some Y:=fun X Y=>by rw [List.getElem?_append_left (by rw [List.length_set];exact (List.getElem?_eq_some_iff.1 hbx).1),b0]
           have c4:∀ X Y:Box,(T.set lk Y++[X])[l]?=T[l]?:=fun X Y=>by rw [List.getElem?_append_left (by rw [List.length_set];exact (List.getElem?_eq_some_iff.1 box).1),b1]
           have c5:∀ X Y Z:Box,(T.set lk Y++[X]).set lk Z=T.set lk Z++[X]:=fun X Y Z=>by rw [List.set_append_left _ _ (by rw [List.length_set];exact (List.getElem?_eq_some_iff.1 hbx).1),List.set_set]
           simp only [List.length_cons] at ix0 ix1 hb5
           simp at ix1 hb5
           simp only [List.append_assoc,List.cons_append,List.nil_append] at hbx
           simp (disch:=omega) [e0,e4',e5,a6,Xa,ZgG,Zdo,Zaw,box,hbx,ix0,ix1,b0,b1,hb0,hb1,hb2,hb3,hb4,hb5,le 3 (by omega),ala,alb,Qs,c0,c1,c2,c3,c4,c5]
           have nd:=N1.nd
           have nl:=N1.nl
           have pm:(f1++lk::(fa++(fb++fr))).Perm (f1++lk::(fb++(fa++fr))):=by
            refine List.Perm.append_left _ (List.Perm.cons _ ?_)
            rw [← List.append_assoc,← List.append_assoc]
            exact List.Perm.append_right _ List.perm_append_comm
           have ndk:=(List.nodup_append.1 nd).2.1
           rw [List.nodup_cons] at ndk
           have hlk:∀ k∈fa++(fb++fr),k≠lk:=fun k hk e=>ndk.1 (by rw [← e];exact hk)
           have hfr:∀ (X:Box) (k:Nat),k < T.length→k≠lk→(T.set lk X++[none])[k]?=T[k]?:=fun X k hk hkn=>by rw [List.getElem?_append_left (by simpa using hk),List.getElem?_set_ne (Ne.symm hkn)]
           have sha2:=sha.sh
           simp only [shareAll] at sha2 shb
           obtain ⟨gr,crs,fpr,q1,q2,q3,q4,q5,q6,q7⟩:=N1.hole (T.set lk (some (share y0::share y1::share y2::share y3::share (share x0)::share (share x1)::share (share x2)::share (share x3)::(cr++List.replicate sl LV.dead)))++[none]) (.mk op n nl1 ty false (kb::ka::kr)) [N op,N n,cT,.ha (nB h1 h3+lk) 4 0 (ka::kb::kr).length cap] (f1++lk::(fb++(fa++fr))) (by simp)
            (by rw [c4];exact N1.box) (fun k hk hkl hkn=>hfr _ k hk (fun e=>hkn (by simp [e])))
            (by
             simp only [TN]
             refine ⟨cT,_,f1,_,rfl,rfl,hTI.frame fun k hk=>hfr _ k (hTI.lt k hk) (fun e=>(List.nodup_append.1 nd).2.2 k hk lk (by simp) e),.inr ⟨by simp,trivial,lk,cap,sl,share y0::share y1::share y2::share y3::share (share x0)::share (share x1)::share (share x2)::share (share x3)::cr,_,rfl,rfl,c3 _ _,hsl,hcap,?_⟩⟩
             simp only [TR]
             refine ⟨[share y0,share y1,share y2,share y3],_,fb,_,rfl,rfl,shb.frame fun k hk=>hfr _ k (hb.lt k hk) (hlk k (by simp [hk])),[share (share x0),share (share x1),share (share x2),share (share x3)],cr,fa,fr,rfl,rfl,sha2.frame fun k hk=>hfr _ k (ha.lt k hk) (hlk k (by simp [hk])),hr.frame fun k hk=>hfr _ k (hr.lt k hk) (hlk k (by simp [hk]))⟩)
            (pm.nodup_iff.1 nd) (fun h=>nl (pm.mem_iff.2 h)) (fun k hk=>.inl (pm.mem_iff.2 hk))
            (by simp only [GTerm.wf,wfs] at w ⊢;exact ⟨w.1,w.2.1,w.2.2.1,by simpa using w.2.2.2.1,w.2.2.2.2.2.1,w.2.2.2.2.1,w.2.2.2.2.2.2⟩) (by simp only [GTerm.fl,fls] at f ⊢;exact ⟨f.1,f.2.2.1,f.2.1,f.2.2.2⟩)
           simp only [GTerm.size,WV] at q7
           exact ⟨_,gr,crs,fpr,i3,k3,rfl,hk3,q1,q2,q3,q4,q5,q6,by omega⟩
          ·simp (disch:=omega) [e0,e4',e5,a6,Xa,box,hb0,hb1,hb2,hb3,hb4,hb5,le 3 (by omega)]
           exact same i3 k3 hk3
   ·rintro t2 hh hf2 ⟨T',gr,crs,fpr,i3,k3,rfl,hk3,q1,q2,q3,q4,q5,q6,q7⟩
    (have z4:=hf2 4 (by kernel_rfl);have z5:=hf2 5 (by kernel_rfl);clear hf2;simp [e4',e5] at z4 z5)
    have c4:=q2.len
    have cal:=q2.al
    simp (disch:=omega) [z4,z5,Xa,Zaw,ZqT,ZqZ,q1,c4,cal,List.take_of_length_le,List.drop_of_length_le]
    exact sp_done (i:=i) (j:=k) lh (.inr rfl) (by simp [z4]) rfl hk3 (q2.frame (T':=T'.set r5 (some [LV.dead,LV.dead,LV.dead,LV.dead])) fun k hk=>List.getElem?_set_ne (fun e=>q4 (by rw [e];exact hk))) q3 q5 q6 q7
end
def TV {α:Type} (e:α→LV) (h:List Box) (l:List α) (c:LV) (fp:List Nat):Prop :=
 (fp=[]∧∃ u,c=.sl u false 1 (l.map fun x=>[e x]))∨(∃ k cap sl,fp=[k]∧c=.ha k 1 0 l.length cap∧h[k]?=some (some (l.map e++List.replicate sl .dead))∧l.length+sl=cap)
theorem Zn9 {α:Type} (v:α→Value) (h:List Box):∀ l:List α,JC (l.map fun x=>[LV.sc (v x)]) 1 (l.map fun x=>LV.sc (v x)) h h
 | []=>by simp [JC]
 | x::l=>by
  simp only [List.map_cons,JC]
  refine ⟨[.sc (v x)],_,h,by simp,rfl,?_,Zn9 v h l⟩
  simp only [YI,Fz]
  exact ⟨.sc (v x),[],h,rfl,⟨rfl,rfl⟩,rfl,rfl⟩
theorem TV.fz {α:Type} {v:α→Value} {h:List Box} {l:List α} {c:LV} {fp:List Nat} (t:TV (fun x=>.sc (v x)) h l c fp) {h':List Box} (hh:∀ k∈fp,h'[k]?=h[k]?) :
  ∃ u h1,Fz (.sl u false 1 (l.map fun x=>[LV.sc (v x)])) c h' h1∧h1.length=h'.length∧∀ k,k ∉ fp→h1[k]?=h'[k]?:=by
 rcases t with ⟨rfl,u,rfl⟩ | ⟨k,cap,sl,rfl,rfl,h3,h4⟩
 ·exact ⟨u,h',by simp only [Fz];exact .inl (by simp),rfl,fun _ _=>rfl⟩
 ·refine ⟨true,h'.set k none,?_,by simp,fun j hj=>?_⟩
  ·simp only [Fz]
   refine .inr ⟨trivial,trivial,k,cap,l.map fun x=>.sc (v x),List.replicate sl .dead,by simp,by rw [hh k (by simp)];exact h3,by simp;omega,by simp;omega,Zn9 v _ l⟩
  ·rw [List.getElem?_set_ne (fun e=>hj (by simp [e]))]
def ZiM (r:LV):Prop:=∃ (s:GSys) (cs:List LV),r=.agg cs∧shareAll cs=s.cells∧QA 0 cs∧Wh cs=true∧cs.length=4∧s.wf
def Hq (h1 h3:List Box) (c z:Box) (T:List Box):List Box:=h1++c::(h3++(z::T))
def nQ (h1 h3:List Box):Nat:=h1.length+h3.length+2
def pQ (h1 h3:List Box):Nat:=h1.length+h3.length+1
section
variable {h1 h3 T:List Box} {c z:Box}
theorem Hq_at (k:Nat):(Hq h1 h3 c z T)[h1.length+h3.length+1+k]?=(z::T)[k]?:=by
 unfold Hq
 rw [List.getElem?_append_right (by omega),show h1.length+h3.length+1+k - h1.length=(h3.length+k)+1 by omega,List.getElem?_cons_succ,List.getElem?_append_right (by omega)]
 congr 1;omega
theorem X1 (l:Nat):(Hq h1 h3 c z T)[nQ h1 h3+l]?=T[l]?:=by
 rw [show nQ h1 h3+l=h1.length+h3.length+1+(l+1) by unfold nQ;omega,Hq_at];rfl
theorem Zk:(Hq h1 h3 c z T)[nQ h1 h3]?=T[0]?:=X1 0
theorem ZE:(Hq h1 h3 c z T)[pQ h1 h3]?=some z:=by
 rw [show pQ h1 h3=h1.length+h3.length+1+0 by unfold pQ;omega,Hq_at];rfl
theorem ZnP (k:Nat) (x:Box):(Hq h1 h3 c z T).set (h1.length+h3.length+1+k) x=h1++c::(h3++(z::T).set k x):=by
 unfold Hq
 rw [List.set_append_right _ _ (by omega),show h1.length+h3.length+1+k - h1.length=(h3.length+k)+1 by omega,List.set_cons_succ,List.set_append_right _ _ (by omega),show h3.length+k - h3.length=k by omega]
theorem Vi (l:Nat) (x:Box):(Hq h1 h3 c z T).set (nQ h1 h3+l) x=Hq h1 h3 c z (T.set l x):=by
 rw [show nQ h1 h3+l=h1.length+h3.length+1+(l+1) by unfold nQ;omega,ZnP];rfl
theorem Ky (x:Box):(Hq h1 h3 c z T).set (nQ h1 h3) x=Hq h1 h3 c z (T.set 0 x):=Vi 0 x
theorem ZF (x:Box):(Hq h1 h3 c z T).set (pQ h1 h3) x=Hq h1 h3 c x T:=by
 rw [show pQ h1 h3=h1.length+h3.length+1+0 by unfold pQ;omega,ZnP];rfl
theorem ZmK:(Hq h1 h3 c z T).length=nQ h1 h3+T.length:=by unfold Hq nQ;simp;omega
theorem Hq_app (S:List Box):Hq h1 h3 c z T++S=Hq h1 h3 c z (T++S):=by unfold Hq;simp
theorem Kx {P:Program} {D:Dr} {K:St→Prop} {d:Nat} {f:FuncId} {rest:List LV} {Q:LV→Prop} {t:Nat→LV} {ct:LV} {i k:Int} (cc:Q0 P D f rest Q) (hct:TL.share ct=D.lv) (hk:WR D i k)
  (hh:∀ r i' k',WR D i' k'→Q r→K { t:=upd t d r,h:=Hq h1 h3 (some [ct,N i',N k']) z T }):YY P .fr f (.ptr h1.length 0::rest) (some d) K { t:=t,h:=Hq h1 h3 (some [ct,N i,N k]) z T } :=
 Qp cc hct hk hh
theorem Hq_take:(Hq h1 h3 c z T).take (h1.length+h3.length+1)=h1++c::h3:=by
 unfold Hq
 rw [show h1++c::(h3++(z::T))=(h1++c::h3)++(z::T) by simp,List.take_append_of_le_length (by simp;omega),List.take_of_length_le (by simp;omega)]
end
theorem fz_sysc (s:GSys) (h:List Box):YI s.cells s.cells h h:=by
 simp only [GSys.cells,YI,Fz]
 exact ⟨_,_,h,rfl,⟨rfl,rfl⟩,_,_,h,rfl,.inl ⟨rfl,rfl⟩,_,_,h,rfl,.inl ⟨rfl,rfl⟩,_,_,h,rfl,.inl ⟨rfl,rfl⟩,rfl,rfl⟩
def SqR (D:Dr) (h1 h3:List Box) (ct:LV) (r:LV) (h':List Box):Prop :=
 ∃ t h'' k,Fz t r h' h''∧h1.length+h3.length+1≤k∧k≤h''.length∧Low k t∧(∀ l xs,l < k→h''[l]?=some (some xs)→QA k xs)∧∃ i' k',WR D i' k'∧ZiM t∧h''.take k=h1++some [ct,N i',N k']::h3
theorem Zf9 {D:Dr} {h1 h3 T:List Box} {ct:LV} {i j i' k':Int} {e:Exit} {s:St} {sz:Int} {P Q:List Int} {B:List Bool} {cP cQ cB:LV} {f1 f2 f3:List Nat} (lh:LowH (h1++some [ct,N i,N j]::h3)) (he:e=.normal∨e=.ret) (h4:s.t 2=.ptr (pQ h1 h3) 0)
  (hh:s.h=Hq h1 h3 (some [ct,N i',N k']) (some [N sz,cP,cQ,cB]) T) (hk:WR D i' k') (tP:TV (fun x=>.sc (.int .i64 x)) s.h P cP f1) (tQ:TV (fun x=>.sc (.int .i64 x)) s.h Q cQ f2) (tB:TV (fun x=>.sc (.bool x)) s.h B cB f3) (nd:(f1++(f2++f3)).Nodup)
  (lo:∀ k∈f1++(f2++f3),nQ h1 h3≤k) (wf:I64 sz∧P.length≤1099511627776∧Q.length≤1099511627776∧B.length≤1099511627776∧(∀ n∈P,I64 n)∧∀ n∈Q,I64 n):Post [.cell 2 true 4] (h1.length+h3.length+1) (SqR D h1 h3 ct) e s:=by
 have sP:∀ {α:Type} {v:α→Value} {l:List α} {c:LV} {f:List Nat} {h:List Box},TV (fun x=>.sc (v x)) h l c f→TV (fun x=>.sc (v x)) h l c f:=fun h=>h
 have hsh:∀ {α:Type} {v:α→Value} {l:List α} {c:LV} {f:List Nat} {h h':List Box},TV (fun x=>.sc (v x)) h l c f→(∀ k∈f,h'[k]?=h[k]?)→TV (fun x=>.sc (v x)) h' l c f:=by
  intro α v l c f h h' t hf
  rcases t with t | ⟨k,cap,sl,rfl,t2,t3,t4⟩
  ·exact .inl t
  ·exact .inr ⟨k,cap,sl,rfl,t2,by rw [hf k (by simp)];exact t3,t4⟩
 have hG:∀ k,nQ h1 h3≤k→(Hq h1 h3 (some [ct,N i',N k']) (some (shareAll [N sz,cP,cQ,cB])) T)[k]?=s.h[k]?:=by
  intro k hk
  obtain ⟨q,rfl⟩:∃ q,k=nQ h1 h3+q:=⟨k - nQ h1 h3,by omega⟩
  rw [hh,X1,X1]
 rw [List.nodup_append,List.nodup_append] at nd
 obtain ⟨d1,⟨d2,d3,d4⟩,d5⟩:=nd
 obtain ⟨u1,g1,z1,l1,r1⟩:=tP.fz (h':=Hq h1 h3 (some [ct,N i',N k']) (some (shareAll [N sz,cP,cQ,cB])) T) (fun k hk=>hG k (lo k (by simp [hk])))
 obtain ⟨u2,g2,z2,l2,r2⟩:=tQ.fz (h':=g1) (fun k hk=>by rw [r1 k (fun h=>d5 k h k (by simp [hk]) rfl)];exact hG k (lo k (by simp [hk])))
 obtain ⟨u3,g3,z3,l3,r3⟩:=tB.fz (h':=g2) (fun k hk=>by rw [r2 k (fun h=>d4 k h k hk rfl),r1 k (fun h=>d5 k h k (by simp [hk]) rfl)];exact hG k (lo k (by simp [hk])))
 have fz:YI [N sz,.sl u1 false 1 (P.map fun x=>[LV.sc (.int .i64 x)]),.sl u2 false 1 (Q.map fun x=>[LV.sc (.int .i64 x)]),.sl u3 false 1 (B.map fun x=>[LV.sc (.bool x)])] [N sz,cP,cQ,cB] (Hq h1 h3 (some [ct,N i',N k']) (some (shareAll [N sz,cP,cQ,cB])) T) g3:=by
  simp only [YI]
  exact ⟨_,_,_,rfl,by simp [Fz],_,_,_,rfl,z1,_,_,_,rfl,z2,_,_,_,rfl,z3,rfl,rfl⟩
 have hlen:g3.length=(Hq h1 h3 (some [ct,N i',N k']) (some (shareAll [N sz,cP,cQ,cB])) T).length:=by rw [l3,l2,l1]
 have hfr:∀ k,k < h1.length+h3.length+1→g3[k]?=(Hq h1 h3 (some [ct,N i',N k']) (some (shareAll [N sz,cP,cQ,cB])) T)[k]?:=by
  intro k hk
  have hn:∀ f:List Nat,(∀ x∈f,nQ h1 h3≤x)→k ∉ f:=fun f hf h=>by have:=hf k h;unfold nQ at this;omega
  rw [r3 k (hn f3 fun x hx=>lo x (by simp [hx])),r2 k (hn f2 fun x hx=>lo x (by simp [hx])),r1 k (hn f1 fun x hx=>lo x (by simp [hx]))]
 refine ⟨he,[.agg [N sz,cP,cQ,cB]],⟨s.t,Hq h1 h3 (some [ct,N i',N k']) (some (shareAll [N sz,cP,cQ,cB])) T⟩,(Hq h1 h3 (some [ct,N i',N k']) (some (shareAll [N sz,cP,cQ,cB])) T).length,?_,by rw [ZmK];unfold nQ;omega,Nat.le_refl _,.inl rfl,?_⟩
 ·simp only [Yd,Zfn,h4,hh,ZE,List.length_cons,List.length_nil,Wr,if_true,ZF]
 ·rw [List.take_of_length_le (Nat.le_refl _)]
  have htk:g3.take (h1.length+h3.length+1)=h1++some [ct,N i',N k']::h3:=by
   rw [← Hq_take (c:=some [ct,N i',N k']) (z:=some (shareAll [N sz,cP,cQ,cB])) (T:=T)]
   apply List.ext_getElem?
   intro k
   rw [List.getElem?_take,List.getElem?_take]
   split
   ·rename_i hlt;exact hfr k hlt
   ·rfl
  have iw:ZiM (.agg [N sz,.sl u1 false 1 (P.map fun x=>[LV.sc (.int .i64 x)]),.sl u2 false 1 (Q.map fun x=>[LV.sc (.int .i64 x)]),.sl u3 false 1 (B.map fun x=>[LV.sc (.bool x)])]) :=
   ⟨⟨sz,false,P,false,Q,false,B⟩,_,rfl,by simp,by simp,rfl,rfl,wf⟩
  refine ⟨_,g3,h1.length+h3.length+1,by simp only [ZaJ,Fz];exact ⟨_,rfl,fz⟩,Nat.le_refl _,by rw [hlen,ZmK];unfold nQ;omega,by simp,fun l xs hl hx=>?_,i',k',hk,iw,htk⟩
  refine Zmj lh (i':=i') (k':=k') l xs ?_
  rw [← htk,List.getElem?_take,if_pos hl];exact hx
theorem DS.form (d:DS):∃ P Q B,d.lv=.agg [N d.sys.size,OI P,OI Q,OBl B]∧P=d.sys.plus∧Q=d.sys.times∧B=d.sys.below:=by
 cases d<;>exact ⟨_,_,_,rfl,rfl,rfl,rfl⟩
theorem ZpH {α:Type} (e:α→LV) (l:List α) (ex:List LV) (i:Nat) (v:α) (h:i < l.length):List.take i (l.map e++ex)++e v::List.drop (i+1) (l.map e++ex)=(l.set i v).map e++ex:=by
 rw [List.take_append_of_le_length (by simp;omega),List.drop_append_of_le_length (by simp;omega),List.set_eq_take_append_cons_drop,if_pos h,List.map_append,List.map_cons,List.map_take,List.map_drop]
 simp
theorem tk_get {α:Type} (e:α→LV) (l:List α) (ex:List LV) (i:Nat) (h:i < l.length):List.take 1 (List.drop i (l.map e++ex))=[e l[i]]:=by
 rw [List.drop_append_of_le_length (by simp;omega),List.drop_eq_getElem_cons (by simpa using h)]
 simp
theorem TV.ha {α:Type} {e:α→LV} {h:List Box} {l:List α} {k cap sl:Nat} (h1:h[k]?=some (some (l.map e++List.replicate sl .dead))) (h2:l.length+sl=cap):TV e h l (.ha k 1 0 l.length cap) [k]:=.inr ⟨k,cap,sl,rfl,rfl,h1,h2⟩
section
variable (D:Dr) (ok:D.ok)
include ok
theorem Zkx:Ki Tryz.prog D J6 [] ZiM:=by
 intro h1 h3 ct i k H1 H3 hcc hk
 have hct:=hcc.share
 have hl:(h1++some [ct,N i,N k]::h3).length=h1.length+h3.length+1:=by simp;omega
 have ez:ZiM (.agg (⟨0,false,[],false,[],false,[]⟩:GSys).cells):=⟨⟨0,false,[],false,[],false,[]⟩,_,rfl,by simp,by simp,rfl,rfl,by simp [GSys.wf,I64]⟩
 refine QN.of_low (R:=fun r h'=>∃ i' k',WR D i' k'∧ZiM r∧h'=h1++some [ct,N i',N k']::h3) (Jt Zap) ⟨_,_,i,k,hk,ez,rfl⟩ fun lh=>?_
 have hex:∃ r h',SqR D h1 h3 ct r h':=⟨.agg (⟨0,false,[],false,[],false,[]⟩:GSys).cells,h1++some [ct,N i,N k]::h3,.agg (⟨0,false,[],false,[],false,[]⟩:GSys).cells,h1++some [ct,N i,N k]::h3,h1.length+h3.length+1,by simp only [Fz];exact ⟨_,rfl,fz_sysc _ _⟩,Nat.le_refl _,by rw [hl];exact Nat.le_refl _,by simp,fun l xs h' hx=>Zmj lh l xs hx,i,k,hk,ez,by rw [← hl,List.take_of_length_le (Nat.le_refl _)]⟩
 refine QN.freeze (QN.mono (R:=SqR D h1 h3 ct) (QN.of_codeOf Zap Qz (by simp) hex ?_) (fun r h' hr=>by
  obtain ⟨t,h'',k,z1,z2,z3,z4,z5,i',k',z6,z7,z8⟩:=hr
  exact ⟨t,h'',k,z1,by rw [hl];exact z2,z3,z4,z5,i',k',z6,z7,z8⟩))
 rw [hl]
 simp (disch:=omega) [Zah]
 have hy:Jf (h3++[some [N 0,.sl true true 1 [],.sl true true 1 [],.sl true true 1 []]]):=H3.one (by simp [JO]) (by simp)
 have wD:∀ r,(∃ d:DS,d.ok=true∧r=d.lv)→Wf r:=by
  rintro r ⟨d,hd,rfl⟩
  obtain ⟨P,Q,B,e,_⟩:=DS.form d
  rw [e]
  have w1:=Za8 (fun n:Int=>Value.int .i64 n) true P.isEmpty P (by cases P<;>simp)
  have w2:=Za8 (fun n:Int=>Value.int .i64 n) true Q.isEmpty Q (by cases Q<;>simp)
  have w3:=Za8 (fun n:Bool=>Value.bool n) true B.isEmpty B (by cases B<;>simp)
  simp only [Wf,WI] at w1 w2 w3 ⊢
  exact ⟨trivial,w1,w2,w3,trivial⟩
 refine WG ((ZjA D ok).hard.thaw wD (by simp) H1 hy hcc hk) ?_
 rintro y h' ⟨t,i1,k1,bs,hk1,⟨d,hd,rfl⟩,hth,rfl⟩
 obtain ⟨P,Q,B,e,eP,eQ,eB⟩:=DS.form d
 obtain ⟨s1,s2⟩:=DS.sound d hd
 have ts:=GSys.sys_of s1
 have lo:=ts.lo
 have h16:=ts.hi
 have hsq:4≤d.sys.size * d.sys.size:=Int.le_trans (by omega) (Int.mul_le_mul lo lo (by omega) (by omega))
 have lP:=ts.lp
 have lQ:=ts.lt
 have lB:=ts.lb
 have hwf:=s2
 unfold GSys.wf at hwf
 rw [← eP,← eQ,← eB] at hwf
 rw [← eP] at lP
 rw [← eQ] at lQ
 rw [← eB] at lB
 rw [e] at hth
 generalize d.sys.size=sz at *
 clear e eP eQ eB
 obtain ⟨ys,rfl,y1,b1,ys1,b2,⟨rfl,rfl⟩,⟨y2,b3,ys2,b4,t2,⟨y3,b5,ys3,b6,t3,⟨y4,b7,ys4,b8,t4,⟨rfl,rfl⟩,rfl,rfl⟩,rfl,rfl⟩,rfl,rfl⟩,rfl,rfl⟩:=hth
 rcases (ZnO (fun n:Int=>Value.int .i64 n)).1 t2 with ⟨rfl,_,_⟩ | ⟨_,hne2,sl2,cap2,⟨hc2,hs2⟩,rfl,rfl⟩
 ·simp at lP;omega
 rcases (ZnO (fun n:Int=>Value.int .i64 n)).1 t3 with ⟨rfl,_,_⟩ | ⟨_,hne3,sl3,cap3,⟨hc3,hs3⟩,rfl,rfl⟩
 ·simp at lQ;omega
 rcases (ZnO (fun n:Bool=>Value.bool n)).1 t4 with ⟨rfl,_,_⟩ | ⟨_,hne4,sl4,cap4,⟨hc4,hs4⟩,rfl,rfl⟩
 ·simp at lB;omega
 clear t2 t3 t4
 have hH:∀ (c z:Box) (T:List Box),h1++c::((h3++[z])++T)=Hq h1 h3 c z T:=fun c z T=>by simp [Hq]
 have hn:h1.length+((h3++[some [N 0,.sl true true 1 [],.sl true true 1 [],.sl true true 1 []]]).length+1)=nQ h1 h3:=by unfold nQ;simp;omega
 rw [hH,hn]
 simp only [List.nil_append,List.append_nil,List.cons_append,List.length_nil,List.length_cons,Nat.add_zero,Nat.zero_add]
 simp (disch:=omega) [Hq_app,ZmK,X1,Vi,ZE,ZF]
 rw [show nQ h1 h3+1+1=nQ h1 h3+2 from rfl]
 have hP:(Hq h1 h3 (some [ct,N i1,N k1]) (some [N 0,.sl true true 1 [],.sl true true 1 [],.sl true true 1 []]) []).length=nQ h1 h3:=by rw [ZmK];simp
 refine Kx (Y5 D ok 9 (by unfold I64;omega)) hct hk1 ?_
 rintro r i2 k2 hk2 ⟨m,rfl,m0,_,_⟩
 simp (disch:=omega)
 have I1:I64 P.length:=by unfold I64;omega
 have I2:I64 Q.length:=by unfold I64;omega
 have I3:I64 B.length:=by unfold I64;omega
 have I4:I64 (sz+1):=by unfold I64;omega
 have I5:I64 sz:=by unfold I64;omega
 have tvP:∀ (h:List Box) (l:List Int),h[nQ h1 h3]?=some (some (l.map (fun x=>LV.sc (.int .i64 x))++List.replicate sl2 .dead))→l.length=P.length→TV (fun x=>LV.sc (.int .i64 x)) h l (.ha (nQ h1 h3) 1 0 P.length cap2) [nQ h1 h3]:=fun h l e1 e2=>by rw [← e2];exact TV.ha e1 (by omega)
 have tvQ:∀ (h:List Box) (l:List Int),h[nQ h1 h3+1]?=some (some (l.map (fun x=>LV.sc (.int .i64 x))++List.replicate sl3 .dead))→l.length=Q.length→TV (fun x=>LV.sc (.int .i64 x)) h l (.ha (nQ h1 h3+1) 1 0 Q.length cap3) [nQ h1 h3+1]:=fun h l e1 e2=>by rw [← e2];exact TV.ha e1 (by omega)
 have tvB:∀ (h:List Box) (l:List Bool),h[nQ h1 h3+2]?=some (some (l.map (fun x=>LV.sc (.bool x))++List.replicate sl4 .dead))→l.length=B.length→TV (fun x=>LV.sc (.bool x)) h l (.ha (nQ h1 h3+2) 1 0 B.length cap4) [nQ h1 h3+2]:=fun h l e1 e2=>by rw [← e2];exact TV.ha e1 (by omega)
 obtain ⟨w1,w2,w3,w4,w5,w6⟩:=hwf
 have hp:h1.length+(h3.length+1)=pQ h1 h3:=by unfold pQ;omega
 (with_reducible first | refine Qn (fun c0=>?_) (fun c0=>?_) | refine Qm (fun c0=>?_) (fun c0=>?_))
 ·simp (disch:=omega) [Vi,X1,Zk,Ky,ZE,ZF,Qs,ZN,hp]
  refine Kx (Y5 D ok P.length I1) hct hk2 ?_
  rintro r i3 k3 hk3 ⟨m2,rfl,q0,_,q1⟩
  have q2:=q1 (by omega)
  obtain ⟨j,rfl⟩:∃ j:Nat,m2=j:=⟨m2.toNat,by omega⟩
  simp (disch:=omega) [Qd]
  refine Kx (Y5 D ok (sz+1) I4) hct hk3 ?_
  rintro r i4 k4 hk4 ⟨v,rfl,v0,v1,_⟩
  have le:j+1≤P.length+sl2:=by omega
  have tk:=ZpH (fun x:Int=>LV.sc (.int .i64 x)) P (List.replicate sl2 .dead) j v (by omega)
  simp (disch:=omega) [Kn (show j < P.length by omega),Vi,X1,Zk,Ky,ZE,ZF,Qs,ZN,le]
  rw [tk]
  simp (disch:=omega) [hp,ZE,ZF]
  refine Zf9 (i:=i) (j:=k) (sz:=sz) (P:=P.set j v) (Q:=Q) (B:=B) lh ?_ ?_ rfl hk4 (tvP _ _ ?_ ?_) (tvQ _ _ ?_ ?_) (tvB _ _ ?_ ?_) ?_ ?_ ⟨w1,by simpa using w2,w3,w4,fun n hn=>(List.mem_or_eq_of_mem_set hn).elim (w5 n) (fun e=>by subst e;unfold I64;omega),w6⟩
  ·simp
  ·simp
  ·simp [Zk]
  ·simp
  ·simp [X1]
  ·simp
  ·simp [X1]
  ·simp
  ·simp
  ·simp
 ·simp (disch:=omega)
  (with_reducible first | refine Qn (fun c1=>?_) (fun c1=>?_) | refine Qm (fun c1=>?_) (fun c1=>?_))
  ·simp (disch:=omega) [Vi,X1,Zk,Ky,ZE,ZF,Qs,ZN,hp]
   refine Kx (Y5 D ok Q.length I2) hct hk2 ?_
   rintro r i3 k3 hk3 ⟨m2,rfl,q0,_,q1⟩
   have q2:=q1 (by omega)
   obtain ⟨j,rfl⟩:∃ j:Nat,m2=j:=⟨m2.toNat,by omega⟩
   simp (disch:=omega) [Qd]
   refine Kx (Y5 D ok sz I5) hct hk3 ?_
   rintro r i4 k4 hk4 ⟨v,rfl,v0,v1,_⟩
   have le:j+1≤Q.length+sl3:=by omega
   have tk:=ZpH (fun x:Int=>LV.sc (.int .i64 x)) Q (List.replicate sl3 .dead) j v (by omega)
   simp (disch:=omega) [Kn (show j < Q.length by omega),Vi,X1,Zk,Ky,ZE,ZF,Qs,ZN,le]
   rw [tk]
   simp (disch:=omega) [hp,ZE,ZF]
   refine Zf9 (i:=i) (j:=k) (sz:=sz) (P:=P) (Q:=Q.set j v) (B:=B) lh ?_ ?_ rfl hk4 (tvP _ _ ?_ ?_) (tvQ _ _ ?_ ?_) (tvB _ _ ?_ ?_) ?_ ?_ ⟨w1,w2,by simpa using w3,w4,w5,fun n hn=>(List.mem_or_eq_of_mem_set hn).elim (w6 n) (fun e=>by subst e;unfold I64;omega)⟩
   ·simp
   ·simp
   ·simp [Zk]
   ·simp
   ·simp [X1]
   ·simp
   ·simp [X1]
   ·simp
   ·simp
   ·simp
  ·simp (disch:=omega)
   (with_reducible first | refine Qn (fun c2=>?_) (fun c2=>?_) | refine Qm (fun c2=>?_) (fun c2=>?_))
   ·simp (disch:=omega) [Vi,X1,Zk,Ky,ZE,ZF,Qs,ZN,hp]
    refine Kx (Y5 D ok B.length I3) hct hk2 ?_
    rintro r i3 k3 hk3 ⟨m2,rfl,q0,_,q1⟩
    have q2:=q1 (by omega)
    obtain ⟨j,rfl⟩:∃ j:Nat,m2=j:=⟨m2.toNat,by omega⟩
    have le:j+1≤B.length+sl4:=by omega
    simp (disch:=omega) [Kn (show j < B.length by omega),Vi,X1,Zk,Ky,ZE,ZF,Qs,ZN,le]
    rw [tk_get (fun x:Bool=>LV.sc (.bool x)) B (List.replicate sl4 .dead) j (by omega)]
    simp (disch:=omega) [Kn (show j < B.length by omega),Vi,X1,Zk,Ky,ZE,ZF,Qs,ZN,hp,le]
    rw [ZpH (fun x:Bool=>LV.sc (.bool x)) B (List.replicate sl4 .dead) j (!B[j]) (by omega)]
    refine Zf9 (i:=i) (j:=k) (sz:=sz) (P:=P) (Q:=Q) (B:=B.set j (!B[j])) lh ?_ ?_ rfl hk3 (tvP _ _ ?_ ?_) (tvQ _ _ ?_ ?_) (tvB _ _ ?_ ?_) ?_ ?_ ⟨w1,w2,w3,by simpa using w4,w5,w6⟩
    ·simp
    ·simp
    ·simp [Zk]
    ·simp
    ·simp [X1]
    ·simp
    ·simp [X1]
    ·simp
    ·simp
    ·simp
   ·simp (disch:=omega)
    (with_reducible first | refine Qn (fun c3=>?_) (fun c3=>?_) | refine Qm (fun c3=>?_) (fun c3=>?_))
    ·simp (disch:=omega) [Vi,X1,Zk,Ky,ZE,ZF,Qs,ZN,hp]
     refine Kx (dBent_ok D ok) hct hk2 ?_
     rintro r i3 k3 hk3 ⟨v,rfl,hv⟩
     simp (disch:=omega) [Vi,X1,Zk,Ky,ZE,ZF,Qs,ZN,hp]
     refine Zf9 (i:=i) (j:=k) (sz:=v) (P:=P) (Q:=Q) (B:=B) lh ?_ ?_ rfl hk3 (tvP _ _ ?_ ?_) (tvQ _ _ ?_ ?_) (tvB _ _ ?_ ?_) ?_ ?_ ⟨hv,w2,w3,w4,w5,w6⟩
     ·simp
     ·simp
     ·simp [Zk]
     ·simp
     ·simp [X1]
     ·simp
     ·simp [X1]
     ·simp
     ·simp
     ·simp
    ·simp (disch:=omega) [Vi,X1,Zk,Ky,ZE,ZF,Qs,ZN,hp]
     refine Zf9 (i:=i) (j:=k) (sz:=sz) (P:=P) (Q:=Q) (B:=B) lh ?_ ?_ rfl hk2 (tvP _ _ ?_ ?_) (tvQ _ _ ?_ ?_) (tvB _ _ ?_ ?_) ?_ ?_ ⟨w1,w2,w3,w4,w5,w6⟩
     ·simp
     ·simp
     ·simp [Zk]
     ·simp
     ·simp [X1]
     ·simp
     ·simp [X1]
     ·simp
     ·simp
     ·simp
end
theorem ZfP (p:Int→Bool):∀ (n:Nat) (g:Nat),Yk p g n=-1∨p (Yk p g n)=true
 | 0,g=>.inl rfl
 | n+1,g=>by
  unfold Yk
  split
  ·rename_i h;exact .inr h
  ·exact ZfP p n (g+1)
structure GSys.Laws (s:GSys):Prop where
 z_pl:∀ a,s.G a→s.pl 0 a=a
 o_tm:∀ a,s.G a→s.tm 1 a=a
 tm_o:∀ a,s.G a→s.tm a 1=a
 z_tm:∀ a,s.G a→s.tm 0 a=0
 tm_z:∀ a,s.G a→s.tm a 0=0
 refl:∀ a,s.G a→s.le a a=true
 comm:∀ a b,s.G a→s.G b→s.pl a b=s.pl b a
 pl_as:∀ a b c,s.G a→s.G b→s.G c→s.pl (s.pl a b) c=s.pl a (s.pl b c)
 tm_as:∀ a b c,s.G a→s.G b→s.G c→s.tm (s.tm a b) c=s.tm a (s.tm b c)
 ldis:∀ a b c,s.G a→s.G b→s.G c→s.tm a (s.pl b c)=s.pl (s.tm a b) (s.tm a c)
 rdis:∀ a b c,s.G a→s.G b→s.G c→s.tm (s.pl a b) c=s.pl (s.tm a c) (s.tm b c)
 trans:∀ a b c,s.G a→s.G b→s.G c→s.le a b=true→s.le b c=true→s.le a c=true
 pl_mo:∀ a b c,s.G a→s.G b→s.G c→s.le a b=true→s.le (s.pl a c) (s.pl b c)=true
 tm_mr:∀ a b c,s.G a→s.G b→s.G c→s.le a b=true→s.le (s.tm a c) (s.tm b c)=true
 tm_ml:∀ a b c,s.G a→s.G b→s.G c→s.le a b=true→s.le (s.tm c a) (s.tm c b)=true
 anti:∀ a b,s.G a→s.G b→s.le a b=true→s.le b a=true→a=b
 j_l:∀ a b,s.G a→s.G b→s.le a (s.join a b)=true
 j_r:∀ a b,s.G a→s.G b→s.le b (s.join a b)=true
 j_m:∀ a b c,s.G a→s.G b→s.G c→s.le a c=true→s.le b c=true→s.le (s.join a b) c=true
theorem GSys.laws {s:GSys} (hs:s.sys=true):s.Laws:=by
 have t:=GSys.sys_of hs
 have key:∀ a b c,s.G a→s.G b→s.G c→s.one a=true∧s.two a b=true∧s.three a b c=true:=by
  intro a b c ha hb hc
  have hs':=hs
  unfold GSys.sys at hs'
  rw [Bool.and_eq_true,Yc] at hs'
  have h:=hs'.2 a.toNat (by have:=ha.1;have:=ha.2;omega)
  unfold GSys.sysB at h
  rw [Bool.and_eq_true,Yc] at h
  obtain ⟨h1,h⟩:=h
  have h:=h b.toNat (by have:=hb.1;have:=hb.2;omega)
  unfold GSys.sysC at h
  rw [Bool.and_eq_true,Yc] at h
  obtain ⟨h2,h⟩:=h
  have h3:=h c.toNat (by have:=hc.1;have:=hc.2;omega)
  have e1:((a.toNat:Nat):Int)=a:=by have:=ha.1;omega
  have e2:((b.toNat:Nat):Int)=b:=by have:=hb.1;omega
  have e3:((c.toNat:Nat):Int)=c:=by have:=hc.1;omega
  rw [e1] at h1
  rw [e1,e2] at h2
  rw [e1,e2,e3] at h3
  exact ⟨h1,h2,h3⟩
 have one:∀ a,s.G a→_:=fun a ha=>(key a 0 0 ha (GSys.G0 t) (GSys.G0 t)).1
 have two:∀ a b,s.G a→s.G b→_:=fun a b ha hb=>(key a b 0 ha hb (GSys.G0 t)).2.1
 have three:∀ a b c,s.G a→s.G b→s.G c→_:=fun a b c ha hb hc=>(key a b c ha hb hc).2.2
 simp only [GSys.one,GSys.two,GSys.three,Bool.and_eq_true,Qe,Bool.or_eq_true,Bool.not_eq_true',Ql] at one two three
 have isJ:∀ a b,s.G a→s.G b→s.isJoin a b (s.join a b)=true:=fun a b ha hb=>by
  have h:=(two a b ha hb).2
  rcases ZfP (s.isJoin a b) s.size.toNat 0 with q | q
  ·unfold GSys.join at h
   omega
  ·exact q
 simp only [GSys.isJoin,Bool.and_eq_true,Yc,GSys.jn,Bool.or_eq_true,Bool.not_eq_true'] at isJ
 refine ⟨fun a ha=>(one a ha).1.1.1.1.1,fun a ha=>(one a ha).1.1.1.1.2,fun a ha=>(one a ha).1.1.1.2,fun a ha=>(one a ha).1.1.2,fun a ha=>(one a ha).1.2,fun a ha=>(one a ha).2,
  fun a b ha hb=>(two a b ha hb).1.1,fun a b c ha hb hc=>(three a b c ha hb hc).1.1.1.1,fun a b c ha hb hc=>(three a b c ha hb hc).1.1.1.2,fun a b c ha hb hc=>(three a b c ha hb hc).1.1.2,fun a b c ha hb hc=>(three a b c ha hb hc).1.2,?_,?_,?_,?_,?_,fun a b ha hb=>(isJ a b ha hb).1.1,fun a b ha hb=>(isJ a b ha hb).1.2,?_⟩
 ·intro a b c ha hb hc h1 h2
  rcases (three a b c ha hb hc).2 with h | h
  ·rw [h1] at h;simp at h
  ·rcases h.1.1.1 with g | g
   ·rw [h2] at g;simp at g
   ·exact g
 ·intro a b c ha hb hc h1
  rcases (three a b c ha hb hc).2 with h | h
  ·rw [h1] at h;simp at h
  ·exact h.1.1.2
 ·intro a b c ha hb hc h1
  rcases (three a b c ha hb hc).2 with h | h
  ·rw [h1] at h;simp at h
  ·exact h.1.2
 ·intro a b c ha hb hc h1
  rcases (three a b c ha hb hc).2 with h | h
  ·rw [h1] at h;simp at h
  ·exact h.2
 ·intro a b ha hb h1 h2
  rcases (two a b ha hb).1.2 with (h | h) | h
  ·exact h
  ·rw [h1] at h;simp at h
  ·rw [h2] at h;simp at h
 ·intro a b c ha hb hc h1 h2
  have h:=(isJ a b ha hb).2 c.toNat (by have:=hc.1;have:=hc.2;omega)
  have e3:((c.toNat:Nat):Int)=c:=by have:=hc.1;omega
  rw [e3,h1,h2] at h
  simpa using h
theorem GSys.Laws.pl2 {s:GSys} (l:s.Laws) (t:s.Tab) {a b c d:Int} (ha:s.G a) (hb:s.G b) (hc:s.G c) (hd:s.G d) (h1:s.le a c=true) (h2:s.le b d=true):s.le (s.pl a b) (s.pl c d)=true:=by
 refine l.trans _ (s.pl c b) _ (GSys.Gpl t _ _) (GSys.Gpl t _ _) (GSys.Gpl t _ _) (l.pl_mo a c b ha hc hb h1) ?_
 rw [l.comm c b hc hb,l.comm c d hc hd]
 exact l.pl_mo b d c hb hd hc h2
theorem GSys.Laws.jn2 {s:GSys} (l:s.Laws) (hs:s.sys=true) {a b c d:Int} (ha:s.G a) (hb:s.G b) (hc:s.G c) (hd:s.G d) (h1:s.le a c=true) (h2:s.le b d=true):s.le (s.join a b) (s.join c d)=true :=
 l.j_m a b _ ha hb (Vp hs hc hd) (l.trans a c _ ha hc (Vp hs hc hd) h1 (l.j_l c d hc hd)) (l.trans b d _ hb hd (Vp hs hc hd) h2 (l.j_r c d hc hd))
def Gd (s:GSys) (c:Nat) (l:List Int):Prop:=l.length=c∧∀ u∈l,s.G u
def leL (s:GSys) (a b:List Int):Prop:=∀ i,i < a.length→s.le (a.getD i 0) (b.getD i 0)=true
structure PCl (s:GSys) (P:List Int→List Int→Prop) (c c':Nat):Prop where
 zero:P (zeros c) (zeros c')
 sum:∀ a a' b b',Gd s c a→Gd s c' a'→Gd s c b→Gd s c' b'→P a a'→P b b'→P (XZ s a b) (XZ s a' b')
 join:∀ a a' b b',Gd s c a→Gd s c' a'→Gd s c b→Gd s c' b'→P a a'→P b b'→P (XU s a b) (XU s a' b')
 scale:∀ g a a',s.G g→Gd s c a→Gd s c' a'→P a a'→P (QY s g a) (QY s g a')
structure QR (s:GSys) (P:List Int→List Int→Prop) (c c' k:Nat) (a a':List Int):Prop where
 g:Gd s (k+c) a
 g':Gd s (k+c') a'
 le:leL s (a'.take k) (a.take k)
 p:P (a.drop k) (a'.drop k)
theorem Gd.drop {s:GSys} {k c:Nat} {a:List Int} (h:Gd s (k+c) a):Gd s c (a.drop k):=⟨by rw [List.length_drop,h.1];omega,fun u hu=>h.2 u (List.mem_of_mem_drop hu)⟩
theorem Gd.take {s:GSys} {k c:Nat} {a:List Int} (h:Gd s (k+c) a):Gd s k (a.take k):=⟨by rw [List.length_take,h.1];omega,fun u hu=>h.2 u (List.mem_of_mem_take hu)⟩
theorem Gd.at {s:GSys} {c:Nat} {a:List Int} (h:Gd s c a) {i:Nat} (hi:i < c):s.G (a.getD i 0):=by
 rw [List.getD_eq_getElem?_getD,List.getElem?_eq_getElem (by rw [h.1];exact hi)]
 exact h.2 _ (List.getElem_mem _)
theorem Ji {f:Int→Int→Int} {a b:List Int} {c i:Nat} (ha:a.length=c) (hb:b.length=c) (hi:i < c):(List.zipWith f a b).getD i 0=f (a.getD i 0) (b.getD i 0):=by
 simp [List.getD_eq_getElem?_getD,List.getElem?_zipWith,show i < a.length by omega,show i < b.length by omega]
theorem ZcY {f:Int→Int} {a:List Int} {i:Nat} (hi:i < a.length):(a.map f).getD i 0=f (a.getD i 0):=by
 simp [List.getD_eq_getElem?_getD,hi]
theorem Gd.sum {s:GSys} (t:s.Tab) {c:Nat} {a b:List Int} (ha:Gd s c a) (hb:Gd s c b):Gd s c (XZ s a b):=Zc2 t ha.1 hb.1
theorem Gd.join {s:GSys} (hs:s.sys=true) {c:Nat} {a b:List Int} (ha:Gd s c a) (hb:Gd s c b):Gd s c (XU s a b):=⟨ZbU ha.1 hb.1,fun u hu=>Zi4 hs u hu ha.2 hb.2⟩
theorem Gd.scale {s:GSys} (t:s.Tab) {c:Nat} {a:List Int} (g:Int) (ha:Gd s c a):Gd s c (QY s g a):=Ya t ha.1
theorem Gd.zeros {s:GSys} (t:s.Tab) (c:Nat):Gd s c (zeros c):=VK t c
theorem leL_sum {s:GSys} (hs:s.sys=true) {c:Nat} {a a' b b':List Int} (ha:Gd s c a) (ha':Gd s c a') (hb:Gd s c b) (hb':Gd s c b') (h1:leL s a' a) (h2:leL s b' b):leL s (XZ s a' b') (XZ s a b):=by
 have t:=GSys.sys_of hs
 intro i hi
 have hi':i < c:=by rw [(ha'.sum t hb').1] at hi;exact hi
 simp only [XZ]
 rw [Ji ha'.1 hb'.1 hi',Ji ha.1 hb.1 hi']
 exact (GSys.laws hs).pl2 t (ha'.at hi') (hb'.at hi') (ha.at hi') (hb.at hi') (h1 i (by rw [ha'.1];exact hi')) (h2 i (by rw [hb'.1];exact hi'))
theorem leL_join {s:GSys} (hs:s.sys=true) {c:Nat} {a a' b b':List Int} (ha:Gd s c a) (ha':Gd s c a') (hb:Gd s c b) (hb':Gd s c b') (h1:leL s a' a) (h2:leL s b' b):leL s (XU s a' b') (XU s a b):=by
 intro i hi
 have hi':i < c:=by rw [(ha'.join hs hb').1] at hi;exact hi
 simp only [XU]
 rw [Ji ha'.1 hb'.1 hi',Ji ha.1 hb.1 hi']
 exact (GSys.laws hs).jn2 hs (ha'.at hi') (hb'.at hi') (ha.at hi') (hb.at hi') (h1 i (by rw [ha'.1];exact hi')) (h2 i (by rw [hb'.1];exact hi'))
theorem ZrH {s:GSys} (hs:s.sys=true) {c:Nat} {g:Int} (hg:s.G g) {a a':List Int} (ha:Gd s c a) (ha':Gd s c a') (h1:leL s a' a):leL s (QY s g a') (QY s g a):=by
 intro i hi
 have hi':i < c:=by simp [QY,ha'.1] at hi;exact hi
 simp only [QY]
 rw [ZcY (by rw [ha'.1];exact hi'),ZcY (by rw [ha.1];exact hi')]
 exact (GSys.laws hs).tm_ml _ _ g (ha'.at hi') (ha.at hi') hg (h1 i (by rw [ha'.1];exact hi'))
section
variable {s:GSys} (hs:s.sys=true) {P:List Int→List Int→Prop} {c c' k:Nat} (cl:PCl s P c c')
include hs cl
theorem QR.zero:QR s P c c' k (zeros (k+c)) (zeros (k+c')):=by
 have t:=GSys.sys_of hs
 refine ⟨Gd.zeros t _,Gd.zeros t _,fun i hi=>?_,?_⟩
 ·have hk:i < k:=by simp [zeros] at hi;exact hi
  simp only [zeros,List.take_replicate]
  rw [show min k (k+c')=k by omega,show min k (k+c)=k by omega]
  have:(List.replicate k (0:Int)).getD i 0=0:=by simp [List.getD_eq_getElem?_getD,hk]
  rw [this]
  exact (GSys.laws hs).refl 0 (GSys.G0 t)
 ·simp only [zeros,List.drop_replicate]
  rw [show k+c - k=c by omega,show k+c' - k=c' by omega]
  exact cl.zero
theorem QR.sum {a a' b b':List Int} (h1:QR s P c c' k a a') (h2:QR s P c c' k b b'):QR s P c c' k (XZ s a b) (XZ s a' b'):=by
 have t:=GSys.sys_of hs
 refine ⟨h1.g.sum t h2.g,h1.g'.sum t h2.g',?_,?_⟩
 ·simp only [XZ,List.take_zipWith]
  exact leL_sum hs h1.g.take h1.g'.take h2.g.take h2.g'.take h1.le h2.le
 ·simp only [XZ,List.drop_zipWith]
  exact cl.sum _ _ _ _ h1.g.drop h1.g'.drop h2.g.drop h2.g'.drop h1.p h2.p
theorem QR.join {a a' b b':List Int} (h1:QR s P c c' k a a') (h2:QR s P c c' k b b'):QR s P c c' k (XU s a b) (XU s a' b'):=by
 refine ⟨h1.g.join hs h2.g,h1.g'.join hs h2.g',?_,?_⟩
 ·simp only [XU,List.take_zipWith]
  exact leL_join hs h1.g.take h1.g'.take h2.g.take h2.g'.take h1.le h2.le
 ·simp only [XU,List.drop_zipWith]
  exact cl.join _ _ _ _ h1.g.drop h1.g'.drop h2.g.drop h2.g'.drop h1.p h2.p
theorem QR.scale {g:Int} (hg:s.G g) {a a':List Int} (h1:QR s P c c' k a a'):QR s P c c' k (QY s g a) (QY s g a'):=by
 have t:=GSys.sys_of hs
 refine ⟨h1.g.scale t g,h1.g'.scale t g,?_,?_⟩
 ·simp only [QY,← List.map_take]
  exact ZrH hs hg h1.g.take h1.g'.take h1.le
 ·simp only [QY,← List.map_drop]
  exact cl.scale g _ _ hg h1.g.drop h1.g'.drop h1.p
end
theorem QR.less {s:GSys} {P:List Int→List Int→Prop} {c c' k j:Nat} {a a':List Int} (h:QR s P c c' (j+k) a a'):QR s P c c' k (a.drop j) (a'.drop j):=by
 refine ⟨(show Gd s (j+(k+c)) a by rw [← Nat.add_assoc];exact h.g).drop,(show Gd s (j+(k+c')) a' by rw [← Nat.add_assoc];exact h.g').drop,fun i hi=>?_,by rw [List.drop_drop,List.drop_drop];exact h.p⟩
 have e:∀ (l:List Int),i < k→((l.drop j).take k).getD i 0=(l.take (j+k)).getD (j+i) 0:=fun l hik=>by
  simp [List.getD_eq_getElem?_getD,List.getElem?_take,List.getElem?_drop,hik]
 have hik:i < k:=by simp at hi;omega
 rw [e a' hik,e a hik]
 exact h.le (j+i) (by have:=h.g'.1;simp;omega)
theorem QR.used {s:GSys} (hs:s.sys=true) {P:List Int→List Int→Prop} {c c' k j:Nat} {a a':List Int} (h:QR s P c c' (j+k) a a') {g:Int} (hg:s.G g) (hu:Wu s (a.take j) g=true):Wu s (a'.take j) g=true:=by
 unfold Wu at hu ⊢
 rw [List.all_eq_true] at hu ⊢
 intro u hu'
 obtain ⟨i,hi,rfl⟩:=List.getElem_of_mem hu'
 have l1:=h.g.1
 have l2:=h.g'.1
 have hij:i < j:=by simp at hi;omega
 have e1:(a'.take j)[i]=a'.getD i 0:=by simp [List.getD_eq_getElem?_getD,show i < a'.length by omega]
 have hle:=h.le i (by simp;omega)
 have e2:∀ l:List Int,(l.take (j+k)).getD i 0=l.getD i 0:=fun l=>by simp [List.getD_eq_getElem?_getD,List.getElem?_take,show i < j+k by omega]
 rw [e2,e2] at hle
 rw [e1]
 have hg2:=hu (a.getD i 0) (by
  rw [List.getD_eq_getElem?_getD,List.getElem?_eq_getElem (by omega),Option.getD_some]
  rw [List.mem_iff_getElem]
  exact ⟨i,by simp;omega,by simp⟩)
 exact (GSys.laws hs).trans _ _ _ (h.g'.at (by omega)) (h.g.at (by omega)) hg hle hg2
mutual
def rnG (σ:Nat→Int→GTerm) (k:Nat):GTerm→GTerm
 | .mk op n nl1 ty nl2 ks=>if op=0 then σ k n else .mk op n nl1 ty nl2 (rnK σ op k 0 ks)
def rnK (σ:Nat→Int→GTerm) (op:Int) (k i:Nat):List GTerm→List GTerm
 | []=>[]
 | t::ts=>rnG σ ((Qr op i).toNat+k) t::rnK σ op k (i+1) ts
end
structure KRel (s:GSys) (P:List Int→List Int→Prop) (c c':Nat) (op:Int) (k:Nat) (l l':List TT):Prop where
 len:l'.length=l.length
 each:∀ (i:Nat) (x x':TT),l[i]?=some x→l'[i]?=some x'→x'.ty=x.ty∧QR s P c c' ((Qr op i).toNat+k) x.needs x'.needs
theorem KRel.ty {s:GSys} {P:List Int→List Int→Prop} {c c' k:Nat} {op:Int} {l l':List TT} (h:KRel s P c c' op k l l') (i:Nat):tyP l' i=tyP l i:=by
 unfold tyP
 by_cases hi:i < l.length
 ·have hi':i < l'.length:=by rw [h.len];exact hi
  have:=(h.each i l[i] l'[i] (List.getElem?_eq_getElem hi) (List.getElem?_eq_getElem hi')).1
  simpa [List.getD_eq_getElem?_getD,hi,hi'] using this
 ·simp [List.getD_eq_getElem?_getD,List.getElem?_eq_none (show l.length≤i by omega),List.getElem?_eq_none (show l'.length≤i by rw [h.len];omega)]
theorem KRel.at {s:GSys} {P:List Int→List Int→Prop} {c c' k:Nat} {op:Int} {l l':List TT} (h:KRel s P c c' op k l l') (i:Nat) (hi:i < l.length):QR s P c c' ((Qr op i).toNat+k) (l.getD i (.mk [] [] [])).needs (l'.getD i (.mk [] [] [])).needs:=by
 have hi':i < l'.length:=by rw [h.len];exact hi
 have:=(h.each i l[i] l'[i] (List.getElem?_eq_getElem hi) (List.getElem?_eq_getElem hi')).2
 simpa [List.getD_eq_getElem?_getD,hi,hi'] using this
theorem KRel.nd {s:GSys} {P:List Int→List Int→Prop} {c c' k:Nat} {op:Int} {l l':List TT} (h:KRel s P c c' op k l l') (i:Nat) (hi:i < l.length):QR s P c c' k (ndP op l i) (ndP op l' i):=by
 unfold ndP
 exact (h.at i hi).less
theorem KRel.us {s:GSys} (hs:s.sys=true) {P:List Int→List Int→Prop} {c c' k:Nat} {op:Int} {l l':List TT} (h:KRel s P c c' op k l l') (i:Nat) (hi:i < l.length) {g:Int} (hg:s.G g) (hu:Wu s (usP op l i) g=true):Wu s (usP op l' i) g=true:=by
 unfold usP at hu ⊢
 exact (h.at i hi).used hs hg hu
theorem KRel.snoc {s:GSys} {P:List Int→List Int→Prop} {c c' k:Nat} {op:Int} {l l':List TT} (h:KRel s P c c' op k l l') {x x':TT} (h1:x'.ty=x.ty) (h2:QR s P c c' ((Qr op l.length).toNat+k) x.needs x'.needs):KRel s P c c' op k (l++[x]) (l'++[x']):=by
 refine ⟨by simp [h.len],fun i y y' hy hy'=>?_⟩
 have hl:=h.len
 rcases Nat.lt_trichotomy i l.length with g | g | g
 ·rw [List.getElem?_append_left g] at hy
  rw [List.getElem?_append_left (by omega)] at hy'
  exact h.each i y y' hy hy'
 ·subst g
  rw [List.getElem?_append_right (Nat.le_refl _)] at hy
  rw [List.getElem?_append_right (by omega),hl] at hy'
  simp at hy hy'
  subst hy;subst hy'
  exact ⟨h1,h2⟩
 ·rw [List.getElem?_append_right (by omega),List.getElem?_eq_none (by simp;omega)] at hy;simp at hy
theorem Zc7 {ty nd nd':List Int} (h:(Xl ty nd).1=0):(Xl ty nd').1=0∧(Xl ty nd').2.1=(Xl ty nd).2.1∧(Xl ty nd).2.2=nd∧(Xl ty nd').2.2=nd':=by
 obtain ⟨g1,g2,g3⟩:=Zdx h
 unfold Xl
 simp [g1]
section
variable {s:GSys} (hs:s.sys=true) {P:List Int→List Int→Prop} {ctx ctx':List (List Int)} (cl:PCl s P ctx.length ctx'.length)
include hs cl
theorem fin_rn {ds:List (List Int)} {op n:Int} {ty:List Int} {l l':List TT} (h0:op≠0) (nd:NodeOk s (ds++ctx).length op n ty l.length) (k:KidsOk s (ds++ctx).length op n l) (r:KRel s P ctx.length ctx'.length op ds.length l l')
  (h:(Wi s (ds++ctx) op n ty l).1=0) :
  (Wi s (ds++ctx') op n ty l').1=0∧(Wi s (ds++ctx') op n ty l').2.1=(Wi s (ds++ctx) op n ty l).2.1∧QR s P ctx.length ctx'.length ds.length (Wi s (ds++ctx) op n ty l).2.2 (Wi s (ds++ctx') op n ty l').2.2:=by
 have t:=GSys.sys_of hs
 have h16:=t.hi
 obtain ⟨many,hvar,hgr,hty,o1,o2⟩:=nd
 have hops:op=1∨op=2∨op=3∨op=4∨op=5∨op=6∨op=7∨op=8∨op=9∨op=10∨op=11∨op=12:=by omega
 have t0:=r.ty 0
 have t1:=r.ty 1
 have t2:=r.ty 2
 rcases hops with e | e | e | e | e | e | e | e | e | e | e | e
 all_goals subst e
 all_goals simp [YT] at many
 ·have E:∀ cx m,Wi s cx 1 n ty m=(0,[0],zeros cx.length):=fun _ _=>rfl
  rw [E,E,List.length_append,List.length_append]
  exact ⟨rfl,rfl,QR.zero hs cl⟩
 ·have E:∀ cx m,Wi s cx 2 n ty m=(0,[0],XZ s (ndP 2 m 0) (ndP 2 m 1)):=fun _ _=>rfl
  rw [E,E]
  exact ⟨rfl,rfl,QR.sum hs cl (r.nd 0 (by omega)) (r.nd 1 (by omega))⟩
 ·have E:∀ cx m,Wi s cx 3 n ty m=(if tyP m 1=tyP m 2 then (0,tyP m 1,XZ s (ndP 3 m 0) (XU s (ndP 3 m 1) (ndP 3 m 2))) else (3,[],[])):=fun _ _=>rfl
  rw [E] at h ⊢
  rw [E,t1,t2]
  split at h
  ·rename_i e
   rw [if_pos e,if_pos e]
   exact ⟨rfl,rfl,QR.sum hs cl (r.nd 0 (by omega)) (QR.join hs cl (r.nd 1 (by omega)) (r.nd 2 (by omega)))⟩
  ·simp at h
 ·have E:∀ cx m,Wi s cx 4 n ty m=Xl (1::(tyP m 0++tyP m 1)) (XZ s (ndP 4 m 0) (ndP 4 m 1)):=fun _ _=>rfl
  rw [E] at h ⊢
  rw [E,t0,t1]
  obtain ⟨g1,g2,g3,g4⟩:=Zc7 (nd':=XZ s (ndP 4 l' 0) (ndP 4 l' 1)) h
  rw [g3,g4]
  exact ⟨g1,g2,QR.sum hs cl (r.nd 0 (by omega)) (r.nd 1 (by omega))⟩
 ·have hg:=hgr (by simp [Z6,Qe])
  have E:∀ cx m,Wi s cx 5 n ty m=(if Wu s (usP 5 m 1) n=true then (0,tyP m 1,XZ s (QY s n (ndP 5 m 0)) (ndP 5 m 1)) else (9,[],[])):=fun _ _=>rfl
  rw [E] at h ⊢
  rw [E,t1]
  split at h
  ·rename_i e
   rw [if_pos e,if_pos (r.us hs 1 (by omega) hg e)]
   exact ⟨rfl,rfl,QR.sum hs cl (QR.scale hs cl hg (r.nd 0 (by omega))) (r.nd 1 (by omega))⟩
  ·simp at h
 ·have E:∀ cx m,Wi s cx 6 n ty m=Xl (2::(tyP m 0++ty)) (ndP 6 m 0):=fun _ _=>rfl
  rw [E] at h ⊢
  rw [E,t0]
  obtain ⟨g1,g2,g3,g4⟩:=Zc7 (nd':=ndP 6 l' 0) h
  rw [g3,g4]
  exact ⟨g1,g2,r.nd 0 (by omega)⟩
 ·have E:∀ cx m,Wi s cx 7 n ty m=Xl (2::(ty++tyP m 0)) (ndP 7 m 0):=fun _ _=>rfl
  rw [E] at h ⊢
  rw [E,t0]
  obtain ⟨g1,g2,g3,g4⟩:=Zc7 (nd':=ndP 7 l' 0) h
  rw [g3,g4]
  exact ⟨g1,g2,r.nd 0 (by omega)⟩
 ·have hg:=hgr (by simp [Z6,Qe])
  have E:∀ cx m,Wi s cx 8 n ty m=(if tyP m 1=tyP m 2 then (if Wu s (usP 8 m 1) n=true∧Wu s (usP 8 m 2) n=true then (0,tyP m 1,XZ s (QY s n (ndP 8 m 0)) (XU s (ndP 8 m 1) (ndP 8 m 2))) else (9,[],[])) else (3,[],[])):=fun _ _=>rfl
  rw [E] at h ⊢
  rw [E,t1,t2]
  split at h
  ·rename_i e
   split at h
   ·rename_i e2
    rw [if_pos e,if_pos e2,if_pos e,if_pos ⟨r.us hs 1 (by omega) hg e2.1,r.us hs 2 (by omega) hg e2.2⟩]
    exact ⟨rfl,rfl,QR.sum hs cl (QR.scale hs cl hg (r.nd 0 (by omega))) (QR.join hs cl (r.nd 1 (by omega)) (r.nd 2 (by omega)))⟩
   ·simp at h
  ·simp at h
 ·have hg:=hgr (by simp [Z6,Qe])
  have E:∀ cx m,Wi s cx 9 n ty m=(if Wu s (usP 9 m 0) n=true then Xl ((3+n)::(ty++tyP m 0)) (ndP 9 m 0) else (9,[],[])):=fun _ _=>rfl
  rw [E] at h ⊢
  rw [E,t0]
  split at h
  ·rename_i e
   obtain ⟨g1,g2,g3,g4⟩:=Zc7 (nd':=ndP 9 l' 0) h
   rw [if_pos e,if_pos (r.us hs 0 (by omega) hg e),g3,g4]
   exact ⟨g1,g2,r.nd 0 (by omega)⟩
  ·simp at h
 ·have E:∀ cx m,Wi s cx 10 n ty m=(0,WC (tyP m 0),XZ s (ndP 10 m 0) (QY s (QG (hd (tyP m 0))).2 (ndP 10 m 1))):=fun _ _=>rfl
  rw [E,E,t0]
  have hf:=k.first (by rintro rfl;simp at many)
  have ho:=Yj hf.1
  have hG:s.G (QG (hd (tyP l 0))).2:=by
   have ha:=hf.2.1.2.2.2.1 rfl
   have:=(Kq ho.2.1 ho.2.2.1).2.2.2.2.2 (.inl ha)
   have e:hd (tyP l 0)=hd (first l):=rfl
   rw [e,this]
   exact Kw ho.1 (.inl ha)
  exact ⟨rfl,rfl,QR.sum hs cl (r.nd 0 (by omega)) (QR.scale hs cl hG (r.nd 1 (by omega)))⟩
 ·have hg:=hgr (by simp [Z6,Qe])
  have E:∀ cx m,Wi s cx 11 n ty m=Xl ((19+n)::tyP m 0) (QY s n (ndP 11 m 0)):=fun _ _=>rfl
  rw [E] at h ⊢
  rw [E,t0]
  obtain ⟨g1,g2,g3,g4⟩:=Zc7 (nd':=QY s n (ndP 11 l' 0)) h
  rw [g3,g4]
  exact ⟨g1,g2,QR.scale hs cl hg (r.nd 0 (by omega))⟩
 ·have hg:=hgr (by simp [Z6,Qe])
  have E:∀ cx m,Wi s cx 12 n ty m=(if Wu s (usP 12 m 1) (s.tm n (QG (hd (tyP m 0))).2)=true then (0,tyP m 1,XZ s (QY s n (ndP 12 m 0)) (ndP 12 m 1)) else (9,[],[])):=fun _ _=>rfl
  rw [E] at h ⊢
  rw [E,t0,t1]
  split at h
  ·rename_i e
   rw [if_pos e,if_pos (r.us hs 1 (by omega) (GSys.Gtm t _ _) e)]
   exact ⟨rfl,rfl,QR.sum hs cl (QR.scale hs cl hg (r.nd 0 (by omega))) (r.nd 1 (by omega))⟩
  ·simp at h
variable (σ:Nat→Int→GTerm) (hc:∀ l∈ctx,okL s.size l=true)
 (hσ:∀ (ds:List (List Int)) (n:Int),(∀ l∈ds,okL s.size l=true)→0≤n→n < ds.length+ctx.length →
  ∃ y,Qt s (ds++ctx') (σ ds.length n)=.ok y∧y.ty=(ds++ctx).getD n.toNat []∧QR s P ctx.length ctx'.length ds.length ((zeros (ds.length+ctx.length)).set n.toNat 1) y.needs)
include hc hσ
mutual
theorem ZqG:∀ (g:GTerm) (ds:List (List Int)) (x:TT),(∀ l∈ds,okL s.size l=true)→W8 (ds++ctx).length s.size true g=true→Qt s (ds++ctx) g=.ok x →
  ∃ y,Qt s (ds++ctx') (rnG σ ds.length g)=.ok y∧y.ty=x.ty∧QR s P ctx.length ctx'.length ds.length x.needs y.needs
 | .mk op n nl1 ty nl2 ks,ds,x,hd,hf,he=>by
  have t:=GSys.sys_of hs
  have hall:∀ l∈ds++ctx,okL s.size l=true:=fun l hl=>(List.mem_append.1 hl).elim (hd l) (hc l)
  simp only [W8,Bool.and_eq_true] at hf
  have nd:=Zdv hf.1
  rw [Qt] at he
  split at he
  ·simp at he
  ·rename_i l hl
   split at he
   ·rename_i h0
    simp only [Res.ok.injEq] at he
    subst he
    by_cases ho:op=0
    ·subst ho
     obtain ⟨v0,v1⟩:=nd.var rfl
     simp only [rnG,if_true]
     obtain ⟨y,y1,y2,y3⟩:=hσ ds n hd v0 (by rw [List.length_append] at v1;omega)
     refine ⟨y,y1,?_,?_⟩
     ·rw [y2];simp [Wi]
     ·simp only [TT.needs_mk]
      have:(Wi s (ds++ctx) 0 n ty l).2.2=(zeros (ds.length+ctx.length)).set n.toNat 1:=by simp [Wi]
      rw [this];exact y3
    ·simp only [rnG,if_neg ho]
     have hty9:op=9→okL s.size ty=true:=fun h9=>nd.typed (by subst h9;simp [Xy,Qe])
     have k0:KidsOk s (ds++ctx).length op n []:=⟨fun i x h=>by simp at h,fun _ x h=>by simp at h⟩
     obtain ⟨k,hlen⟩:=ZeW t ks (ds++ctx) op n ty [] l hall hty9 (by simpa using hf.2) k0 hl
     obtain ⟨l',e1,e2⟩:=Zoy ks ds op n ty [] [] l hd hty9 (by simpa using hf.2) k0 ⟨rfl,fun i x x' h=>by simp at h⟩ hl
     obtain ⟨q1,q2,q3⟩:=fin_rn hs cl ho (by rw [show l.length=ks.length by simpa using hlen];exact nd) k e2 h0
     refine ⟨.mk (Wi s (ds++ctx') op n ty l').2.1 (Wi s (ds++ctx') op n ty l').2.2 l',?_,q2,q3⟩
     rw [Qt]
     simp only [List.length_nil] at e1
     rw [e1]
     simp only [q1,if_true]
   ·simp at he
theorem Zoy:∀ (ks:List GTerm) (ds:List (List Int)) (op n:Int) (ty:List Int) (acc acc' l:List TT),(∀ l∈ds,okL s.size l=true)→(op=9→okL s.size ty=true)→W5 (ds++ctx).length s.size true op acc.length ks=true →
  KidsOk s (ds++ctx).length op n acc→KRel s P ctx.length ctx'.length op ds.length acc acc'→Q9 s (ds++ctx) op n ty acc ks=.ok l →
  ∃ l',Q9 s (ds++ctx') op n ty acc' (rnK σ op ds.length acc.length ks)=.ok l'∧KRel s P ctx.length ctx'.length op ds.length l l'
 | [],ds,op,n,ty,acc,acc',l,hd,hty,hf,k,r,he=>by
  simp only [Q9,KRes.ok.injEq] at he
  subst he
  exact ⟨acc',by simp [rnK,Q9],r⟩
 | g::ks,ds,op,n,ty,acc,acc',l,hd,hty,hf,k,r,he=>by
  have t:=GSys.sys_of hs
  have hall:∀ l∈ds++ctx,okL s.size l=true:=fun l hl=>(List.mem_append.1 hl).elim (hd l) (hc l)
  simp only [W5,Bool.and_eq_true] at hf
  rw [Q9] at he
  split at he
  ·simp at he
  ·rename_i x hx
   split at he
   ·simp at he
   ·rename_i h1
    split at he
    ·simp at he
    ·rename_i h2
     have ext:=Zqc hall hty k
     have hal:(QC op ty acc.length (first acc)).length=(Qr op acc.length).toNat:=Zbi op ty acc.length (first acc)
     have hlen:(QC op ty acc.length (first acc)++(ds++ctx)).length=(ds++ctx).length+(Qr op acc.length).toNat:=by
      rw [List.length_append,hal];omega
     have hrg:=Xw op acc.length
     have hfm:W8 (QC op ty acc.length (first acc)++(ds++ctx)).length s.size true g=true:=by
      rw [hlen,show (((ds++ctx).length+(Qr op acc.length).toNat:Nat):Int)=(ds++ctx).length+Qr op acc.length by omega];exact hf.1
     have hg:=Kh t g _ x ext hfm hx
     rw [hlen] at hg
     have k2:=k.snoc hg (by simpa using h1) h2
     have eL:∀ c:List (List Int),QC op ty acc.length (first acc)++(ds++c)=(QC op ty acc.length (first acc)++ds)++c:=fun c=>by rw [List.append_assoc]
     rw [eL] at hfm hx ext
     obtain ⟨y,y1,y2,y3⟩:=ZqG g (QC op ty acc.length (first acc)++ds) x (fun l hl=>ext l (List.mem_append_left _ hl)) hfm hx
     rw [List.length_append,hal] at y1 y3
     rw [← eL] at y1
     have hfirst:first acc'=first acc:=r.ty 0
     have hal':acc'.length=acc.length:=r.len
     obtain ⟨l',e1,e2⟩:=Zoy ks ds op n ty (acc++[x]) (acc'++[y]) l hd hty (by rw [show (acc++[x]).length=acc.length+1 by simp];exact hf.2) k2 (r.snoc y2 y3) he
     refine ⟨l',?_,e2⟩
     rw [List.length_append] at e1
     simp only [rnK,Q9,hal',hfirst,y1,y2]
     rw [if_neg h1,if_neg h2]
     exact e1
end
end
def T0:Nat→Nat
 | 0=>40
 | d+1=>3 * T0 d+6
def bd (deep:Int) (n:Nat):Nat:=if deep≤0 then n else T0 deep.toNat
theorem T0_ge:∀ d,40≤T0 d
 | 0=>by simp [T0]
 | d+1=>by have:=T0_ge d;simp only [T0];omega
theorem ZmA {d e:Nat} (h:d≤e):T0 d≤T0 e:=by
 induction e with
 | zero=>rw [show d=0 by omega];exact Nat.le_refl _
 | succ e ih =>
  by_cases h2:d=e+1
  ·rw [h2];exact Nat.le_refl _
  ·have:=ih (by omega)
   simp only [T0];omega
theorem Zlg {deep:Int} {n:Nat} (h:n≤40):bd deep n≤T0 deep.toNat:=by
 unfold bd
 split
 ·have:=T0_ge deep.toNat;omega
 ·exact Nat.le_refl _
theorem Zqs {deep:Int} (h:0 < deep):T0 deep.toNat=3 * T0 (deep - 1).toNat+6:=by
 obtain ⟨d,hd⟩:∃ d:Nat,deep.toNat=d+1:=⟨deep.toNat - 1,by omega⟩
 rw [hd,show (deep - 1).toNat=d by omega]
 rfl
theorem bd_max {deep:Int} {n:Nat} (h:n≤40) (hd:deep≤4):bd deep n≤3480:=by
 have h1:=Zlg (deep:=deep) h
 have h2:=ZmA (d:=deep.toNat) (e:=4) (by omega)
 have h3:T0 4=3480:=by decide
 omega
theorem bd_two {deep:Int} {a b n:Nat} (h:1+a+b≤n) (hn:n≤40):1+bd (deep - 1) a+bd (deep - 1) b≤bd deep n:=by
 by_cases hd:deep≤0
 ·simp only [bd,if_pos hd,if_pos (show deep - 1≤0 by omega)];omega
 ·have h1:=Zlg (deep:=deep - 1) (n:=a) (by omega)
  have h2:=Zlg (deep:=deep - 1) (n:=b) (by omega)
  have h3:=Zqs (deep:=deep) (by omega)
  rw [show bd deep n=T0 deep.toNat by simp [bd,hd]]
  omega
theorem ZmH {deep:Int} {a n:Nat} (h:1+a≤n) (hn:n≤40):1+bd (deep - 1) a≤bd deep n:=by
 have h1:=bd_two (deep:=deep) (a:=a) (b:=0) (by omega) hn
 omega
theorem ZiS {deep:Int} {n:Nat} (h:1≤n):1≤bd deep n:=by
 unfold bd
 split
 ·exact h
 ·have:=T0_ge deep.toNat;omega
theorem TmOk.k0 {s:GSys} {nv m:Nat} {op n:Int} {nl1 nl2:Bool} {ty:List Int} (hop:0≤op∧op≤12) (h0:Y4 nv s.size true op n ty 0=true) (hI:I64 n) (ht:Lok ty) (f:Zt nl1 ty) (hm:1≤m):TmOk s nv m (.mk op n nl1 ty nl2 []) :=
 ⟨by simp only [GTerm.wf,wfs];exact ⟨by unfold I64;omega,hI,ht,by simp,trivial⟩,by simp only [GTerm.fl,fls];exact ⟨f,trivial⟩,by simp only [W8,W5,List.length_nil,h0,Bool.and_self],by simp only [GTerm.size,WV];omega⟩
theorem TmOk.k1 {s:GSys} {nv m n1 m1:Nat} {op n:Int} {nl1 nl2:Bool} {ty:List Int} {a:GTerm} (hop:0≤op∧op≤12) (h0:Y4 nv s.size true op n ty 1=true) (hI:I64 n) (ht:Lok ty) (f:Zt nl1 ty)
  (ha:TmOk s n1 m1 a) (e1:(n1:Int)=nv+Qr op 0) (hm:1+m1≤m):TmOk s nv m (.mk op n nl1 ty nl2 [a]) :=
 ⟨by simp only [GTerm.wf,wfs];exact ⟨by unfold I64;omega,hI,ht,by simp,ha.wf,trivial⟩,by simp only [GTerm.fl,fls];exact ⟨f,ha.fl,trivial⟩,
  by
   have:=ha.form
   rw [e1] at this
   simp only [W8,W5,List.length_cons,List.length_nil,h0,Int.natCast_zero,this,Bool.and_self],
  by have:=ha.size;simp only [GTerm.size,WV];omega⟩
theorem TmOk.k2 {s:GSys} {nv m n1 m1 n2 m2:Nat} {op n:Int} {nl1 nl2:Bool} {ty:List Int} {a b:GTerm} (hop:0≤op∧op≤12) (h0:Y4 nv s.size true op n ty 2=true) (hI:I64 n) (ht:Lok ty) (f:Zt nl1 ty)
  (ha:TmOk s n1 m1 a) (e1:(n1:Int)=nv+Qr op 0) (hb:TmOk s n2 m2 b) (e2:(n2:Int)=nv+Qr op 1) (hm:1+m1+m2≤m):TmOk s nv m (.mk op n nl1 ty nl2 [a,b]) :=
 ⟨by simp only [GTerm.wf,wfs];exact ⟨by unfold I64;omega,hI,ht,by simp,ha.wf,hb.wf,trivial⟩,by simp only [GTerm.fl,fls];exact ⟨f,ha.fl,hb.fl,trivial⟩,
  by
   have h1:=ha.form
   have h2:=hb.form
   rw [e1] at h1
   rw [e2] at h2
   simp only [W8,W5,List.length_cons,List.length_nil,h0,Int.natCast_zero,Nat.zero_add,Int.natCast_one,h1,h2,Bool.and_self],
  by have h1:=ha.size;have h2:=hb.size;simp only [GTerm.size,WV];omega⟩
theorem TmOk.k3 {s:GSys} {nv m n1 m1 n2 m2 n3 m3:Nat} {op n:Int} {nl1 nl2:Bool} {ty:List Int} {a b c:GTerm} (hop:0≤op∧op≤12) (h0:Y4 nv s.size true op n ty 3=true) (hI:I64 n) (ht:Lok ty) (f:Zt nl1 ty)
  (ha:TmOk s n1 m1 a) (e1:(n1:Int)=nv+Qr op 0) (hb:TmOk s n2 m2 b) (e2:(n2:Int)=nv+Qr op 1) (hc:TmOk s n3 m3 c) (e3:(n3:Int)=nv+Qr op 2) (hm:1+m1+m2+m3≤m):TmOk s nv m (.mk op n nl1 ty nl2 [a,b,c]) :=
 ⟨by simp only [GTerm.wf,wfs];exact ⟨by unfold I64;omega,hI,ht,by simp,ha.wf,hb.wf,hc.wf,trivial⟩,by simp only [GTerm.fl,fls];exact ⟨f,ha.fl,hb.fl,hc.fl,trivial⟩,
  by
   have h1:=ha.form
   have h2:=hb.form
   have h3:=hc.form
   rw [e1] at h1
   rw [e2] at h2
   rw [e3] at h3
   simp only [W8,W5,List.length_cons,List.length_nil,h0,Int.natCast_zero,Nat.zero_add,Int.natCast_one,h1,h2,show ((1+1:Nat):Int)=2 from rfl,h3,Bool.and_self],
  by have h1:=ha.size;have h2:=hb.size;have h3:=hc.size;simp only [GTerm.size,WV];omega⟩
theorem ZlN {s:GSys} {nv m:Nat} {op n:Int} {T:LV} {nlT u nl:Bool} {ty:List Int} {Qh:List (List LV)} {ks:List GTerm} (hT:share T=L nlT ty) (lT:Low 0 T) (aT:T.alive=true) (hs:Qq Qh=QM ks) (lr:We 0 Qh)
  (h:TmOk s nv m (.mk op n nlT ty nl ks)):isD s nv m (.agg [N op,N n,T,.sl u nl 4 Qh]) :=
 ⟨.mk op n nlT ty nl ks,_,rfl,by simp only [shareAll,share,hT,hs,GTerm.cells],by simp [lT,lr],by simp [aT],h⟩
theorem ZeM {s:GSys} {nv m:Nat} {op n:Int} {nl:Bool} {ks:List GTerm} (h:TmOk s nv m (.mk op n true [] nl ks)):isD s nv m (.agg [N op,N n,.sl true true 1 [],.sl false nl 4 (QM ks)]) :=
 ZlN (nlT:=true) (by simp) (by simp) (by simp) (by simp) (by simp) h
theorem Zjv {s:GSys} {nv m:Nat} (h:1≤m):∃ r,isD s nv m r :=
 ⟨_,ZeM (op:=1) (n:=0) (nl:=true) (ks:=[]) (TmOk.k0 (by omega) (by simp [Y4,ZcN,tyB,YT,Xy,Q4,eqB,leB]) (by unfold I64;omega) (by simp [Lok]) (by simp [Zt]) h)⟩
theorem ZpC {nv size i:Int} (h:0≤i∧i < nv):Y4 nv size true 0 i [] 0=true:=by
 have:Q4 i 0 (nv - 1)=true:=by rw [Q5];omega
 simp [Y4,ZcN,tyB,YT,Xy,this,eqB]
theorem nd_num {nv size i:Int} (h:0≤i∧i < 3):Y4 nv size true 1 i [] 0=true:=by
 have:Q4 i 0 2=true:=by rw [Q5];omega
 simp [Y4,ZcN,tyB,YT,Xy,this,eqB]
theorem Zib {nv size op:Int} {k:Nat} (h:op=2∧k=2∨op=3∧k=3∨op=4∧k=2∨op=10∧k=2):Y4 nv size true op 0 [] k=true:=by
 rcases h with ⟨rfl,rfl⟩ | ⟨rfl,rfl⟩ | ⟨rfl,rfl⟩ | ⟨rfl,rfl⟩<;>simp [Y4,ZcN,tyB,YT,Xy,Z6,eqB]
theorem Zl1 {s:GSys} {nv op n:Int} {k:Nat} (hn:s.G n) (h:op=5∧k=2∨op=8∧k=3∨op=11∧k=1∨op=12∧k=2):Y4 nv s.size true op n [] k=true:=by
 have h1:ltB n s.size=true:=by rw [Qi];exact hn.2
 have h2:leB 0 n=true:=by rw [Ql];exact hn.1
 have h3:leB (-1) n=true:=by rw [Ql];have:=hn.1;omega
 rcases h with ⟨rfl,rfl⟩ | ⟨rfl,rfl⟩ | ⟨rfl,rfl⟩ | ⟨rfl,rfl⟩<;>simp [Y4,ZcN,tyB,YT,Xy,Z6,h1,h2,h3,eqB]
theorem nd_ty {s:GSys} {nv op:Int} {ty:List Int} (ht:okL s.size ty=true) (h:op=6∨op=7):Y4 nv s.size true op 0 ty 1=true:=by
 have e:tyB s.size true op ty=true:=by
  unfold tyB
  rw [if_pos (by rcases h with rfl | rfl<;>simp [Xy,eqB])]
  exact ht
 rcases h with rfl | rfl<;>simp [Y4,ZcN,YT,Z6,e,eqB]
theorem ZpU {s:GSys} {nv n:Int} {ty:List Int} (hn:s.G n) (ht:okL s.size ty=true):Y4 nv s.size true 9 n ty 1=true:=by
 have h1:ltB n s.size=true:=by rw [Qi];exact hn.2
 have h2:leB 0 n=true:=by rw [Ql];exact hn.1
 have h3:leB (-1) n=true:=by rw [Ql];have:=hn.1;omega
 have e:tyB s.size true 9 ty=true:=by
  unfold tyB
  rw [if_pos (by simp [Xy,eqB])]
  exact ht
 simp [Y4,ZcN,YT,Z6,e,h1,h2,h3,eqB]
theorem GI {s:GSys} (h16:s.size≤16) {g:Int} (h:s.G g):I64 g:=by
 have h1:=h.1;have h2:=h.2
 unfold I64;omega
theorem cx_map {s:GSys} {ctx:Wz} (h:Zs s ctx):(ctx.map fun x=>[eC x])=ctx.map fun x=>[L false x.2]:=by
 refine List.map_congr_left fun x hx=>?_
 have:=h.2 x hx
 obtain ⟨a,b⟩:=x
 simp only at this
 subst this
 rfl
theorem isD.el {s:GSys} {nv n:Nat} {r:LV} (h:isD s nv n r):∃ (w:GTerm) (cs:List LV),r=.agg cs∧cs.length=4∧shareAll cs=w.cells∧QA 0 cs∧Wh cs=true∧TmOk s nv n w:=by
 obtain ⟨w,cs,h1,h2,h3,h4,h5⟩:=h
 exact ⟨w,cs,h1,by rw [← Q6,h2];simp,h2,h3,h4,h5⟩
theorem hd_at {l:List Int} (h:1≤l.length):QU 1 (L false l) 0=some (.rp [N (hd l)]):=by
 have:=Xu l false false 0 (by omega) (by omega)
 rw [this]
 congr 3
 cases l with
 | nil=>simp at h
 | cons a l=>rfl
def HasT (D:Dr) (s:GSys) (nv m:Nat) (h1 h3:List Box) (ct:LV) (pre:List Box) (h:List Box):Prop:=∃ (i' k':Int) (w:GTerm) (cs:List LV),WR D i' k'∧cs.length=4∧shareAll cs=w.cells∧QA 0 cs∧Wh cs=true∧TmOk s nv m w ∧
 h=h1++some [ct,N i',N k']::(h3++(pre++[some cs]))
theorem Jh {D:Dr} {s:GSys} {nv m:Nat} {h1 h3 ex:List Box} {ct:LV} {e:Exit} {st:St} {i' k':Int} {cs:List LV} (he:e=.normal∨e=.ret) (ht:st.t 10=.ptr (h1.length+(h3.length+1+1)) 0) (hh:st.h=h1++some [ct,N i',N k']::(h3++(none::some cs::ex)))
  (hl:cs.length=4) (hk:WR D i' k') (lo:QA 0 cs) (hq:isD s nv m (.agg cs)):ZfV D [.cell 10 true 4] h1 h3 ct (isD s nv m) e st :=
 Zim (j:=1) he ht hh (by omega) rfl hl.symm rfl hk (by simpa using lo) hq
section
variable (D:Dr) (ok:D.ok)
include ok
def DOf (s:GSys) (f:Nat):Prop:=∀ (nlc:Bool) (ctx:Wz) (ty:List Int) (deep:Int),Zs s ctx→ctx.length+2 * f≤1000→okL s.size ty=true→41 * deep.toNat+ty.length≤f→deep≤4→(f:Int)≤deep+1000 →
 Q0 Tryz.prog D QW [s.lv,LC nlc ctx,L false ty,N deep] (isD s ctx.length (bd deep ty.length))
theorem dFun_ok {s:GSys} (hsy:s.sys=true) {f:Nat} (H:DOf D s f) (nlc:Bool) (ctx:Wz) (ty:List Int) (deep:Int) (hc:Zs s ctx) (hf:ctx.length+2 * (f+1)≤1000) (hty:okL s.size ty=true) (ha:QP (hd ty)=true)
  (hm:41 * deep.toNat+ty.length≤f+1) (hd4:deep≤4) (hlo:((f+1:Nat):Int)≤deep+1000) :
  Q0 Tryz.prog D Zc6 [s.lv,LC nlc ctx,L false ty,N deep] (isD s ctx.length (bd deep ty.length)):=by
 have t:=GSys.sys_of hsy
 have h16:=t.hi
 have h40:=QH hty
 obtain ⟨e2,oa,ob⟩:=JW hty (JK ha)
 have hlen:ty.length=1+(QK ty).length+(WC ty).length:=by
  conv=>lhs;rw [e2]
  simp;omega
 obtain ⟨c1,c2,c3,c4,_⟩:=Yj hty
 have hg:=Kw c1 (.inl ha)
 have pa:=XQ hty 0 (.inr (JK ha))
 have pb:=XQ hty 1 (.inr (JK ha))
 simp only [if_true,if_neg (show (1:Int)≠0 by decide)] at pa pb
 have gr:=ZcX (hd ty) (by unfold I64;omega) c2
 refine Q0.of_codeOf ZoW Qz (by simp) (Zjv (ZiS h40.1)) ?_
 have hx:=hd_at (QH hty).1
 intro h1 h3 ct i k hct hk
 simp (disch:=omega) [Zg0,Qw,Qs]
 refine Qa pa (by simp) ?_
 simp (disch:=omega)
 refine Qa pb (by simp) ?_
 simp (disch:=omega)
 have lc:ctx.length≤1000000:=by omega
 have wi:=YP nlc false ctx [(false,QK ty)] lc (by simp)
 have ci:Zs s ((false,QK ty)::ctx):=(Zs.one oa).app hc
 have bodyOk:=H false ((false,QK ty)::ctx) (WC ty) (deep - 1) ci (by simp;omega) ob (by omega) (by omega) (by omega)
 have hdI:I64 (deep - 1):=by unfold I64;omega
 simp (disch:=omega) [hx]
 refine Qa gr (by simp) ?_
 simp (disch:=omega) [Qo]
 refine Qa wi (by simp) ?_
 simp (disch:=omega) [Qd,hdI]
 refine Qp bodyOk hct hk ?_
 rintro r i1 k1 hk1 hr
 obtain ⟨w,cs,rfl,c4',csh,clo,cal,cok⟩:=hr.el
 simp (disch:=omega) [c4',csh,cal]
 refine Wy 3 0 (fun j t h=>t 16=N j∧HasT D s (ctx.length+1) (bd (deep - 1) (WC ty).length) h1 h3 ct [none,some [N 0,N 0,.sl true true 1 [],.sl true true 1 []]] h)
  (fun t h=>HasT D s (ctx.length+1) (bd (deep - 1) (WC ty).length) h1 h3 ct [none,some [N 0,N 0,.sl true true 1 [],.sl true true 1 []]] h) ⟨by simp,i1,k1,w,cs,hk1,c4',csh,clo,cal,cok,rfl⟩ (by omega) ?_ ?_
 ·clear hr cok cal clo csh c4' hk1
  rintro j t1 hh hf hj ⟨e16,i1,k1,w,cs,hk1,c4',csh,clo,cal,cok,rfl⟩
  have c4t:List.take 4 cs=cs:=List.take_of_length_le (Nat.le_of_eq c4')
  (have e0:=hf 0 (by kernel_rfl);have e4:=hf 4 (by kernel_rfl);have e6:=hf 6 (by kernel_rfl);have e11:=hf 11 (by kernel_rfl);have e12:=hf 12 (by kernel_rfl);have e13:=hf 13 (by kernel_rfl);have e14:=hf 14 (by kernel_rfl);have e15:=hf 15 (by kernel_rfl);clear hf;simp [] at e0 e4 e6 e11 e12 e13 e14 e15)
  by_cases h6:j < 3
  ·have hb:ltB (j:Int) 3=true:=by rw [Qi];omega
   have nd:=V7 hsy false ci cok (by have:=bd_max (deep:=deep - 1) (n:=(WC ty).length) (by omega) (by omega);simp;omega) 0 (by simp)
   simp only [Int.natCast_zero] at nd
   simp (disch:=omega) [e0,e4,e6,e11,e12,e13,e14,e15,e16,hb,c4',csh,cal,c4t]
   refine Qk nd (by simp) ?_
   rintro r ⟨m,rfl,hm⟩
   simp (disch:=omega) [e0,e4,e6,e11,e12,e13,e14,e15,e16,hb,c4',csh,cal,c4t]
   refine Qa (XW t hm hg) (by simp) ?_
   cases s.le m (Xc (hd ty))
   ·simp (disch:=omega) [e0,e4,e6,e11,e12,e13,e14,e15,e16,hb,c4',csh,cal,c4t,Qd,hdI]
    refine Qp bodyOk hct hk1 ?_
    rintro r i2 k2 hk2 hr
    obtain ⟨w2,cs2,rfl,d4,dsh,dlo,dal,dok⟩:=hr.el
    have c4l:4≤cs.length:=Nat.le_of_eq c4'.symm
    simp (disch:=omega) [e0,e4,e6,e11,e12,e13,e14,e15,e16,d4,dsh,dal,c4l]
    have d4t:List.take 4 cs2=cs2:=List.take_of_length_le (Nat.le_of_eq d4)
    have d4l:4≤cs2.length:=Nat.le_of_eq d4.symm
    have d4d:List.drop 4 cs2=[]:=List.drop_of_length_le (Nat.le_of_eq d4)
    have c4d:List.drop 4 cs=[]:=List.drop_of_length_le (Nat.le_of_eq c4')
    by_cases h1':j=1
    ·subst h1'
     have hb1:eqB ((1:Nat):Int) 1=true:=by rw [Qe];rfl
     simp (disch:=omega) [e0,e4,e6,e11,e12,e13,e14,e15,e16,d4,dsh,dal,d4t,d4l,c4d,d4d,hb1]
     refine Qa (ZaT false false _ _ (by omega)) (by simp) ?_
     cases QK ty == WC ty
     ·simp (disch:=omega) [e0,e4,e6,e11,e12,e13,e14,e15,e16,d4,dsh,dal,d4t,d4l,c4d,d4d,hb1,Qd]
      exact ⟨i2,k2,w2,cs2,hk2,d4,dsh,dlo,dal,dok,rfl⟩
     ·simp (disch:=omega) [e0,e4,e6,e11,e12,e13,e14,e15,e16,d4,dsh,dal,d4t,d4l,c4d,d4d,hb1,Qd]
      refine Qa (ZbO 0 0 true [] (by simp) (by simp)) (by simp) ?_
      simp (disch:=omega) [e0,e4,e6,e11,e12,e13,e14,e15,e16,d4,dsh,dal,d4t,d4l,c4d,d4d,hb1,Qd]
      have vok:TmOk s (ctx.length+1) (bd (deep - 1) (WC ty).length) (.mk 0 0 true [] true []):=TmOk.k0 (by omega) (ZpC (by omega)) (by unfold I64;omega) (by simp [Lok]) (by simp [Zt]) (ZiS (QH ob).1)
      exact ⟨i2,k2,_,_,hk2,rfl,by simp [GTerm.cells,QM],by simp,by simp,vok,rfl⟩
    ·have hb1:eqB (j:Int) 1=false:=by rw [Qc];omega
     simp (disch:=omega) [e0,e4,e6,e11,e12,e13,e14,e15,e16,d4,dsh,dal,d4t,d4l,c4d,d4d,hb1,Qd]
     exact ⟨by omega,i2,k2,w2,cs2,hk2,d4,dsh,dlo,dal,dok,rfl⟩
   ·simp (disch:=omega) [e0,e4,e6,e11,e12,e13,e14,e15,e16,hb,c4',csh,cal,c4t]
    exact ⟨i1,k1,w,cs,hk1,c4',csh,clo,cal,cok,rfl⟩
  ·have hb:ltB (j:Int) 3=false:=by rw [Qg];omega
   simp (disch:=omega) [e0,e4,e6,e11,e12,e13,e14,e15,e16,hb,c4',csh,cal,c4t]
   exact ⟨i1,k1,w,cs,hk1,c4',csh,clo,cal,cok,rfl⟩
 ·clear hr cok cal clo csh c4' hk1
  rintro t1 hh hf ⟨i1,k1,w,cs,hk1,c4',csh,clo,cal,cok,rfl⟩
  (have e10:=hf 10 (by kernel_rfl);have e11:=hf 11 (by kernel_rfl);have e13:=hf 13 (by kernel_rfl);have e15:=hf 15 (by kernel_rfl);clear hf;simp [] at e10 e11 e13 e15)
  have c4t:List.take 4 cs=cs:=List.take_of_length_le (Nat.le_of_eq c4')
  simp (disch:=omega) [e10,e11,e13,e15,c4',csh,cal,c4t,Qo]
  refine Jh (.inr rfl) (by simp [e10]) rfl rfl hk1 (by simp [clo]) (ZlN (nlT:=false) (ty:=QK ty) (ks:=[w]) (by simp) (by simp) (by simp) (by simp [Qq,csh,QM]) (by simp [clo]) ?_)
  refine TmOk.k1 (by omega) (ZpU hg oa) (GI h16 hg) (ZbW (JJ oa)) (by simp [Zt]) cok ?_ (ZmH (by omega) (by omega))
  have:Qr 9 0=1:=by simp [Qr]
  omega
end
mutual
theorem sk_nm:∀ (a b:GTerm) (nv:Int),a.nm=b.nm→b.sk nv→a.sk nv
 | .mk op n nl1 ty nl2 ks,.mk op' n' nl1' ty' nl2' ks',nv,h,hs=>by
  simp only [GTerm.nm,GTerm.mk.injEq] at h
  obtain ⟨rfl,rfl,_,rfl,_,h⟩:=h
  simp only [GTerm.sk] at hs ⊢
  refine ⟨⟨hs.1.1,hs.1.2.1,hs.1.2.2.1,by rw [ZaQ h];exact hs.1.2.2.2⟩,fun h0=>?_,sks_nm ks ks' nv _ 0 h hs.2.2⟩
  obtain ⟨q1,q2,q3,q4⟩:=hs.2.1 h0
  refine ⟨q1,q2,?_,q4⟩
  have:=ZaQ h
  rw [q3] at this
  exact List.eq_nil_of_length_eq_zero (by simpa using this)
theorem sks_nm:∀ (a b:List GTerm) (nv op:Int) (k:Nat),nms a=nms b→sks nv op k b→sks nv op k a
 | [],_,_,_,_,_,_=>by simp [sks]
 | _::_,[],_,_,_,h,_=>by simp [nms] at h
 | a::a',b::b',nv,op,k,h,hw=>by
  simp only [nms,List.cons.injEq,sks] at h hw ⊢
  exact ⟨sk_nm a b _ h.1 hw.1,sks_nm a' b' _ _ _ h.2 hw.2⟩
end
theorem isD_op1 {s:GSys} {nv m:Nat} {op n:Int} {a:GTerm} (h:TmOk s nv m (.mk op n true [] false [a])):isD s nv m (.agg [N op,N n,.sl true true 1 [],.sl false false 4 [a.cells]]):=by
 have:=ZeM h
 simpa only [QM] using this
theorem ZbQ {s:GSys} {nv m:Nat} {op n:Int} {a b:GTerm} (h:TmOk s nv m (.mk op n true [] false [a,b])):isD s nv m (.agg [N op,N n,.sl true true 1 [],.sl false false 4 [a.cells,b.cells]]):=by
 have:=ZeM h
 simpa only [QM] using this
theorem ZqV {s:GSys} {nv m:Nat} {op n:Int} {a b c:GTerm} (h:TmOk s nv m (.mk op n true [] false [a,b,c])):isD s nv m (.agg [N op,N n,.sl true true 1 [],.sl false false 4 [a.cells,b.cells,c.cells]]):=by
 have:=ZeM h
 simpa only [QM] using this
theorem op1_ok (op n:Int) (a:GTerm):Qf Tryz.prog WN [N op,N n,.sl false false 4 [a.cells]] (fun r=>r=.agg [N op,N n,.sl true true 1 [],.sl false false 4 [a.cells]]):=ZbO op n false [a.cells] (by simp [Qq]) (by simp)
theorem ZcA (op n:Int) (a b:GTerm):Qf Tryz.prog WN [N op,N n,.sl false false 4 [a.cells,b.cells]] (fun r=>r=.agg [N op,N n,.sl true true 1 [],.sl false false 4 [a.cells,b.cells]]):=ZbO op n false [a.cells,b.cells] (by simp [Qq]) (by simp)
theorem op3_ok (op n:Int) (a b c:GTerm):Qf Tryz.prog WN [N op,N n,.sl false false 4 [a.cells,b.cells,c.cells]] (fun r=>r=.agg [N op,N n,.sl true true 1 [],.sl false false 4 [a.cells,b.cells,c.cells]]):=ZbO op n false [a.cells,b.cells,c.cells] (by simp [Qq]) (by simp)
theorem ZaZ {size:Int} {data:Bool} {n:Nat} {l:List Int} (h:Zi1 size data n l):l.length≤n:=by
 obtain ⟨t,_,_,_,h4⟩:=h
 exact h4
theorem ZoC:∀ x:LV,share x≠.dead→x.alive=true
 | .sc _,_=>rfl
 | .sl ..,_=>rfl
 | .ha ..,_=>rfl
 | .raw _,h=>by simp [share] at h
 | .ptr ..,_=>rfl
 | .rp _,_=>rfl
 | .fn ..,_=>rfl
 | .fnm ..,_=>rfl
 | .agg _,_=>rfl
 | .tup _,_=>rfl
 | .dead,h=>by simp [share] at h
 | .both u t,h=>by
  simp only [share] at h
  have:=ZoC t h
  simp only [LV.alive,this,Bool.true_and]
  cases t<;>simp_all [share]
theorem Zb7:∀ xs:List LV,(∀ y∈shareAll xs,y≠.dead)→Wh xs=true
 | [],_=>rfl
 | x::xs,h=>by
  simp only [shareAll,List.mem_cons,forall_eq_or_imp] at h
  simp only [Wh,ZoC x h.1,Zb7 xs h.2,Bool.and_self]
theorem ZP {cs:List LV} {w:GTerm} (h:shareAll cs=w.cells):Wh cs=true:=by
 refine Zb7 cs fun y hy=>?_
 rw [h] at hy
 obtain ⟨op,n,nl1,ty,nl2,ks⟩:=w
 simp only [GTerm.cells,List.mem_cons,List.not_mem_nil,or_false] at hy
 rcases hy with rfl | rfl | rfl | rfl<;>simp
mutual
theorem ZbE {size:Int} {closed:Bool}:∀ (g:GTerm) (nv:Int),g.wf→W8 nv size closed g=true→g.sk nv
 | .mk op n nl1 ty nl2 ks,nv,hw,hf=>by
  simp only [W8,Y4,Bool.and_eq_true] at hf
  simp only [GTerm.wf] at hw
  obtain ⟨⟨f1,f2,f3⟩,f4⟩:=hf
  rw [Qe] at f1
  simp only [GTerm.sk]
  refine ⟨⟨hw.1,hw.2.1,hw.2.2.1,?_⟩,fun h0=>?_,ZnE ks nv op 0 hw.2.2.2.2 f4⟩
  ·have:YT op≤3:=by (unfold YT;repeat' split)<;>omega
   omega
  ·subst h0
   simp [ZcN,eqB,Q5] at f2
   have f1':ks=[]:=by
    simp [YT] at f1
    exact f1
   have f3':ty=[]:=by
    simp [tyB,Xy,eqB] at f3
    exact f3
   exact ⟨f2.1,f2.2,f1',f3'⟩
theorem ZnE {size:Int} {closed:Bool}:∀ (ks:List GTerm) (nv op:Int) (k:Nat),wfs ks→W5 nv size closed op k ks=true→sks nv op k ks
 | [],_,_,_,_,_=>by simp [sks]
 | t::ts,nv,op,k,hw,hf=>by
  simp only [W5,Bool.and_eq_true] at hf
  simp only [wfs] at hw
  simp only [sks]
  exact ⟨ZbE t _ hw.1 hf.1,ZnE ts nv op (k+1) hw.2 hf.2⟩
end
theorem Zrz {s:GSys} {nv m:Nat} {w:GTerm} {r:LV} (hw:TmOk s nv m w) (h:ZeP (shG 1 0 w) r) (lo:Low 0 r) (hb:nv+2 * m≤100000):isD s (nv+1) m r:=by
 obtain ⟨v,cs,rfl,h2,h3,h4⟩:=h
 have sz:=hw.size
 have k1:=ZbE w nv hw.wf hw.form
 have k2:=sk_sh (bw:=1) (by omega) w nv 0 (by omega) (by omega) k1
 have k3:=sk_nm v _ _ h3 k2
 have e1:=ZhW (size:=s.size) (bw:=1) (by omega) w nv 0 (by omega) (by omega)
 refine ⟨v,cs,rfl,h2,by simpa using lo,ZP h2,sk_wf _ _ k3,h4,?_,?_⟩
 ·rw [← ZbD v,h3,ZbD,show ((nv+1:Nat):Int)=(nv:Int)+1 by omega,e1]
  exact hw.form
 ·rw [← Zbt v,h3,Zbt,Zfe]
  exact sz
section
variable (D:Dr) (ok:D.ok)
include ok
theorem Zpt {s:GSys} (hsy:s.sys=true) {f:Nat} (H:DOf D s f) (nlc:Bool) (ctx:Wz) (ty:List Int) (deep:Int) (hc:Zs s ctx) (hf:ctx.length+2 * (f+1)≤1000) (hty:okL s.size ty=true) (hd0:0≤deep)
  (hm:41 * deep.toNat+41≤f) (hd4:deep≤3) :
  Q0 Tryz.prog D V9 [s.lv,LC nlc ctx,L false ty,N deep] (isD s ctx.length (3 * T0 deep.toNat+6)):=by
 have t:=GSys.sys_of hsy
 have h16:=t.hi
 have h40:=QH hty
 have hT:=T0_ge deep.toNat
 have Ha:∀ (nl:Bool) (cx:Wz) (l:List Int),Zs s cx→cx.length≤ctx.length+2→okL s.size l=true→Q0 Tryz.prog D QW [s.lv,LC nl cx,L false l,N deep] (isD s cx.length (T0 deep.toNat)):=fun nl cx l h1 h2 h3=>by
  have h4:=QH h3
  exact (H nl cx l deep h1 (by omega) h3 (by omega) (by omega) (by omega)).mono fun r h=>h.mono (Zlg h4.2)
 have Hb:∀ (nl:Bool) (cx:Wz) (l:List Int),Zs s cx→cx.length≤ctx.length+2→okL s.size l=true→Q0 Tryz.prog D QW [s.lv,LC nl cx,L false l,N (deep - 1)] (isD s cx.length (T0 deep.toNat)):=fun nl cx l h1 h2 h3=>by
  have h4:=QH h3
  exact (H nl cx l (deep - 1) h1 (by omega) h3 (by omega) (by omega) (by omega)).mono fun r h=>h.mono (Nat.le_trans (Zlg h4.2) (ZmA (by omega)))
 have hs:1≤s.size∧s.size≤16:=⟨by have:=t.lo;omega,h16⟩
 have lc:ctx.length≤1000000:=by omega
 have hTm:T0 deep.toNat≤1158:=ZmA (d:=deep.toNat) (e:=3) (by omega)
 have o0:okL s.size [0]=true:=Zl9 s.size
 refine Q0.of_codeOf Zip Qz (by simp) (Zjv (by omega)) ?_
 intro h1 h3 ct i k hct hk
 have hdI:I64 (deep - 1):=by unfold I64;omega
 simp (disch:=omega) [ZcO,Qw,Qs,Qo]
 refine Qp (Wn D ok 6 (by unfold I64;omega)) hct hk ?_
 rintro r i0 k0 hk0 ⟨m,rfl,hm0,hm1,_⟩
 simp (disch:=omega)
 (with_reducible first | refine Qn (fun q0=>?_) (fun q0=>?_) | refine Qm (fun q0=>?_) (fun q0=>?_))
 ·
  simp (disch:=omega)
  refine Qp (Ha nlc ctx [0] hc (by omega) o0) hct hk0 ?_
  rintro r i1 k1 hk1 hr
  obtain ⟨w1,cs1,rfl,a4,ash,alo,aal,aok⟩:=hr.el
  simp (disch:=omega)
  refine Qp (Ha nlc ctx ty hc (by omega) hty) hct hk1 ?_
  rintro r i2 k2 hk2 hr
  obtain ⟨w2,cs2,rfl,b4,bsh,blo,bal,bok⟩:=hr.el
  simp (disch:=omega)
  refine Qp (Ha nlc ctx ty hc (by omega) hty) hct hk2 ?_
  rintro r i3 k3 hk3 hr
  obtain ⟨w3,cs3,rfl,c4,csh,clo,cal,cok⟩:=hr.el
  have l1:=cells_length w1;have l2:=cells_length w2;have l3:=cells_length w3
  simp (disch:=omega) [a4,b4,c4,ash,bsh,csh,aal,bal,cal,List.take_append,List.drop_append,List.take_of_length_le,List.drop_of_length_le,Qo,Qq]
  refine Qa (op3_ok 3 0 w1 w2 w3) (by simp) ?_
  simp (disch:=omega)
  refine Jh (.inr rfl) (by simp) rfl rfl hk3 (by simp) (ZqV ?_)
  refine TmOk.k3 (by omega) (Zib (by simp)) (by unfold I64;omega) (by simp [Lok]) (by simp [Zt]) aok (by simp [Qr]) bok (by simp [Qr]) cok (by simp [Qr]) (by omega)
 simp (disch:=omega)
 (with_reducible first | refine Qn (fun q1=>?_) (fun q1=>?_) | refine Qm (fun q1=>?_) (fun q1=>?_))
 ·
  simp (disch:=omega)
  refine Qp (X9 D ok 2 (by unfold I64;omega)) hct hk0 ?_
  rintro r i1 k1 hk1 ⟨dt,rfl⟩
  simp (disch:=omega)
  refine Qp (Jd D ok s hs dt 1 (by omega)) hct hk1 ?_
  rintro r i2 k2 hk2 ⟨la,rfl,hla⟩
  have oa:=Jg hla (by omega)
  have na:la.length≤3:=ZaZ hla
  simp (disch:=omega)
  refine Qp (Jd D ok s hs true 1 (by omega)) hct hk2 ?_
  rintro r i3 k3 hk3 ⟨lb,rfl,hlb⟩
  have ob:=Jg hlb (by omega)
  have nb:lb.length≤3:=ZaZ hlb
  have ci:Zs s ((false,lb)::(false,la)::ctx):=(Zs.two ob oa).app hc
  have og:okL s.size (1::(la++lb))=true:=ZbF oa ob Xt.1 Zf4.1 (by simp;omega)
  have gl2:=XT 1 false false false la lb (by omega) (by omega)
  obtain ⟨gl,hgl⟩:∃ gl,1::(la++lb)=gl:=⟨_,rfl⟩
  rw [hgl] at og gl2
  simp (disch:=omega) [Qo]
  refine Qa (YP nlc false ctx [(false,lb),(false,la)] lc (by simp)) (by simp) ?_
  simp (disch:=omega)
  refine Qp (Ha false ((false,lb)::(false,la)::ctx) ty ci (by simp) hty) hct hk3 ?_
  rintro r i4 k4 hk4 hr
  obtain ⟨w1,cs1,rfl,a4,ash,alo,aal,aok⟩:=hr.el
  have n0:=V7 hsy false ci aok (by simp;omega) 0 (by simp)
  have n1:=V7 hsy false ci aok (by simp;omega) 1 (by simp)
  simp only [Int.natCast_zero,Int.natCast_one] at n0 n1
  simp (disch:=omega) [a4,ash,aal,List.take_of_length_le,Qs]
  refine Qk n0 (by simp) ?_
  rintro r ⟨m0,rfl,hm0⟩
  simp (disch:=omega) [a4,ash,aal,List.take_of_length_le]
  refine Qk n1 (by simp) ?_
  rintro r ⟨m1,rfl,hm1⟩
  have j0:=Vp hsy hm0 hm1
  have j1:=Vp hsy (GSys.G1 t) j0
  simp (disch:=omega)
  refine Qa (Vy t hm0 hm1) (by simp) ?_
  simp (disch:=omega)
  refine Qa (Vy t (GSys.G1 t) j0) (by simp) ?_
  simp (disch:=omega)
  refine Qp (Zdz D ok t _ j1) hct hk4 ?_
  rintro r i5 k5 hk5 ⟨g,rfl,hg⟩
  simp (disch:=omega) [Qo]
  refine Qa gl2 (by simp) ?_
  simp (disch:=omega)
  refine Qp (Ha nlc ctx _ hc (by omega) og) hct hk5 ?_
  rintro r i6 k6 hk6 hr
  obtain ⟨w2,cs2,rfl,b4,bsh,blo,bal,bok⟩:=hr.el
  simp (disch:=omega) [a4,b4,ash,bsh,aal,bal,List.take_append,List.drop_append,List.take_of_length_le,List.drop_of_length_le,Qo,Qq]
  refine Qa (ZcA 5 g w2 w1) (by simp) ?_
  simp (disch:=omega)
  refine Jh (.inr rfl) (by simp) rfl rfl hk6 (by simp) (ZbQ ?_)
  refine TmOk.k2 (by omega) (Zl1 hg (by simp)) (GI h16 hg) (by simp [Lok]) (by simp [Zt]) bok (by simp [Qr]) aok (by simp [Qr];omega) (by omega)
 simp (disch:=omega)
 (with_reducible first | refine Qn (fun q2=>?_) (fun q2=>?_) | refine Qm (fun q2=>?_) (fun q2=>?_))
 ·
  simp (disch:=omega)
  refine Qp (Jd D ok s hs true 1 (by omega)) hct hk0 ?_
  rintro r i2 k2 hk2 ⟨la,rfl,hla⟩
  have oa:=Jg hla (by omega)
  have na:la.length≤3:=ZaZ hla
  simp (disch:=omega)
  refine Qp (Jd D ok s hs true 1 (by omega)) hct hk2 ?_
  rintro r i3 k3 hk3 ⟨lb,rfl,hlb⟩
  have ob:=Jg hlb (by omega)
  have nb:lb.length≤3:=ZaZ hlb
  have cia:Zs s ((false,la)::ctx):=(Zs.one oa).app hc
  have cib:Zs s ((false,lb)::ctx):=(Zs.one ob).app hc
  have og:okL s.size (2::(la++lb))=true:=ZbF oa ob Xt.2 Zf4.2 (by simp;omega)
  have gl2:=XT 2 false false false la lb (by omega) (by omega)
  obtain ⟨gl,hgl⟩:∃ gl,2::(la++lb)=gl:=⟨_,rfl⟩
  rw [hgl] at og gl2
  simp (disch:=omega) [Qo]
  refine Qa (YP nlc false ctx [(false,la)] lc (by simp)) (by simp) ?_
  simp (disch:=omega) [Qo]
  refine Qa (YP nlc false ctx [(false,lb)] lc (by simp)) (by simp) ?_
  simp (disch:=omega)
  refine Qp (Ha false ((false,la)::ctx) ty cia (by simp) hty) hct hk3 ?_
  rintro r i4 k4 hk4 hr
  obtain ⟨w1,cs1,rfl,a4,ash,alo,aal,aok⟩:=hr.el
  simp (disch:=omega) [a4,ash,aal,List.take_of_length_le,Qs]
  refine Qp (Ha false ((false,lb)::ctx) ty cib (by simp) hty) hct hk4 ?_
  rintro r i5 k5 hk5 hr
  obtain ⟨w2,cs2,rfl,b4,bsh,blo,bal,bok⟩:=hr.el
  have n0:=V7 hsy false cia aok (by simp;omega) 0 (by simp)
  have n1:=V7 hsy false cib bok (by simp;omega) 0 (by simp)
  simp only [Int.natCast_zero] at n0 n1
  simp (disch:=omega) [a4,ash,aal,b4,bsh,bal,List.take_of_length_le,Qs]
  refine Qk n0 (by simp) ?_
  rintro r ⟨m0,rfl,hm0⟩
  simp (disch:=omega) [a4,ash,aal,b4,bsh,bal,List.take_of_length_le]
  refine Qk n1 (by simp) ?_
  rintro r ⟨m1,rfl,hm1⟩
  have j0:=Vp hsy hm0 hm1
  have j1:=Vp hsy (GSys.G1 t) j0
  simp (disch:=omega)
  refine Qa (Vy t hm0 hm1) (by simp) ?_
  simp (disch:=omega)
  refine Qa (Vy t (GSys.G1 t) j0) (by simp) ?_
  simp (disch:=omega)
  refine Qp (Zdz D ok t _ j1) hct hk5 ?_
  rintro r i6 k6 hk6 ⟨g,rfl,hg⟩
  simp (disch:=omega) [Qo]
  refine Qa gl2 (by simp) ?_
  simp (disch:=omega)
  refine Qp (Ha nlc ctx _ hc (by omega) og) hct hk6 ?_
  rintro r i7 k7 hk7 hr
  obtain ⟨w3,cs3,rfl,c4,csh,clo,cal,cok⟩:=hr.el
  have l1:=cells_length w1;have l2:=cells_length w2;have l3:=cells_length w3
  simp (disch:=omega) [a4,b4,c4,ash,bsh,csh,aal,bal,cal,List.take_append,List.drop_append,List.take_of_length_le,List.drop_of_length_le,Qo,Qq]
  refine Qa (op3_ok 8 g w3 w1 w2) (by simp) ?_
  simp (disch:=omega)
  refine Jh (.inr rfl) (by simp) rfl rfl hk7 (by simp) (ZqV ?_)
  refine TmOk.k3 (by omega) (Zl1 hg (by simp)) (GI h16 hg) (by simp [Lok]) (by simp [Zt]) cok (by simp [Qr]) aok (by simp [Qr]) bok (by simp [Qr]) (by omega)
 simp (disch:=omega)
 (with_reducible first | refine Qn (fun q3=>?_) (fun q3=>?_) | refine Qm (fun q3=>?_) (fun q3=>?_))
 ·
  simp (disch:=omega)
  refine Qp (X9 D ok 2 (by unfold I64;omega)) hct hk0 ?_
  rintro r i1 k1 hk1 ⟨dt,rfl⟩
  simp (disch:=omega)
  refine Qp (Jd D ok s hs dt 1 (by omega)) hct hk1 ?_
  rintro r i2 k2 hk2 ⟨la,rfl,hla⟩
  have oa:=Jg hla (by omega)
  have na:la.length≤3:=ZaZ hla
  have cia:Zs s ((false,la)::ctx):=(Zs.one oa).app hc
  simp (disch:=omega) [Qo]
  refine Qa (YP nlc false ctx [(false,la)] lc (by simp)) (by simp) ?_
  simp (disch:=omega)
  refine Qp (Ha false ((false,la)::ctx) ty cia (by simp) hty) hct hk2 ?_
  rintro r i4 k4 hk4 hr
  obtain ⟨w1,cs1,rfl,a4,ash,alo,aal,aok⟩:=hr.el
  have n0:=V7 hsy false cia aok (by simp;omega) 0 (by simp)
  simp only [Int.natCast_zero] at n0
  simp (disch:=omega) [a4,ash,aal,List.take_of_length_le,Qs]
  refine Qk n0 (by simp) ?_
  rintro r ⟨m0,rfl,hm0⟩
  simp (disch:=omega)
  refine Qp (Zdz D ok t _ hm0) hct hk4 ?_
  rintro r i6 k6 hk6 ⟨g,rfl,hg⟩
  obtain ⟨b1,b2,b3,b4'⟩:=ZnZ hg.1 hg.2 h16
  have og:okL s.size ((19+g)::la)=true:=ZqK oa b4' b3 (by simp;omega)
  have gl1:=Zbq (19+g) false false la (by omega)
  have g0:=hg.1;have g1:=hg.2
  obtain ⟨gl,hgl⟩:∃ gl,(19+g)::la=gl:=⟨_,rfl⟩
  rw [hgl] at og gl1
  simp (disch:=omega) [Qo,Qd]
  refine Qa gl1 (by simp) ?_
  simp (disch:=omega)
  refine Qp (Ha nlc ctx _ hc (by omega) og) hct hk6 ?_
  rintro r i7 k7 hk7 hr
  obtain ⟨w3,cs3,rfl,c4,csh,clo,cal,cok⟩:=hr.el
  simp (disch:=omega) [a4,c4,ash,csh,aal,cal,List.take_append,List.drop_append,List.take_of_length_le,List.drop_of_length_le,Qo,Qq]
  refine Qa (ZcA 12 1 w3 w1) (by simp) ?_
  simp (disch:=omega)
  refine Jh (.inr rfl) (by simp) rfl rfl hk7 (by simp) (ZbQ ?_)
  refine TmOk.k2 (by omega) (Zl1 (GSys.G1 t) (by simp)) (by unfold I64;omega) (by simp [Lok]) (by simp [Zt]) cok (by simp [Qr]) aok (by simp [Qr]) (by omega)
 simp (disch:=omega)
 refine Qp (X9 D ok 2 (by unfold I64;omega)) hct hk0 ?_
 rintro r i1 k1 hk1 ⟨dt,rfl⟩
 simp (disch:=omega)
 refine Qp (Jd D ok s hs dt 2 (by omega)) hct hk1 ?_
 rintro r i2 k2 hk2 ⟨la,rfl,hla⟩
 have oa:=Jg hla (by omega)
 have na:la.length≤7:=ZaZ hla
 have cia:Zs s ((false,la)::ctx):=(Zs.one oa).app hc
 simp (disch:=omega) [Qo]
 refine Qa (YP nlc false ctx [(false,la)] lc (by simp)) (by simp) ?_
 simp (disch:=omega)
 refine Qp (Ha false ((false,la)::ctx) ty cia (by simp) hty) hct hk2 ?_
 rintro r i4 k4 hk4 hr
 obtain ⟨w1,cs1,rfl,a4,ash,alo,aal,aok⟩:=hr.el
 have n0:=V7 hsy false cia aok (by simp;omega) 0 (by simp)
 simp only [Int.natCast_zero] at n0
 simp (disch:=omega) [a4,ash,aal,List.take_of_length_le,Qs]
 refine Qk n0 (by simp) ?_
 rintro r ⟨m0,rfl,hm0'⟩
 simp (disch:=omega)
 refine Qp (Zdz D ok t _ hm0') hct hk4 ?_
 rintro r i6 k6 hk6 ⟨g,rfl,hg⟩
 have g0:=hg.1;have g1:=hg.2
 have l1:=cells_length w1
 obtain ⟨b1,b2,b3,b4'⟩:=ZiQ g0 g1 h16
 have gl2:=XT (3+g) false false false la ty (by omega) (by omega)
 have fok:TmOk s ctx.length (T0 deep.toNat+1) (.mk 9 g false la false [w1]):=TmOk.k1 (by omega) (ZpU hg oa) (GI h16 hg) (ZbW (JJ oa)) (by simp [Zt]) aok (by simp [Qr]) (by omega)
 simp (disch:=omega) [a4,ash,aal,List.take_append,List.drop_append,List.take_of_length_le,List.drop_of_length_le,Qo,Qq,Qs]
 refine Qp (X9 D ok 4 (by unfold I64;omega)) hct hk6 ?_
 rintro r i7 k7 hk7 ⟨b,rfl⟩
 cases b
 ·simp (disch:=omega) [Qd]
  refine Qp (Hb nlc ctx la hc (by omega) oa) hct hk7 ?_
  rintro r i8 k8 hk8 hr
  obtain ⟨w3,cs3,rfl,c4,csh,clo,cal,cok⟩:=hr.el
  have l3:=cells_length w3
  have op:=ZcA 10 0 (.mk 9 g false la false [w1]) w3
  have fin:isD s ctx.length (3 * T0 deep.toNat+6) (.agg [N 10,N 0,.sl true true 1 [],.sl false false 4 [GTerm.cells (.mk 9 g false la false [w1]),w3.cells]]):=ZbQ (TmOk.k2 (by omega) (Zib (by simp)) (by unfold I64;omega) (by simp [Lok]) (by simp [Zt]) fok (by simp [Qr]) cok (by simp [Qr]) (by omega))
  simp only [GTerm.cells,QM] at op fin
  simp (disch:=omega) [a4,c4,ash,csh,aal,cal,List.take_append,List.drop_append,List.take_of_length_le,List.drop_of_length_le,Qo,Qq]
  refine Qa op (by simp) ?_
  simp (disch:=omega)
  exact Jh (.inr rfl) (by simp) rfl rfl hk8 (by simp) fin
 ·have vI:I64 (3+g):=by unfold I64;omega
  simp (disch:=omega) [Qd]
  obtain ⟨way,hway⟩:∃ l,(3+g)::(la++ty)=l:=⟨_,rfl⟩
  rw [hway] at gl2
  refine Qa gl2 (by simp) ?_
  simp (disch:=omega)
  by_cases hwl:way.length < 12
  ·have hb:ltB (way.length:Int) 12=true:=by rw [Qi];omega
   have ow:okL s.size way=true:=by rw [← hway];exact ZbF oa hty b4' b3 (by rw [hway];omega)
   simp (disch:=omega) [hb]
   refine Qa (ZbO 0 0 true [] (by simp) (by simp)) (by simp) ?_
   simp (disch:=omega) [Qd]
   refine Qp (Hb nlc ctx la hc (by omega) oa) hct hk7 ?_
   rintro r i8 k8 hk8 hr
   obtain ⟨w3,cs3,rfl,c4,csh,clo,cal,cok⟩:=hr.el
   have l3:=cells_length w3
   have csz:=cok.size
   have sh:=ZnN 1 (by omega) w3.size w3 ctx.length 0 (Nat.le_refl _) (ZbE w3 _ cok.wf cok.form) (by omega) (by omega) (by omega) (by omega)
   simp (disch:=omega) [c4,csh,cal,List.take_of_length_le]
   refine Qk (Qf.low sh) (by simp) ?_
   rintro r ⟨hr2,lo2⟩
   obtain ⟨w4,cs4,rfl,d4,dsh,dlo,dal,dok⟩:=(Zrz cok hr2 lo2 (by omega)).el
   have l4:=cells_length w4
   have op:=ZcA 10 0 (.mk 0 0 true [] true []) w4
   have cak:TmOk s (ctx.length+1) (T0 deep.toNat+2) (.mk 10 0 true [] false [.mk 0 0 true [] true [],w4]):=TmOk.k2 (by omega) (Zib (by simp)) (by unfold I64;omega) (by simp [Lok]) (by simp [Zt])
    (TmOk.k0 (nv:=ctx.length+1) (m:=1) (by omega) (ZpC (by omega)) (by unfold I64;omega) (by simp [Lok]) (by simp [Zt]) (by omega)) (by simp [Qr]) dok (by simp [Qr]) (by omega)
   have lamk:TmOk s ctx.length (T0 deep.toNat+3) (.mk 9 1 false way false [.mk 10 0 true [] false [.mk 0 0 true [] true [],w4]]):=TmOk.k1 (by omega) (ZpU (GSys.G1 t) ow) (by unfold I64;omega) (ZbW (JJ ow)) (by simp [Zt]) cak (by simp [Qr]) (by omega)
   have op':=ZcA 10 0 (.mk 9 1 false way false [.mk 10 0 true [] false [.mk 0 0 true [] true [],w4]]) (.mk 9 g false la false [w1])
   have fin:isD s ctx.length (3 * T0 deep.toNat+6) (.agg [N 10,N 0,.sl true true 1 [],.sl false false 4 [GTerm.cells (.mk 9 1 false way false [.mk 10 0 true [] false [.mk 0 0 true [] true [],w4]]),GTerm.cells (.mk 9 g false la false [w1])]]) :=
    ZbQ (TmOk.k2 (by omega) (Zib (by simp)) (by unfold I64;omega) (by simp [Lok]) (by simp [Zt]) lamk (by simp [Qr]) fok (by simp [Qr]) (by omega))
   simp only [GTerm.cells,QM] at op op' fin
   simp (disch:=omega) [d4,dsh,dal,List.take_append,List.drop_append,List.take_of_length_le,List.drop_of_length_le,Qo,Qq,Qs]
   refine Qa op (by simp) ?_
   simp (disch:=omega) [Qo,Qq,Qs]
   refine Qa op' (by simp) ?_
   simp (disch:=omega)
   exact Jh (.inr rfl) (by simp) rfl rfl hk8 (by simp) fin
  ·have hb:ltB (way.length:Int) 12=false:=by rw [Qg];omega
   simp (disch:=omega) [hb,Qd]
   refine Qp (Hb nlc ctx la hc (by omega) oa) hct hk7 ?_
   rintro r i8 k8 hk8 hr
   obtain ⟨w3,cs3,rfl,c4,csh,clo,cal,cok⟩:=hr.el
   have l3:=cells_length w3
   have op:=ZcA 10 0 (.mk 9 g false la false [w1]) w3
   have fin:isD s ctx.length (3 * T0 deep.toNat+6) (.agg [N 10,N 0,.sl true true 1 [],.sl false false 4 [GTerm.cells (.mk 9 g false la false [w1]),w3.cells]]):=ZbQ (TmOk.k2 (by omega) (Zib (by simp)) (by unfold I64;omega) (by simp [Lok]) (by simp [Zt]) fok (by simp [Qr]) cok (by simp [Qr]) (by omega))
   simp only [GTerm.cells,QM] at op fin
   simp (disch:=omega) [a4,c4,ash,csh,aal,cal,List.take_append,List.drop_append,List.take_of_length_le,List.drop_of_length_le,Qo,Qq]
   refine Qa op (by simp) ?_
   simp (disch:=omega)
   exact Jh (.inr rfl) (by simp) rfl rfl hk8 (by simp) fin
end
def KW (z:Nat) (Qh:List (List LV)):LV:=if Qh.isEmpty=true then .sl true true z [] else .sl true false 4 Qh
theorem KW_app {z:Nat} {Qh:List (List LV)} {r:List LV} (h:Qh.length < 1099511627776):WS 4 (KW z Qh) (.sl true false 4 [r])=some (KW z (Qh++[r])):=by
 cases Qh with
 | nil=>simp [KW,WS,most]
 | cons a l =>
  simp only [KW,List.isEmpty_cons,Bool.false_eq_true,if_false,List.cons_append,WS]
  rw [if_pos ⟨.inl trivial,.inl trivial,.inl trivial,by simp [most] at h ⊢;omega⟩]
  simp
theorem Zqq (z:Nat) (ks:List (List LV)):(KW z ks).flat=true:=by unfold KW;split<;>rfl
theorem Zox (z:Nat) (ks:List (List LV)):(KW z ks).cells=[KW z ks]:=by unfold KW;split<;>rfl
theorem Ze6 (z:Nat) (ks:List (List LV)):(KW z ks).alive=true:=by unfold KW;split<;>rfl
theorem KW_nz (z:Nat) (ks:List (List LV)):nz (KW z ks)=nz (.sl true ks.isEmpty 4 ks):=by
 cases ks with
 | nil=>simp [KW,nz]
 | cons a l=>simp [KW]
theorem KW_low {z:Nat} {ks:List (List LV)} (h:We 0 ks):Low 0 (KW z ks):=by unfold KW;split<;>simp [h]
theorem ZnV {z:Nat} {op n:Int} {f1 f2:Bool} {ty:List Int} {K ws:List GTerm} {Qh:List (List LV)} {T:LV} {nlT:Bool} (h:Qq Qh=QM ws) (hn:nms ws=nms K) (hT:share T=L nlT ty) (lT:Low 0 T) (lo:We 0 Qh) (hf:Zt nlT ty) (hfw:fls ws):isTz (.mk op n f1 ty f2 K) (.agg [N op,N n,T,KW z Qh]):=by
 refine ⟨.agg [N op,N n,T,.sl true Qh.isEmpty 4 Qh],by simp [nz,Y6,KW_nz],⟨.mk op n nlT ty Qh.isEmpty ws,_,rfl,?_,?_,?_⟩,by simp [lT,lo]⟩
 ·simp only [shareAll,share,hT,h,GTerm.cells]
 ·simp only [GTerm.nm,hn]
  rw [← Zdq ws,hn,Zdq]
 ·simp only [GTerm.fl]
  exact ⟨hf,hfw⟩
theorem ZoO (d:Nat):∀ (g:GTerm),g.size≤d→g.wf→g.fl→Qf Tryz.prog Zp [g.lv] (ZeP g):=by
 induction d with
 | zero=>intro g h;have:=g.size_pos;omega
 | succ d ih =>
  rintro ⟨op,n,nl1,gty,nl2,ks⟩ hd hw hfl
  simp only [GTerm.wf] at hw
  obtain ⟨hop,hn,hty,hk,hks⟩:=hw
  simp only [GTerm.fl] at hfl
  obtain ⟨fl1,flk⟩:=hfl
  simp only [GTerm.size] at hd
  have hgl:=hty.1
  simp only [GTerm.lv,GTerm.cells]
  refine Qf.ofTz (Qf.of_codeOf ZhB Qz (by simp) (Zmg _) ?_)
  have CL:=ZcQ nl1 gty (by omega)
  obtain ⟨T,hT,shT,loT,alT,flT⟩:∃ T,cl nl1 gty=T∧share T=L nl1 gty∧Low 0 T∧T.alive=true∧(T.flat=true∧T.cells=[T]):=by
   refine ⟨_,rfl,?_⟩
   unfold cl
   split
   ·rename_i h;rw [fl1 h,h];simp [LV.flat,LV.cells]
   ·rename_i h;simp at h;subst h;simp [LV.flat,LV.cells]
  rw [hT] at CL
  simp (disch:=omega) [Zcb,Qw,Qs]
  refine Qa CL (by simp) ?_
  simp (disch:=omega) [shT,alT,flT]
  refine Wy ks.length 0 (fun i t h=>t 17=N i∧∃ Qh ws tl,h=none::some [N 0,N 0,.sl true true 1 [],.sl true true 1 []]::some [N op,N n,T,KW 0 Qh]::tl∧Qq Qh=QM ws∧We 0 Qh∧nms ws=nms (ks.take i)∧fls ws)
   (fun t h=>∃ Qh ws tl,h=none::some [N 0,N 0,.sl true true 1 [],.sl true true 1 []]::some [N op,N n,T,KW 0 Qh]::tl∧Qq Qh=QM ws∧We 0 Qh∧nms ws=nms ks∧fls ws) ⟨by simp,[],[],[],by simp [KW],by simp [QM,Qq],by simp,by simp,by simp [fls]⟩ (by omega) ?_ ?_
  ·rintro i t2 hh hf2 hi ⟨e17,Qh,ws,tl,rfl,hsh,hlo,hnm,hfw⟩
   (have e1:=hf2 1 (by kernel_rfl);have e2:=hf2 2 (by kernel_rfl);have e3:=hf2 3 (by kernel_rfl);have e15:=hf2 15 (by kernel_rfl);have e16:=hf2 16 (by kernel_rfl);clear hf2;simp [] at e1 e2 e3 e15 e16)
   by_cases h6:i < ks.length
   ·have hb:ltB (i:Int) ks.length=true:=by rw [Qi];omega
    have hsk:=Yi h6
    have recu:=ih ks[i] (by omega) ((ZbR.1 hks) _ (List.getElem_mem h6)) ((ZH.1 flk) _ (List.getElem_mem h6))
    have hix:=Zft ks false nl2 i h6
    have hwl:ws.length=i:=by
     have:=ZaQ hnm
     rw [this,List.length_take];omega
    have hrl:Qh.length=i:=by rw [← Wq,hsh,Jc,hwl]
    have hal:=Ze6 0 Qh
    simp (disch:=omega) [e1,e2,e3,e15,e16,e17,hb,hix,hal]
    refine Qk (Qf.low recu) (by simp) ?_
    rintro r2 ⟨⟨w,cs,rfl,hcs2,hwn,hwf⟩,lo2⟩
    obtain ⟨c0,c1,c2,c3,rfl⟩:=len4 (cs:=cs) (by rw [← Q6,hcs2];simp)
    have ap:=KW_app (z:=0) (Qh:=Qh) (r:=[c0,c1,c2,c3]) (by omega)
    have hfl2:=Zqq 0 (Qh++[[c0,c1,c2,c3]])
    have hce2:=Zox 0 (Qh++[[c0,c1,c2,c3]])
    simp (disch:=omega) [e1,e2,e3,e15,e16,e17,Qo,ap,h6,Qd,hfl2,hce2]
    refine ⟨_,rfl,ws++[w],?_,?_,?_,ZH.2 fun k hk=>?_⟩
    ·rw [Zan,← hsh,← hcs2];simp [Xv,Xx]
    ·simp at lo2;simp [hlo,lo2]
    ·rw [Za5,hnm,List.take_succ_eq_append_getElem h6,Za5,hwn]
    ·rcases List.mem_append.1 hk with hk | hk
     ·exact ZH.1 hfw k hk
     ·simp at hk;subst hk;exact hwf
   ·have hb:ltB (i:Int) ks.length=false:=by rw [Qg];omega
    have e:=List.take_of_length_le (l:=ks) (i:=i) (by omega)
    rw [e] at hnm
    simp (disch:=omega) [e16,e17,hb]
    exact ⟨Qh,rfl,ws,hsh,hlo,hnm,hfw⟩
  ·rintro t2 hh hf2 ⟨Qh,ws,tl,rfl,hsh,hlo,hnm,hfw⟩
   (have e2:=hf2 2 (by kernel_rfl);have e3:=hf2 3 (by kernel_rfl);clear hf2;simp [] at e2 e3)
   have hal:=Ze6 0 Qh
   simp (disch:=omega) [e2,e3,hal,alT]
   exact ⟨⟨loT,KW_low hlo⟩,ZnV hsh hnm (nlT:=nl1) shT loT hlo fl1 hfw⟩
def Zn5 (x:Option GTerm) (r:LV):Prop:=match x with
 | none=>∃ z,r=.tup [.agg z,B false]∧z.length=4∧Wh z=true
 | some c=>∃ z,r=.tup [z,B true]∧ZeP c z
theorem ZoP (x:Option GTerm):∃ r,Zn5 x r∧Low 0 r:=by
 cases x with
 | none=>exact ⟨.tup [.agg [N 0,N 0,N 0,N 0],B false],⟨_,rfl,rfl,rfl⟩,by simp⟩
 | some c =>
  obtain ⟨r,h,l⟩:=ZhY c
  exact ⟨.tup [r,B true],⟨r,rfl,h⟩,by simp [l]⟩
theorem writ_nm {a b:GTerm} (h:a.nm=b.nm):a.writ=b.writ:=by
 unfold GTerm.writ
 rw [← Zbt a,← ZbD a,h,Zbt,ZbD]
mutual
theorem ZnL:∀ a:GTerm,a.nm.wf→a.wf
 | .mk op n nl1 ty nl2 ks,h=>by
  simp only [GTerm.wf,GTerm.nm] at *
  exact ⟨h.1,h.2.1,h.2.2.1,by have:=h.2.2.2.1;rw [ZiD] at this;exact this,ZlA ks h.2.2.2.2⟩
theorem ZlA:∀ a:List GTerm,wfs (nms a)→wfs a
 | [],_=>by simp [wfs]
 | a::a',h=>by
  simp only [wfs,nms] at *
  exact ⟨ZnL a h.1,ZlA a' h.2⟩
end
theorem Znx {a b:GTerm} (h:a.nm=b.nm) (hb:b.wf):a.wf:=ZnL a (by rw [h];exact wf_nm b hb)
mutual
theorem ZlQ {s:GSys}:∀ (g:GTerm) (cx:List (List Int)),Qt s cx g.nm=Qt s cx g
 | .mk op n nl1 ty nl2 ks,cx=>by simp only [GTerm.nm,Qt,Zob ks]
theorem Zob {s:GSys}:∀ (ks:List GTerm) (cx:List (List Int)) (op n:Int) (ty:List Int) (ds:List TT),Q9 s cx op n ty ds (nms ks)=Q9 s cx op n ty ds ks
 | [],_,_,_,_,_=>by simp [nms,Q9]
 | k::ks,cx,op,n,ty,ds=>by
  simp only [nms,Q9,ZlQ k]
  cases Qt s (QC op ty ds.length (first ds)++cx) k with
  | bad f p=>rfl
  | ok x=>simp only [Zob ks]
end
theorem Zjy {s:GSys} {a b:GTerm} (h:a.nm=b.nm) (cx:List (List Int)):Qt s cx a=Qt s cx b:=by
 rw [← ZlQ a,h,ZlQ]
theorem KB (N n i:Nat) (hn:n < N):((zeros N).set n 1).getD i 0=if i=n then 1 else 0:=by
 by_cases h:i=n
 ·subst h
  simp [zeros,List.getD_eq_getElem?_getD,hn]
 ·rw [if_neg h]
  simp only [List.getD_eq_getElem?_getD,List.getElem?_set,if_neg (fun e=>h (Eq.symm e)),zeros,List.getElem?_replicate]
  split<;>rfl
theorem Zik (N i:Nat):(zeros N).getD i 0=0:=by
 simp only [List.getD_eq_getElem?_getD,zeros,List.getElem?_replicate]
 split<;>rfl
theorem Zdw (k i:Nat) (l:List Int):(l.drop k).getD i 0=l.getD (k+i) 0:=by simp [List.getD_eq_getElem?_getD,List.getElem?_drop]
theorem ZhU (k i:Nat) (l:List Int) (h:i < k):(l.take k).getD i 0=l.getD i 0:=by simp [List.getD_eq_getElem?_getD,List.getElem?_take,h]
theorem GSys.Laws.j_z {s:GSys} (l:s.Laws) (hs:s.sys=true):s.join 0 0=0:=by
 have t:=GSys.sys_of hs
 have h0:=GSys.G0 t
 have hj:=Vp hs h0 h0
 exact l.anti _ _ hj h0 (l.j_m 0 0 0 h0 h0 h0 (l.refl 0 h0) (l.refl 0 h0)) (l.j_l 0 0 h0 h0)
def insP (fr w c':Nat) (a a':List Int):Prop:=∀ i,i < c'→a'.getD i 0=if i < fr then a.getD i 0 else if i < fr+w then 0 else a.getD (i - w) 0
theorem insP_cl {s:GSys} (hs:s.sys=true) (fr w c:Nat) (hfr:fr≤c):PCl s (insP fr w (c+w)) c (c+w):=by
 have t:=GSys.sys_of hs
 have L:=GSys.laws hs
 refine ⟨fun i hi=>?_,fun a a' b b' ha ha' hb hb' h1 h2 i hi=>?_,fun a a' b b' ha ha' hb hb' h1 h2 i hi=>?_,fun g a a' hg ha ha' h1 i hi=>?_⟩
 ·rw [Zik,Zik,Zik];split<;>(try split)<;>rfl
 ·have e1:=h1 i hi
  have e2:=h2 i hi
  simp only [XZ]
  rw [Ji ha'.1 hb'.1 hi,e1,e2]
  split
  ·rw [Ji ha.1 hb.1 (by omega)]
  ·split
   ·exact L.z_pl 0 (GSys.G0 t)
   ·rw [Ji ha.1 hb.1 (by omega)]
 ·have e1:=h1 i hi
  have e2:=h2 i hi
  simp only [XU]
  rw [Ji ha'.1 hb'.1 hi,e1,e2]
  split
  ·rw [Ji ha.1 hb.1 (by omega)]
  ·split
   ·exact L.j_z hs
   ·rw [Ji ha.1 hb.1 (by omega)]
 ·have e1:=h1 i hi
  simp only [QY]
  rw [ZcY (by rw [ha'.1];exact hi),e1]
  split
  ·rw [ZcY (by rw [ha.1];omega)]
  ·split
   ·exact L.tm_z g hg
   ·rw [ZcY (by rw [ha.1];omega)]
def Zhu (n:Int):GTerm:=.mk 0 n true [] true []
def shV (bw fr:Nat) (k:Nat) (n:Int):GTerm:=Zhu (if (fr:Int)+k≤n then n+bw else n)
mutual
theorem sh_rn (bw fr:Nat):∀ (g:GTerm) (k:Nat) (nv:Int),g.sk nv→(shG bw ((fr:Int)+k) g).nm=(rnG (shV bw fr) k g).nm
 | .mk op n nl1 ty nl2 ks,k,nv,h=>by
  simp only [GTerm.sk] at h
  by_cases ho:op=0
  ·obtain ⟨_,_,h3,h4⟩:=h.2.1 ho
   subst ho;subst h3;subst h4
   simp [shG,rnG,Y0,shV,Zhu,GTerm.nm,nms]
  ·have e:(Y0 bw ((fr:Int)+k) op 0 ks).isEmpty=(rnK (shV bw fr) op k 0 ks).isEmpty:=by cases ks<;>simp [Y0,rnK]
   simp only [shG,rnG,if_neg ho,GTerm.nm,e,shs_rn bw fr ks op k 0 nv h.2.2]
   simp [ho]
theorem shs_rn (bw fr:Nat):∀ (ks:List GTerm) (op:Int) (k i:Nat) (nv:Int),sks nv op i ks→nms (Y0 bw ((fr:Int)+k) op i ks)=nms (rnK (shV bw fr) op k i ks)
 | [],_,_,_,_,_=>by simp [Y0,rnK,nms]
 | t::ts,op,k,i,nv,h=>by
  simp only [sks] at h
  have:=Xw op i
  have e:=sh_rn bw fr t ((Qr op i).toNat+k) _ h.1
  rw [show (fr:Int)+(((Qr op i).toNat+k:Nat):Int)=(fr:Int)+k+Qr op i by omega] at e
  simp only [Y0,rnK,nms,e,shs_rn bw fr ts op k (i+1) nv h.2]
end
theorem Jj (a b:List (List Int)) (i:Nat):(a++b).getD i []=if i < a.length then a.getD i [] else b.getD (i - a.length) []:=by
 simp only [List.getD_eq_getElem?_getD]
 split
 ·rename_i h;rw [List.getElem?_append_left h]
 ·rename_i h;rw [List.getElem?_append_right (by omega)]
theorem weaken {s:GSys} (hs:s.sys=true) {pre ws cx:List (List Int)} (hp:∀ l∈pre,okL s.size l=true) (hc:∀ l∈cx,okL s.size l=true) {g:GTerm} {x:TT} (hw:g.wf) (hf:W8 (pre++cx).length s.size true g=true) (ht:Qt s (pre++cx) g=.ok x) :
  ∃ y,Qt s (pre++ws++cx) (shG ws.length pre.length g)=.ok y∧y.ty=x.ty∧Gd s (pre++ws++cx).length y.needs∧insP pre.length ws.length ((pre++cx).length+ws.length) x.needs y.needs:=by
 have t:=GSys.sys_of hs
 have hall:∀ l∈pre++cx,okL s.size l=true:=fun l hl=>(List.mem_append.1 hl).elim (hp l) (hc l)
 have hlen:(pre++ws++cx).length=(pre++cx).length+ws.length:=by simp;omega
 have cl:=insP_cl hs pre.length ws.length (pre++cx).length (by simp)
 rw [← hlen] at cl
 have key:=ZqG hs (ctx:=pre++cx) (ctx':=pre++ws++cx) cl (shV ws.length pre.length) hall ?_ g [] x (by simp) (by simpa using hf) (by simpa using ht)
 ·obtain ⟨y,y1,y2,y3⟩:=key
  simp only [List.nil_append,List.length_nil] at y1 y3
  refine ⟨y,?_,y2,by have:=y3.g';simpa using this,by have:=y3.p;rw [hlen] at this;simpa using this⟩
  rw [Zjy (b:=rnG (shV ws.length pre.length) 0 g) ?_,y1]
  have:=sh_rn ws.length pre.length g 0 (pre++cx).length (ZbE g _ hw hf)
  simpa using this
 ·intro ds n hd n0 n1
  obtain ⟨m,rfl⟩:∃ m:Nat,n=m:=⟨n.toNat,by omega⟩
  simp only [Int.toNat_natCast]
  have n1':m < ds.length+(pre++cx).length:=by omega
  have hL:(pre++cx).length=pre.length+cx.length:=List.length_append
  have hL2:(ds++(pre++ws++cx)).length=ds.length+(pre.length+ws.length+cx.length):=by simp only [List.length_append]
  by_cases h:(pre.length:Int)+ds.length≤m
  ·have e:shV ws.length pre.length ds.length m=Zhu ((m+ws.length:Nat):Int):=by simp [shV,h]
   rw [e,Zhu,Zit]
   refine ⟨_,rfl,?_,⟨?_,?_,?_,?_⟩⟩
   ·simp only [TT.ty_mk,Int.toNat_natCast]
    rw [Jj,Jj,Jj,Jj,Jj]
    simp only [List.length_append]
    rw [if_neg (by omega),if_neg (by omega),if_neg (by omega),if_neg (by omega)]
    congr 1;omega
   ·have:=Zio t (ds.length+(pre++cx).length) m;exact ⟨this.1,this.2⟩
   ·have:=Zio t (ds++(pre++ws++cx)).length (((m+ws.length:Nat):Int).toNat);exact ⟨by rw [TT.needs_mk,this.1];simp,this.2⟩
   ·intro i hi
    have hik:i < ds.length:=by simp [zeros] at hi;omega
    simp only [TT.needs_mk,Int.toNat_natCast]
    rw [ZhU _ _ _ hik,ZhU _ _ _ hik,KB _ _ _ (by omega),KB _ _ _ n1',if_neg (by omega),if_neg (by omega)]
    exact (GSys.laws hs).refl 0 (GSys.G0 t)
   ·intro i hi
    simp only [TT.needs_mk,Int.toNat_natCast]
    rw [Zdw,Zdw,Zdw,KB _ _ _ (by omega),KB _ _ _ n1',KB _ _ _ n1']
    repeat' split
    all_goals first | rfl | omega
  ·have h':(m:Int) < pre.length+ds.length:=by omega
   have e:shV ws.length pre.length ds.length m=Zhu (m:Int):=by simp [shV,h]
   rw [e,Zhu,Zit]
   refine ⟨_,rfl,?_,⟨?_,?_,?_,?_⟩⟩
   ·simp only [TT.ty_mk,Int.toNat_natCast]
    rw [Jj,Jj,Jj,Jj,Jj]
    simp only [List.length_append]
    split
    ·rfl
    ·rw [if_pos (by omega),if_pos (by omega),if_pos (by omega)]
   ·have:=Zio t (ds.length+(pre++cx).length) m;exact ⟨this.1,this.2⟩
   ·have:=Zio t (ds++(pre++ws++cx)).length (((m:Nat):Int).toNat);exact ⟨by rw [TT.needs_mk,this.1];simp,this.2⟩
   ·intro i hi
    have hik:i < ds.length:=by simp [zeros] at hi;omega
    simp only [TT.needs_mk,Int.toNat_natCast]
    rw [ZhU _ _ _ hik,ZhU _ _ _ hik,KB _ _ _ (by omega),KB _ _ _ n1']
    split
    ·exact (GSys.laws hs).refl 1 (GSys.G1 t)
    ·exact (GSys.laws hs).refl 0 (GSys.G0 t)
   ·intro i hi
    simp only [TT.needs_mk,Int.toNat_natCast]
    rw [Zdw,Zdw,Zdw,KB _ _ _ (by omega),KB _ _ _ n1',KB _ _ _ n1']
    repeat' split
    all_goals first | rfl | omega
def putV (u:GTerm) (k:Nat) (n:Int):GTerm:=if n=k then shG k 0 u else if (k:Int) < n then Zhu (n - 1) else Zhu n
theorem ZeP.of_nm {g g':GTerm} {r:LV} (h:ZeP g r) (e:g.nm=g'.nm):ZeP g' r:=by
 obtain ⟨w,cs,h1,h2,h3,h4⟩:=h
 exact ⟨w,cs,h1,h2,by rw [h3,e],h4⟩
def FnS (P:Program) (f:LV) (σ:Nat→Int→GTerm):Prop:=share f=f∧Low 0 f∧∀ (nl1 nl2:Bool) (n:Int) (k:Nat),(0≤n∧n≤1000000)→(k≤100000) →
 ∃ fid vals,YO f [(GTerm.mk 0 n nl1 [] nl2 []).lv,N k]=some (fid,vals)∧QA 0 vals∧Qf P fid vals (ZeP (σ k n))
theorem onFn_S {P:Program} {f:LV} {σ:Nat→Int→GTerm} {n:Int} {k:Nat} {nl1 nl2:Bool} {d:Nat} {K:St→Prop} {s:St} (h:FnS P f σ) (hn:0≤n∧n≤1000000) (hd:k≤100000)
  (hk:∀ r,ZeP (σ k n) r∧Low 0 r→K { t:=upd s.t d r,h:=s.h }):onFn P .no f [(GTerm.mk 0 n nl1 [] nl2 []).lv,N k] (some d) K s:=by
 obtain ⟨fid,vals,h1,h2,h3⟩:=h.2.2 nl1 nl2 n k hn hd
 exact ⟨fid,vals,h1,Qk (rw:=.no) (Qf.low h3) h2 hk⟩
theorem Zqd (n:Int) (hn:I64 n) (nl1 nl2:Bool):Qf Tryz.prog Zp [(GTerm.mk 0 n nl1 [] nl2 []).lv] (ZeP (Zhu n)) :=
 (ZoO 1 (.mk 0 n nl1 [] nl2 []) (by simp [GTerm.size,WV]) (by simp only [GTerm.wf,wfs];exact ⟨by unfold I64;omega,hn,by simp [Lok],by simp,trivial⟩) (by simp [GTerm.fl,fls,Zt])).mono fun r h=>h.of_nm (by simp [Zhu,GTerm.nm,nms])
theorem ZoH (bw fr:Nat) (hb:bw≤100000) (hfr:fr≤100000):FnS Tryz.prog (.fn Z0 [.rp [N fr],.rp [N bw]]) (shV bw fr):=by
 refine ⟨by simp,by simp,fun nl1 nl2 n k hn hd=>⟨Z0,[(GTerm.mk 0 n nl1 [] nl2 []).lv,N k,.rp [N fr],.rp [N bw]],by simp [YO],by simp,?_⟩⟩
 refine Qf.of_codeOf ZgD Qz (by simp) (ZhY _) ?_
 have CT:=fun m hm=>Zqd m hm nl1 nl2
 simp (disch:=omega) [Za4,Qw,Qs,GTerm.cells,Qd,QM]
 by_cases h:(fr:Int)+k≤n
 ·have hle:leB fr (n - k)=true:=by rw [Ql];omega
  have CT1:=CT (n+bw) (by unfold I64;omega)
  have e:shV bw fr k n=Zhu (n+bw):=by simp [shV,h]
  rw [← e] at CT1
  simp only [GTerm.lv,GTerm.cells,QM] at CT1
  simp (disch:=omega) [hle,Qd,h]
  refine Qk (Qf.low CT1) (by simp) ?_
  rintro r ⟨⟨w,cs,rfl,h2,h3,h4⟩,lo⟩
  have c4:cs.length=4:=by rw [← Q6,h2];simp
  have cal:=ZP h2
  simp (disch:=omega) [c4,cal,List.take_of_length_le,List.drop_of_length_le]
  exact ⟨by simpa using lo,w,cs,rfl,h2,h3,h4⟩
 ·have hle:leB fr (n - k)=false:=by rw [Qj];omega
  have CT1:=CT n (by unfold I64;omega)
  have e:shV bw fr k n=Zhu n:=by simp [shV,h]
  rw [← e] at CT1
  simp only [GTerm.lv,GTerm.cells,QM] at CT1
  simp (disch:=omega) [hle,h]
  refine Qk (Qf.low CT1) (by simp) ?_
  rintro r ⟨⟨w,cs,rfl,h2,h3,h4⟩,lo⟩
  have c4:cs.length=4:=by rw [← Q6,h2];simp
  have cal:=ZP h2
  simp (disch:=omega) [c4,cal,List.take_of_length_le,List.drop_of_length_le]
  exact ⟨by simpa using lo,w,cs,rfl,h2,h3,h4⟩
theorem ZbZ (σ:Nat→Int→GTerm) (op:Int) (k:Nat):∀ (ks:List GTerm) (i:Nat),(rnK σ op k i ks).length=ks.length
 | [],_=>by simp [rnK]
 | t::ts,i=>by simp [rnK,ZbZ σ op k ts]
theorem ZqQ (σ:Nat→Int→GTerm) (op:Int) (k:Nat):∀ (ks:List GTerm) (i j:Nat) (h:j < ks.length),(rnK σ op k i ks)[j]'(by rw [ZbZ];exact h)=rnG σ ((Qr op ((i+j:Nat):Int)).toNat+k) ks[j]
 | [],_,j,h=>by simp at h
 | t::ts,i,0,h=>by simp [rnK]
 | t::ts,i,j+1,h=>by
  simp only [rnK,List.getElem_cons_succ]
  rw [ZqQ σ op k ts (i+1) j (by simpa using h),show i+1+j=i+(j+1) by omega]
theorem rnK_take {σ:Nat→Int→GTerm} {op:Int} {k:Nat} {ks:List GTerm} {i:Nat} (h:i < ks.length):(rnK σ op k 0 ks).take (i+1)=(rnK σ op k 0 ks).take i++[rnG σ ((Qr op i).toNat+k) ks[i]]:=by
 rw [List.take_succ_eq_append_getElem (by rw [ZbZ];exact h),ZqQ σ op k ks 0 i h];simp
theorem ZnT {f:LV} {σ:Nat→Int→GTerm} (hf:FnS Tryz.prog f σ) (d:Nat):∀ (g:GTerm) (nv:Int) (k:Nat),g.size≤d→g.sk nv→g.fl→0≤nv→nv+2 * g.size≤100000→k+2 * g.size≤100000 →
  Qf Tryz.prog JL [g.lv,N k,f] (ZeP (rnG σ k g)):=by
 induction d with
 | zero=>intro g _ _ h;have:=g.size_pos;omega
 | succ d ih =>
  rintro ⟨op,n,nl1,gty,nl2,ks⟩ nv deep hd hform hfl hn0 hnv hdeep
  simp only [GTerm.sk] at hform
  obtain ⟨⟨hop,hn,hty,hk⟩,hvar,hforms⟩:=hform
  simp only [GTerm.fl] at hfl
  obtain ⟨fl1,flk⟩:=hfl
  simp only [GTerm.size] at hd hnv hdeep
  have hgl:=hty.1
  have sf:=hf.1
  have lf:=hf.2.1
  simp only [GTerm.lv,GTerm.cells]
  refine Qf.ofTz (Qf.of_codeOf Zia Qz (by simp) (Zmg _) ?_)
  by_cases h0:op=0
  ·subst h0
   have e0:eqB 0 0=true:=by rw [Qe]
   obtain ⟨v1,v2,hk0,ht0⟩:=hvar rfl
   subst hk0 ht0
   have AP:=fun (d:Nat) (K:St→Prop) (s:St) hk=>onFn_S (P:=Tryz.prog) (d:=d) (K:=K) (s:=s) (n:=n) (k:=deep) (nl1:=nl1) (nl2:=nl2) hf (by omega) (by omega) hk
   simp only [GTerm.lv,GTerm.cells,QM] at AP
   have eS:rnG σ deep (.mk 0 n nl1 [] nl2 [])=σ deep n:=by simp [rnG]
   rw [eS]
   simp (disch:=omega) [VA,Qw,Qs,e0,sf,QM]
   refine AP _ _ _ ?_
   rintro r ⟨⟨w,cs,rfl,h2,h3,h4⟩,lo⟩
   have c4:cs.length=4:=by rw [← Q6,h2];simp
   have cal:=ZP h2
   simp (disch:=omega) [sf,c4,cal,List.take_of_length_le,List.drop_of_length_le]
   exact ⟨by simpa using lo,⟨.agg cs,rfl,⟨w,cs,rfl,h2,h3,h4⟩,lo⟩⟩
  ·have e0:eqB op 0=false:=by rw [Qc];exact h0
   have CL:=ZcQ nl1 gty (by omega)
   obtain ⟨T,hT,shT,loT,alT,flT⟩:∃ T,cl nl1 gty=T∧share T=L nl1 gty∧Low 0 T∧T.alive=true∧(T.flat=true∧T.cells=[T]):=by
    refine ⟨_,rfl,?_⟩
    unfold cl
    split
    ·rename_i h;rw [fl1 h,h];simp [LV.flat,LV.cells]
    ·rename_i h;simp at h;subst h;simp [LV.flat,LV.cells]
   rw [hT] at CL
   have eS:rnG σ deep (.mk op n nl1 gty nl2 ks)=.mk op n nl1 gty nl2 (rnK σ op deep 0 ks):=by simp [rnG,h0]
   have hSl:=ZbZ σ op deep ks 0
   rw [eS]
   simp (disch:=omega) [VA,Qw,Qs,e0,sf]
   refine Qa CL (by simp) ?_
   simp (disch:=omega) [sf,shT,alT,flT]
   refine Wy ks.length 0 (fun i t h=>t 28=N i∧∃ Qh ws tl,h=none::some [N 0,N 0,.sl true true 1 [],.sl true true 1 []]::some [N op,N n,T,KW 0 Qh]::tl∧Qq Qh=QM ws∧We 0 Qh∧nms ws=nms ((rnK σ op deep 0 ks).take i)∧fls ws)
    (fun t h=>∃ Qh ws tl,h=none::some [N 0,N 0,.sl true true 1 [],.sl true true 1 []]::some [N op,N n,T,KW 0 Qh]::tl∧Qq Qh=QM ws∧We 0 Qh∧nms ws=nms (rnK σ op deep 0 ks)∧fls ws) ⟨by simp,[],[],[],by simp [KW],by simp [QM,Qq],by simp,by simp,by simp [fls]⟩ (by omega) ?_ ?_
   ·rintro i t1 hh hf2 hi ⟨e28,Qh,ws,tl,rfl,hsh,hlo,hnm,hfw⟩
    (have e1:=hf2 1 (by kernel_rfl);have e2:=hf2 2 (by kernel_rfl);have e3:=hf2 3 (by kernel_rfl);have e6:=hf2 6 (by kernel_rfl);have e7:=hf2 7 (by kernel_rfl);have e26:=hf2 26 (by kernel_rfl);have e27:=hf2 27 (by kernel_rfl);clear hf2;simp [] at e1 e2 e3 e6 e7 e26 e27)
    by_cases h6:i < ks.length
    ·have hb:ltB (i:Int) ks.length=true:=by rw [Qi];omega
     have hsk:=Yi h6
     have hA:=Xw op i
     have hkf:(ks[i]).sk (nv+Qr op i):=by have:=ZhX.1 hforms i h6;simpa using this
     have recu:=ih ks[i] (nv+Qr op i) ((Qr op i).toNat+deep) (by omega) hkf ((ZH.1 flk) _ (List.getElem_mem h6)) (by omega) (by omega) (by omega)
     rw [show (((Qr op i).toNat+deep:Nat):Int)=(deep:Int)+Qr op i by omega] at recu
     have hix:=Zft ks false nl2 i h6
     have hwl:ws.length=i:=by
      have:=ZaQ hnm
      rw [this,List.length_take];omega
     have hrl:Qh.length=i:=by rw [← Wq,hsh,Jc,hwl]
     have hal:=Ze6 0 Qh
     simp (disch:=omega) [e1,e2,e3,e6,e7,e26,e27,e28,hb,hix,hal,sf]
     refine Qa (ZhQ op i) (by simp) ?_
     simp (disch:=omega) [e1,e2,e3,e6,e7,e26,e27,e28,Qd,sf]
     refine Qk (Qf.low recu) (by simp [lf]) ?_
     rintro r2 ⟨⟨w,cs,rfl,hcs2,hwn,hwf⟩,lo2⟩
     obtain ⟨c0,c1,c2,c3,rfl⟩:=len4 (cs:=cs) (by rw [← Q6,hcs2];simp)
     have ap:=KW_app (z:=0) (Qh:=Qh) (r:=[c0,c1,c2,c3]) (by omega)
     have hfl2:=Zqq 0 (Qh++[[c0,c1,c2,c3]])
     have hce2:=Zox 0 (Qh++[[c0,c1,c2,c3]])
     simp (disch:=omega) [e1,e2,e3,e6,e7,e26,e27,e28,Qo,ap,h6,Qd,hfl2,hce2]
     refine ⟨_,rfl,ws++[w],?_,?_,?_,ZH.2 fun k hk=>?_⟩
     ·rw [Zan,← hsh,← hcs2];simp [Xv,Xx]
     ·simp at lo2;simp [hlo,lo2]
     ·rw [Za5,hnm,rnK_take h6,Za5,hwn]
     ·rcases List.mem_append.1 hk with hk | hk
      ·exact ZH.1 hfw k hk
      ·simp at hk;subst hk;exact hwf
    ·have hb:ltB (i:Int) ks.length=false:=by rw [Qg];omega
     have e:=List.take_of_length_le (l:=rnK σ op deep 0 ks) (i:=i) (by omega)
     rw [e] at hnm
     simp (disch:=omega) [e27,e28,hb]
     exact ⟨Qh,rfl,ws,hsh,hlo,hnm,hfw⟩
   ·rintro t2 hh hf2 ⟨Qh,ws,tl,rfl,hsh,hlo,hnm,hfw⟩
    (have e6:=hf2 6 (by kernel_rfl);have e7:=hf2 7 (by kernel_rfl);clear hf2;simp [] at e6 e7)
    have hal:=Ze6 0 Qh
    simp (disch:=omega) [e6,e7,hal,alT]
    exact ⟨⟨loT,KW_low hlo⟩,ZnV hsh hnm (nlT:=nl1) shT loT hlo fl1 hfw⟩
theorem ZnS (g:GTerm) (nv:Int) (bw fr:Nat) (hb:bw≤100000) (hfr:fr≤100000) (hform:g.sk nv) (hfl:g.fl) (h0:0≤nv) (h1:nv+2 * g.size≤100000) :
  Qf Tryz.prog V4 [g.lv,N bw,N fr] (ZeP (shG bw fr g)):=by
 refine Qf.of_codeOf ZjD Qz (by simp) (ZhY _) ?_
 have FT:=ZoH bw fr hb hfr
 have RN:=ZnT FT g.size g nv 0 (Nat.le_refl _) hform hfl h0 h1 (by omega)
 simp only [Int.natCast_zero] at RN
 have en:(rnG (shV bw fr) 0 g).nm=(shG bw fr g).nm:=by
  have:=sh_rn bw fr g 0 nv hform
  simpa using this.symm
 simp (disch:=omega) [ZcM,Qw,Qs]
 refine Qk (Qf.low RN) (by simp) ?_
 rintro r ⟨hr,lo⟩
 obtain ⟨w,cs,rfl,h2,h3,h4⟩:=hr.of_nm en
 have c4:cs.length=4:=by rw [← Q6,h2];simp
 have cal:=ZP h2
 simp (disch:=omega) [c4,cal,List.take_of_length_le,List.drop_of_length_le]
 exact ⟨by simpa using lo,w,cs,rfl,h2,h3,h4⟩
def ZeA (g u:GTerm):Option GTerm:=if g.writ=true∧u.writ=true∧(rnG (putV u) 0 g).writ=true then some (rnG (putV u) 0 g) else none
theorem Zld {deep:Int} {n:Nat} (h:0 < deep):bd deep n=3 * T0 (deep - 1).toNat+6:=by
 unfold bd
 rw [if_neg (by omega),Zqs h]
theorem arrow_of {size:Int} {l:List Int} (h:okL size l=true) (h0:eqB (hd l) 0=false) (h1:eqB (hd l) 1=false) (h2:eqB (hd l) 2=false) (h3:W9 (hd l)=false):QP (hd l)=true:=by
 obtain ⟨c1,c2,c3,_⟩:=Yj h
 rw [Qc] at h0 h1 h2
 simp [W9] at h3
 simp [QP]
 omega
section
variable (D:Dr) (ok:D.ok)
include ok
theorem dOf_ok {s:GSys} (hsy:s.sys=true):∀ f:Nat,DOf D s f:=by
 intro f
 induction f with
 | zero =>
  intro nlc ctx ty deep hc hf hty hm
  have:=QH hty
  omega
 | succ f H =>
 intro nlc ctx ty deep hc hf hty hm hd4 hlo
 have t:=GSys.sys_of hsy
 have h16:=t.hi
 have h40:=QH hty
 have hs:1≤s.size∧s.size≤16:=⟨by have:=t.lo;omega,h16⟩
 have hdI:I64 (deep - 1):=by unfold I64;omega
 have hx:=hd_at h40.1
 obtain ⟨q1,q2,q3,q4,_⟩:=Yj hty
 refine Q0.of_codeOf Zph Qz (by simp) (Zjv (ZiS h40.1)) ?_
 intro h1 h3 ct i k hct hk
 simp only [Zjf]
 rw [JF]
 refine Vn (fun t' h'=>t' 6=.rp s.cells∧t' 10=.ptr (h1.length+(h3.length+1+1)) 0 ∧
  ∃ i' k',WR D i' k'∧h'=h1++some [ct,N i',N k']::(h3++[none,some [N 0,N 0,.sl true true 1 [],.sl true true 1 []]])) ?_ ?_
 ·simp (disch:=omega) [Qw,Qs]
  refine Qp (Wn D ok 5 (by unfold I64;omega)) hct hk ?_
  rintro r i0 k0 hk0 ⟨m,rfl,hm0,hm1,_⟩
  simp (disch:=omega)
  (with_reducible first | refine Qn (fun u1=>?_) (fun u1=>?_) | refine Qm (fun u1=>?_) (fun u1=>?_))
  ·simp (disch:=omega)
   refine Qp (Wn D ok ctx.length (by unfold I64;omega)) hct hk0 ?_
   rintro r i1 k1 hk1 ⟨fr,rfl,f0,f1,f2⟩
   simp (disch:=omega)
   refine Wy ctx.length 0 (fun j t h=>t 12=N j∧h=h1++some [ct,N i1,N k1]::(h3++[none,some [N 0,N 0,.sl true true 1 [],.sl true true 1 []]]))
    (fun t h=>h=h1++some [ct,N i1,N k1]::(h3++[none,some [N 0,N 0,.sl true true 1 [],.sl true true 1 []]])) ⟨by simp,rfl⟩ (by omega) ?_ ?_
   ·rintro j t1 hh hf' hj ⟨e12,rfl⟩
    (have e2:=hf' 2 (by kernel_rfl);have e3:=hf' 3 (by kernel_rfl);have e6:=hf' 6 (by kernel_rfl);have e10:=hf' 10 (by kernel_rfl);have e11:=hf' 11 (by kernel_rfl);clear hf';simp [] at e2 e3 e6 e10 e11)
    by_cases h6:j < ctx.length
    ·have hb:ltB (j:Int) ctx.length=true:=by rw [Qi];omega
     have hz:ctx≠[]:=by rintro rfl;simp at h6
     obtain ⟨p,hp,hpl⟩:∃ p:Nat,(fr+(j:Int)).tmod ctx.length=p∧p < ctx.length:=by
      obtain ⟨z0,z1⟩:=Zfm (m:=fr+j) (k:=ctx.length) (by omega) (by omega)
      exact ⟨((fr+(j:Int)).tmod ctx.length).toNat,by omega,by omega⟩
     have hix:=Zcj ctx nlc p hpl
     have hoc:=hc.1 _ (List.getElem_mem hpl)
     have hof:=hc.2 _ (List.getElem_mem hpl)
     have hlc:=QH hoc
     generalize ctx[p]=c at hix hoc hof hlc
     obtain ⟨cn,cl⟩:=c
     simp only at hof hoc hlc
     subst hof
     simp (disch:=omega) [e2,e3,e6,e10,e11,e12,hb,Qd,Js,hz,hp,hix]
     refine Qa (ZaT false false cl ty (by omega)) (by simp) ?_
     cases cl == ty
     ·simp (disch:=omega) [e12,Qd]
      omega
     ·simp (disch:=omega)
      refine Qa (ZbO 0 p true [] (by simp) (by simp)) (by simp) ?_
      simp (disch:=omega) [e10]
      have vok:TmOk s ctx.length (bd deep ty.length) (.mk 0 p true [] true []):=TmOk.k0 (by omega) (ZpC (by omega)) (by unfold I64;omega) (by simp [Lok]) (by simp [Zt]) (ZiS h40.1)
      exact Jh (.inr rfl) (by simp [e10]) rfl rfl hk1 (by simp) (ZeM vok)
    ·have hb:ltB (j:Int) ctx.length=false:=by rw [Qg];omega
     simp (disch:=omega) [e2,e12,hb]
   ·rintro t1 hh hf' rfl
    (have e6:=hf' 6 (by kernel_rfl);have e10:=hf' 10 (by kernel_rfl);clear hf';simp [] at e6 e10)
    simp (disch:=omega) [e6,e10]
    exact hk1
  ·simp (disch:=omega)
   exact hk0
 ·rintro t1 hh hf ⟨a6,a10,i1,k1,hk1,rfl⟩
  (have e0:=hf 0 (by kernel_rfl);have e2:=hf 2 (by kernel_rfl);have e3:=hf 3 (by kernel_rfl);have e4:=hf 4 (by kernel_rfl);clear hf;simp [] at e0 e2 e3 e4)
  have ok1:=X9 D ok 3 (by unfold I64;omega)
  refine Vn (fun t' h'=>(t' 0=.ptr h1.length 0∧t' 2=LC nlc ctx∧t' 3=L false ty)∧∃ i' k',WR D i' k'∧h'=h1++some [ct,N i',N k']::(h3++[none,some [N 0,N 0,.sl true true 1 [],.sl true true 1 []]])) ?_ ?_
  ·by_cases hdp:0 < deep
   ·have hb:ltB 0 deep=true:=by rw [Qi];exact hdp
    have ar:=Zpt D ok hsy H nlc ctx ty (deep - 1) hc (by omega) hty (by omega) (by omega) (by omega)
    simp (disch:=omega) [e0,e2,e3,e4,a6,a10,hb]
    refine Qp ok1 hct hk1 ?_
    rintro r i2 k2 hk2 ⟨b,rfl⟩
    cases b
    ·simp (disch:=omega) [e0,e2,e3,e4,a6,a10,hb]
     exact hk2
    ·simp (disch:=omega) [e0,e2,e3,e4,a6,a10,hb,Qd]
     refine Qp ar hct hk2 ?_
     rintro r i3 k3 hk3 hr
     rw [← Zld (n:=ty.length) hdp] at hr
     obtain ⟨w,cs,rfl,c4,csh,clo,cal,cok⟩:=hr.el
     simp (disch:=omega) [e0,e2,e3,e4,a6,a10,c4]
     exact Jh (.inr rfl) (by simp [a10]) rfl c4 hk3 (by simp [clo]) hr
   ·have hb:ltB 0 deep=false:=by rw [Qg];omega
    simp (disch:=omega) [e0,e2,e3,e4,a6,a10,hb]
    exact hk1
  ·rintro t2 hh hf ⟨⟨g0,g2,g3⟩,i2,k2,hk2,rfl⟩
   (have g4:=hf 4 (by kernel_rfl);have g6:=hf 6 (by kernel_rfl);have g10:=hf 10 (by kernel_rfl);clear hf;simp [e4,a6,a10] at g4 g6 g10)
   clear e0 e2 e3 e4 a6 a10
   refine Vn (fun t' h'=>t' 14=N (hd ty)∧h'=h1++some [ct,N i2,N k2]::(h3++[none,some [N 0,N 0,.sl true true 1 [],.sl true true 1 []]])) ?_ ?_
   ·simp (disch:=omega) [g3,hx]
   ·rintro t3 hh hf ⟨e14,rfl⟩
    (have f0:=hf 0 (by kernel_rfl);have f2:=hf 2 (by kernel_rfl);have f3:=hf 3 (by kernel_rfl);have f4:=hf 4 (by kernel_rfl);have f6:=hf 6 (by kernel_rfl);have f10:=hf 10 (by kernel_rfl);clear hf;simp [g0,g2,g3,g4,g6,g10] at f0 f2 f3 f4 f6 f10)
    clear g0 g2 g3 g4 g6 g10
    have step1:∀ (l:List Int),okL s.size l=true→l.length < ty.length∨0 < deep→Q0 Tryz.prog D QW [s.lv,LC nlc ctx,L false l,N (deep - 1)] (isD s ctx.length (bd (deep - 1) l.length)):=fun l hl hlt=>by
     have:=QH hl
     exact H nlc ctx l (deep - 1) hc (by omega) hl (by omega) (by omega) (by omega)
    by_cases z0:hd ty=0
    ·
     have z0b:eqB (hd ty) 0=true:=by rw [Qe];exact z0
     have num:∀ (i' k':Int),WR D i' k'→∀ m:Int,0≤m∧m < 3→isD s ctx.length (bd deep ty.length) (.agg [N 1,N m,.sl true true 1 [],.sl false true 4 []]):=fun i' k' hk' m hm =>
      ZeM (ks:=[]) (TmOk.k0 (by omega) (nd_num hm) (by unfold I64;omega) (by simp [Lok]) (by simp [Zt]) (ZiS h40.1))
     by_cases hdp:0 < deep
     ·have hb:ltB 0 deep=true:=by rw [Qi];exact hdp
      simp (disch:=omega) [f0,f2,f3,f4,f6,f10,e14,z0b,hb]
      refine Qp (X9 D ok 2 (by unfold I64;omega)) hct hk2 ?_
      rintro r i3 k3 hk3 ⟨b,rfl⟩
      cases b
      ·simp (disch:=omega) [f0,f2,f3,f4,f6,f10,e14,z0b,hb]
       refine Qp (Wn D ok 3 (by unfold I64;omega)) hct hk3 ?_
       rintro r i4 k4 hk4 ⟨m,rfl,m0,m1,_⟩
       simp (disch:=omega)
       refine Qa (ZbO 1 m true [] (by simp) (by simp)) (by simp) ?_
       simp (disch:=omega) [f10]
       exact Jh (.inr rfl) (by simp [f10]) rfl rfl hk4 (by simp) (num i4 k4 hk4 m ⟨m0,m1 (by omega)⟩)
      ·simp (disch:=omega) [f0,f2,f3,f4,f6,f10,e14,z0b,hb,Qd]
       refine Qp (step1 ty hty (.inr hdp)) hct hk3 ?_
       rintro r i4 k4 hk4 hr
       obtain ⟨w1,cs1,rfl,a4,ash,alo,aal,aok⟩:=hr.el
       simp (disch:=omega) [f0,f2,f3,f4,f6,f10,Qd]
       refine Qp (step1 ty hty (.inr hdp)) hct hk4 ?_
       rintro r i5 k5 hk5 hr
       obtain ⟨w2,cs2,rfl,b4,bsh,blo,bal,bok⟩:=hr.el
       have n1:=Zlg (deep:=deep - 1) (n:=ty.length) h40.2
       have n2:=Zld (n:=ty.length) hdp
       simp (disch:=omega) [a4,b4,ash,bsh,aal,bal,List.take_append,List.drop_append,List.take_of_length_le,List.drop_of_length_le,Qo,Qq]
       refine Qa (ZcA 2 0 w1 w2) (by simp) ?_
       simp (disch:=omega) [f10]
       refine Jh (.inr rfl) (by simp [f10]) rfl rfl hk5 (by simp) (ZbQ ?_)
       refine TmOk.k2 (by omega) (Zib (by simp)) (by unfold I64;omega) (by simp [Lok]) (by simp [Zt]) aok (by simp [Qr]) bok (by simp [Qr]) (by omega)
     ·have hb:ltB 0 deep=false:=by rw [Qg];omega
      simp (disch:=omega) [f0,f2,f3,f4,f6,f10,e14,z0b,hb]
      refine Qp (Wn D ok 3 (by unfold I64;omega)) hct hk2 ?_
      rintro r i4 k4 hk4 ⟨m,rfl,m0,m1,_⟩
      simp (disch:=omega)
      refine Qa (ZbO 1 m true [] (by simp) (by simp)) (by simp) ?_
      simp (disch:=omega) [f10]
      exact Jh (.inr rfl) (by simp [f10]) rfl rfl hk4 (by simp) (num i4 k4 hk4 m ⟨m0,m1 (by omega)⟩)
    have z0b:eqB (hd ty) 0=false:=by rw [Qc];exact z0
    by_cases z1:hd ty=1
    ·
     have z1b:eqB (hd ty) 1=true:=by rw [Qe];exact z1
     have kk:WD (hd ty)=some 2:=by rw [z1];exact Xt.1
     obtain ⟨el,oa,ob⟩:=JW hty kk
     have hlen:ty.length=1+(QK ty).length+(WC ty).length:=by
      conv=>lhs;rw [el]
      simp;omega
     have pa:=XQ hty 0 (.inr kk)
     have pb:=XQ hty 1 (.inr kk)
     simp only [if_true,if_neg (show (1:Int)≠0 by decide)] at pa pb
     simp (disch:=omega) [f0,f2,f3,f4,f6,f10,e14,z0b,z1b]
     refine Qa pa (by simp) ?_
     simp (disch:=omega) [f0,f2,f3,f4,f6,f10,Qd]
     refine Qp (step1 _ oa (.inl (by omega))) hct hk2 ?_
     rintro r i4 k4 hk4 hr
     obtain ⟨w1,cs1,rfl,a4,ash,alo,aal,aok⟩:=hr.el
     simp (disch:=omega) [f0,f2,f3,f4,f6,f10,Qd]
     refine Qa pb (by simp) ?_
     simp (disch:=omega) [f0,f2,f3,f4,f6,f10,Qd]
     refine Qp (step1 _ ob (.inl (by omega))) hct hk4 ?_
     rintro r i5 k5 hk5 hr
     obtain ⟨w2,cs2,rfl,b4,bsh,blo,bal,bok⟩:=hr.el
     simp (disch:=omega) [a4,b4,ash,bsh,aal,bal,List.take_append,List.drop_append,List.take_of_length_le,List.drop_of_length_le,Qo,Qq]
     refine Qa (ZcA 4 0 w1 w2) (by simp) ?_
     simp (disch:=omega) [f10]
     refine Jh (.inr rfl) (by simp [f10]) rfl rfl hk5 (by simp) (ZbQ ?_)
     refine TmOk.k2 (by omega) (Zib (by simp)) (by unfold I64;omega) (by simp [Lok]) (by simp [Zt]) aok (by simp [Qr]) bok (by simp [Qr]) (bd_two (by omega) h40.2)
    have z1b:eqB (hd ty) 1=false:=by rw [Qc];exact z1
    by_cases z2:hd ty=2
    ·
     have z2b:eqB (hd ty) 2=true:=by rw [Qe];exact z2
     have kk:WD (hd ty)=some 2:=by rw [z2];exact Xt.2
     obtain ⟨el,oa,ob⟩:=JW hty kk
     have hlen:ty.length=1+(QK ty).length+(WC ty).length:=by
      conv=>lhs;rw [el]
      simp;omega
     have pa:=XQ hty 0 (.inr kk)
     have pb:=XQ hty 1 (.inr kk)
     simp only [if_true,if_neg (show (1:Int)≠0 by decide)] at pa pb
     simp (disch:=omega) [f0,f2,f3,f4,f6,f10,e14,z0b,z1b,z2b]
     refine Qp (X9 D ok 2 (by unfold I64;omega)) hct hk2 ?_
     rintro r i3 k3 hk3 ⟨b,rfl⟩
     cases b
     ·simp (disch:=omega) [f0,f2,f3,f4,f6,f10,e14,z0b,z1b,z2b]
      refine Qa pa (by simp) ?_
      simp (disch:=omega) [f0,f2,f3,f4,f6,f10,Qd]
      refine Qa pb (by simp) ?_
      simp (disch:=omega) [f0,f2,f3,f4,f6,f10,Qd]
      refine Qp (step1 _ ob (.inl (by omega))) hct hk3 ?_
      rintro r i4 k4 hk4 hr
      obtain ⟨w1,cs1,rfl,a4,ash,alo,aal,aok⟩:=hr.el
      simp (disch:=omega) [f10,a4,ash,aal,List.take_append,List.drop_append,List.take_of_length_le,List.drop_of_length_le,Qo,Qq]
      refine Jh (.inr rfl) (by simp [f10]) rfl rfl hk4 (by simp [alo]) (ZlN (nlT:=false) (ty:=QK ty) (ks:=[w1]) (by simp) (by simp) (by simp) (by simp [Qq,ash,QM]) (by simp [alo]) ?_)
      exact TmOk.k1 (by omega) (nd_ty oa (by simp)) (by unfold I64;omega) (ZbW (JJ oa)) (by simp [Zt]) aok (by simp [Qr]) (ZmH (by omega) h40.2)
     ·simp (disch:=omega) [f0,f2,f3,f4,f6,f10,e14,z0b,z1b,z2b]
      refine Qa pb (by simp) ?_
      simp (disch:=omega) [f0,f2,f3,f4,f6,f10,Qd]
      refine Qa pa (by simp) ?_
      simp (disch:=omega) [f0,f2,f3,f4,f6,f10,Qd]
      refine Qp (step1 _ oa (.inl (by omega))) hct hk3 ?_
      rintro r i4 k4 hk4 hr
      obtain ⟨w1,cs1,rfl,a4,ash,alo,aal,aok⟩:=hr.el
      simp (disch:=omega) [f10,a4,ash,aal,List.take_append,List.drop_append,List.take_of_length_le,List.drop_of_length_le,Qo,Qq]
      refine Jh (.inr rfl) (by simp [f10]) rfl rfl hk4 (by simp [alo]) (ZlN (nlT:=false) (ty:=WC ty) (ks:=[w1]) (by simp) (by simp) (by simp) (by simp [Qq,ash,QM]) (by simp [alo]) ?_)
      exact TmOk.k1 (by omega) (nd_ty ob (by simp)) (by unfold I64;omega) (ZbW (JJ ob)) (by simp [Zt]) aok (by simp [Qr]) (ZmH (by omega) h40.2)
    have z2b:eqB (hd ty) 2=false:=by rw [Qc];exact z2
    simp (disch:=omega) [f0,f2,f3,f4,f6,f10,e14,z0b,z1b,z2b]
    refine Qa (Znf (hd ty)) (by simp) ?_
    cases hbx:W9 (hd ty)
    ·
     have ha:=arrow_of hty z0b z1b z2b hbx
     simp (disch:=omega) [f0,f2,f3,f4,f6,f10,e14]
     refine Qp (dFun_ok D ok hsy H nlc ctx ty deep hc (by omega) hty ha hm hd4 hlo) hct hk2 ?_
     rintro r i4 k4 hk4 hr
     obtain ⟨w1,cs1,rfl,a4,ash,alo,aal,aok⟩:=hr.el
     simp (disch:=omega) [f10,a4]
     exact Jh (.inr rfl) (by simp [f10]) rfl a4 hk4 (by simp [alo]) hr
    ·
     have kk:=Zdr hbx
     obtain ⟨el,_,oa⟩:=ZhO hty kk
     have hlen:ty.length=1+(QK ty).length:=by
      conv=>lhs;rw [el]
      simp;omega
     have hg:=Kw q1 (.inr hbx)
     have pa:=XQ hty 0 (.inl kk)
     simp only [if_true] at pa
     simp (disch:=omega) [f0,f2,f3,f4,f6,f10,e14]
     refine Qa (ZcX (hd ty) (by unfold I64;omega) q2) (by simp) ?_
     simp (disch:=omega) [f0,f2,f3,f4,f6,f10,e14]
     refine Qa pa (by simp) ?_
     simp (disch:=omega) [f0,f2,f3,f4,f6,f10,Qd]
     refine Qp (step1 _ oa (.inl (by omega))) hct hk2 ?_
     rintro r i4 k4 hk4 hr
     obtain ⟨w1,cs1,rfl,a4,ash,alo,aal,aok⟩:=hr.el
     simp (disch:=omega) [f10,a4,ash,aal,List.take_append,List.drop_append,List.take_of_length_le,List.drop_of_length_le,Qo,Qq]
     refine Qa (op1_ok 11 (Xc (hd ty)) w1) (by simp) ?_
     simp (disch:=omega) [f10]
     refine Jh (.inr rfl) (by simp [f10]) rfl rfl hk4 (by simp) (isD_op1 ?_)
     exact TmOk.k1 (by omega) (Zl1 hg (by simp)) (GI h16 hg) (by simp [Lok]) (by simp [Zt]) aok (by simp [Qr]) (ZmH (by omega) h40.2)
end
section
variable (D:Dr) (ok:D.ok)
include ok
theorem ZmP {s:GSys} (hsy:s.sys=true) (nlc:Bool) (ctx:Wz) (ty:List Int) (deep:Int) (hc:Zs s ctx) (hf:ctx.length≤100) (hty:okL s.size ty=true) (hd0:0≤deep) (hd4:deep≤4) :
  Q0 Tryz.prog D QW [s.lv,LC nlc ctx,L false ty,N deep] (isD s ctx.length 3480):=by
 have h:=QH hty
 exact (dOf_ok D ok hsy 204 nlc ctx ty deep hc (by omega) hty (by omega) hd4 (by omega)).mono fun r hr=>hr.mono (bd_max h.2 hd4)
theorem dIn_ok {s:GSys} (hsy:s.sys=true) (nlc:Bool) (ctx:Wz) (deep:Int) (data:Bool) (hc:Zs s ctx) (hf:ctx.length≤100) (hd0:0≤deep) (hd4:deep≤4) :
  Q0 Tryz.prog D Zen [s.lv,LC nlc ctx,N deep,B data] (isD s ctx.length 400):=by
 have t:=GSys.sys_of hsy
 have h16:=t.hi
 have hs:1≤s.size∧s.size≤16:=⟨by have:=t.lo;omega,h16⟩
 refine Q0.of_codeOf Zp9 Qz (by simp) (Zjv (by omega)) ?_
 intro h1 h3 ct i k hct hk
 simp (disch:=omega) [Zjr,Qw,Qs]
 refine Qp (Jd D ok s hs data 2 (by omega)) hct hk ?_
 rintro r i1 k1 hk1 ⟨l,rfl,hl⟩
 have ol:=Jg hl (by omega)
 simp (disch:=omega)
 refine Qp (ZmP D ok hsy nlc ctx l deep hc hf ol hd0 hd4) hct hk1 ?_
 rintro r i2 k2 hk2 hr
 obtain ⟨w,cs,rfl,c4,csh,clo,cal,cok⟩:=hr.el
 simp (disch:=omega) [c4,csh,cal]
 refine Wy 3 0 (fun j t h=>t 12=N j∧HasT D s ctx.length 3480 h1 h3 ct [none,some [N 0,N 0,.sl true true 1 [],.sl true true 1 []]] h)
  (fun t h=>HasT D s ctx.length 3480 h1 h3 ct [none,some [N 0,N 0,.sl true true 1 [],.sl true true 1 []]] h) ⟨by simp,i2,k2,w,cs,hk2,c4,csh,clo,cal,cok,rfl⟩ (by omega) ?_ ?_
 ·clear hr cok cal clo csh c4 hk2
  rintro j t1 hh hf' hj ⟨e12,i1,k1,w,cs,hk1,c4,csh,clo,cal,cok,rfl⟩
  have c4t:List.take 4 cs=cs:=List.take_of_length_le (Nat.le_of_eq c4)
  have c4d:List.drop 4 cs=[]:=List.drop_of_length_le (Nat.le_of_eq c4)
  have csz:=cok.size
  (have e0:=hf' 0 (by kernel_rfl);have e2:=hf' 2 (by kernel_rfl);have e3:=hf' 3 (by kernel_rfl);have e4:=hf' 4 (by kernel_rfl);have e6:=hf' 6 (by kernel_rfl);have e10:=hf' 10 (by kernel_rfl);have e11:=hf' 11 (by kernel_rfl);clear hf';simp [] at e0 e2 e3 e4 e6 e10 e11)
  by_cases h6:j < 3
  ·have hb:ltB (j:Int) 3=true:=by rw [Qi];omega
   have lf:=Zgu w.size w (Nat.le_refl _) cok.wf 120 (by omega) (by omega)
   have tl:=ZgL hsy w.size w nlc ctx (Nat.le_refl _) cok.wf cok.fl hc.1 hc.2 (by omega) cok.form
   have mn:0≤min deep 2∧min deep 2≤2:=by omega
   have c4l:4≤cs.length:=Nat.le_of_eq c4.symm
   simp (disch:=omega) [e0,e2,e3,e4,e6,e10,e11,e12,hb,c4,c4t,c4d,csh,cal]
   refine Qa lf (by simp) ?_
   by_cases hsz:w.size≤120
   ·have hl0:leB 0 (KU w.size 120)=true:=by
     rw [Ql];unfold KU;split<;>omega
    simp (disch:=omega) [e0,e2,e3,e4,e6,e10,e11,e12,hb,c4,c4t,c4d,csh,cal,hl0]
    refine Qk (Qf.low tl) (by simp) ?_
    cases hT:Qt s (ctx.map Prod.snd) w with
    | ok x =>
     rintro r ⟨⟨u1,u2,u4,n4,rfl⟩,lo⟩
     have h0:eqB 0 0=true:=by rw [Qe]
     simp (disch:=omega) [e0,e2,e3,e4,e6,e10,e11,e12,c4,c4t,c4d,csh,cal,h0,fldLV]
     exact Jh (.inr rfl) (by first | exact e10 | simp [e10]) rfl c4 hk1 clo ⟨w,cs,rfl,csh,clo,cal,cok.wf,cok.fl,cok.form,by omega⟩
    | bad f p =>
     rintro r ⟨⟨hf0,u1,u2,u4,n4,rfl⟩,lo⟩
     have h0:eqB f 0=false:=by rw [Qc];exact hf0
     simp (disch:=omega) [e0,e2,e3,e4,e6,e10,e11,e12,c4,c4t,c4d,csh,cal,h0,fldLV]
     refine Qp (Jd D ok s hs data 1 (by omega)) hct hk1 ?_
     rintro r i2 k2 hk2 ⟨l',rfl,hl'⟩
     have ol':=Jg hl' (by omega)
     simp (disch:=omega) [e0,e2,e3,e4,e6,e10,e11,e12]
     refine Qa (Za9 deep 2) (by simp) ?_
     simp (disch:=omega) [e0,e2,e3,e4,e6,e10,e11,e12]
     refine Qp (ZmP D ok hsy nlc ctx l' (min deep 2) hc hf ol' mn.1 (by omega)) hct hk2 ?_
     rintro r i3 k3 hk3 hr2
     obtain ⟨w2,cs2,rfl,d4,dsh,dlo,dal,dok⟩:=hr2.el
     have d4t:List.take 4 cs2=cs2:=List.take_of_length_le (Nat.le_of_eq d4)
     simp (disch:=omega) [e0,e2,e3,e4,e6,e10,e11,e12,c4,c4l,c4d,d4,d4t,Qd]
     exact ⟨by omega,i3,k3,w2,cs2,hk3,d4,dsh,dlo,dal,dok,rfl⟩
   ·have hl0:leB 0 (KU w.size 120)=false:=by
     rw [Qj];unfold KU;split<;>omega
    simp (disch:=omega) [e0,e2,e3,e4,e6,e10,e11,e12,hb,c4,c4t,c4d,csh,cal,hl0]
    refine Qp (Jd D ok s hs data 1 (by omega)) hct hk1 ?_
    rintro r i2 k2 hk2 ⟨l',rfl,hl'⟩
    have ol':=Jg hl' (by omega)
    simp (disch:=omega) [e0,e2,e3,e4,e6,e10,e11,e12]
    refine Qa (Za9 deep 2) (by simp) ?_
    simp (disch:=omega) [e0,e2,e3,e4,e6,e10,e11,e12]
    refine Qp (ZmP D ok hsy nlc ctx l' (min deep 2) hc hf ol' mn.1 (by omega)) hct hk2 ?_
    rintro r i3 k3 hk3 hr2
    obtain ⟨w2,cs2,rfl,d4,dsh,dlo,dal,dok⟩:=hr2.el
    have d4t:List.take 4 cs2=cs2:=List.take_of_length_le (Nat.le_of_eq d4)
    simp (disch:=omega) [e0,e2,e3,e4,e6,e10,e11,e12,c4,c4l,c4d,d4,d4t,Qd]
    exact ⟨by omega,i3,k3,w2,cs2,hk3,d4,dsh,dlo,dal,dok,rfl⟩
  ·have hb:ltB (j:Int) 3=false:=by rw [Qg];omega
   simp (disch:=omega) [e0,e2,e3,e4,e6,e10,e11,e12,hb]
   exact ⟨i1,k1,w,cs,hk1,c4,csh,clo,cal,cok,rfl⟩
 ·clear hr cok cal clo csh c4 hk2
  rintro t1 hh hf' ⟨i1,k1,w,cs,hk1,c4,csh,clo,cal,cok,rfl⟩
  have c4t:List.take 4 cs=cs:=List.take_of_length_le (Nat.le_of_eq c4)
  have c4d:List.drop 4 cs=[]:=List.drop_of_length_le (Nat.le_of_eq c4)
  have csz:=cok.size
  have lf:=Zgu w.size w (Nat.le_refl _) cok.wf 400 (by omega) (by omega)
  (have e10:=hf' 10 (by kernel_rfl);have e11:=hf' 11 (by kernel_rfl);clear hf';simp [] at e10 e11)
  simp (disch:=omega) [e10,e11,c4,csh,cal,c4t,c4d]
  refine Qa lf (by simp) ?_
  by_cases hsz:w.size≤400
  ·have hl0:ltB (KU w.size 400) 0=false:=by
    rw [Qg];unfold KU;split<;>omega
   simp (disch:=omega) [e10,e11,c4,csh,cal,c4t,c4d,hl0]
   exact Jh (.inr rfl) (by simp [e10]) rfl c4 hk1 (by simp [clo]) ⟨w,cs,rfl,csh,clo,cal,cok.wf,cok.fl,cok.form,by omega⟩
  ·have hl0:ltB (KU w.size 400) 0=true:=by
    rw [Qi];unfold KU;split<;>omega
   have c4l:4≤cs.length:=Nat.le_of_eq c4.symm
   simp (disch:=omega) [e10,e11,c4,csh,cal,c4t,c4d,hl0]
   refine Qa (ZbO 1 1 true [] (by simp) (by simp)) (by simp) ?_
   simp (disch:=omega) [e10,e11,c4,c4l,c4d]
   exact Jh (.inr rfl) (by simp [e10]) rfl rfl hk1 (by simp) (ZeM (ks:=[]) (TmOk.k0 (by omega) (nd_num (by omega)) (by unfold I64;omega) (by simp [Lok]) (by simp [Zt]) (by omega)))
end
end Go.Proofs.YthdkhhebanogbaaGreat