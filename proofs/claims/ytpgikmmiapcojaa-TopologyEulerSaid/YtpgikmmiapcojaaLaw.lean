/- The functions and the laws of this seat in plain words; each statement names its conditions. -/
import Derived.Test.YtpgikmmiapcojaaEng3
import Derived.Test.YtpgikmmiapcojaaGen
import Derived.Test.YtpgikmmiapcojaaGen2
set_option linter.unusedSimpArgs false
set_option linter.unusedVariables false
namespace Go.Eng.Tl
open Go.Eng
def Path(f:Nat→Nat):Nat→List Nat→Nat→Prop
 | x,[],z=>f x=z
 | x,y::m,z=>f x=y∧Path f y m z
def bz(f:Nat→Nat)(x:Nat)(m:List Nat):Prop:=Path f x m x∧(x::m).Nodup
theorem Path.ext{f g:Nat→Nat}:∀{m:List Nat} {x z:Nat},(∀y∈x::m,f y=g y)→Path f x m z→Path g x m z
 | [],x,z,h,hp=>by
  have h1:f x=z:=hp
  show g x=z
  rw[←h x (by simp)];exact h1
 | y::m,x,z,h,hp=>⟨by rw[←h x (by simp)];exact hp.1,Path.ext (fun w hw=>h w (dY _ hw)) hp.2⟩
theorem hJ{f:Nat→Nat}:∀{m:List Nat} {x y z:Nat} {l:List Nat},Path f x (m++y::l) z↔Path f x m y∧Path f y l z
 | [],_,_,_,_=>DX
 | w::m,x,y,z,l=>by
  have ih:=hJ (f:=f) (m:=m) (x:=w) (y:=y) (z:=z) (l:=l)
  constructor
  ·intro h;have h2:=ih.1 h.2;exact⟨⟨h.1,h2.1⟩,h2.2⟩
  ·intro h;exact⟨h.1.1,ih.2 ⟨h.1.2,h.2⟩⟩
theorem TN{f:Nat→Nat}:∀{m l:List Nat} {x z:Nat},Path f x m z→Path f x l z→z∉m→z∉l→m=l
 | [],[],_,_,_,_,_,_=>rfl
 | [],y::l,x,z,h1,h2,_,h4=>by
  have h5:f x=z:=h1
  have h6:f x=y:=h2.1
  exact absurd (by rw[←h6,h5];simp) h4
 | y::m,[],x,z,h1,h2,h3,_=>by
  have h5:f x=z:=h2
  have h6:f x=y:=h1.1
  exact absurd (by rw[←h6,h5];simp) h3
 | y::m,y'::l,x,z,h1,h2,h3,h4=>by
  have e:y=y':=h1.1.symm.trans h2.1
  subst e
  rw[TN h1.2 h2.2 (fun h=>h3 (dY _ h)) (fun h=>h4 (dY _ h))]
theorem bz.uniq{f:Nat→Nat}{x:Nat}{m l:List Nat}(h1:bz f x m)(h2:bz f x l):m=l:=
 TN h1.1 h2.1 (dC.1 h1.2).1 (dC.1 h2.2).1
theorem bz.ox{f:Nat→Nat}{x y:Nat}{m:List Nat}(h:bz f x m)(hy:y∈m):∃l,bz f y l∧(∀z,z∈y::l↔z∈x::m)∧l.length=m.length:=by
 obtain⟨A,B,rfl⟩:=HG hy
 obtain⟨hp,hn⟩:=h
 have h2:=hJ.1 hp
 refine⟨B++x::A,⟨hJ.2 ⟨h2.2,h2.1⟩,?_⟩,?_,?_⟩
 ·have e:(x::(A++y::B)).Perm (y::(B++x::A)):=by
   have e1:x::(A++y::B)=(x::A)++(y::B):=rfl
   have e2:y::(B++x::A)=(y::B)++(x::A):=rfl
   rw[e1,e2];exact List.perm_append_comm
  exact e.nodup_iff.1 hn
 ·intro z;simp only[cJ,fL]
  constructor
  ·rintro (h | h | h | h) <;> simp[h]
  ·rintro (h | h | h | h) <;> simp[h]
 ·simp;omega
theorem bz.ext{f g:Nat→Nat}{x:Nat}{m:List Nat}(h:bz f x m)(he:∀y∈x::m,f y=g y):bz g x m:=⟨h.1.ext he,h.2⟩
theorem YG{f:Nat→Nat}:∀{m:List Nat} {x z:Nat},Path f x m z→∀y∈x::m,f y∈m∨f y=z
 | [],x,z,h,y,hy=>by
  have e:y=x:=by simpa using hy
  subst e;exact .inr h
 | w::m,x,z,h,y,hy=>by
  rcases cJ.1 hy with e | hy
  ·subst e;left;rw[h.1];simp
  ·rcases YG h.2 y hy with h3 | h3
   ·exact .inl (dY _ h3)
   ·exact .inr h3
theorem bz.step{f:Nat→Nat}{x:Nat}{m:List Nat}(h:bz f x m){y:Nat}(hy:y∈x::m):f y∈x::m:=by
 rcases YG h.1 y hy with h1 | h1
 ·exact dY _ h1
 ·rw[h1];simp
theorem QM{f:Nat→Nat}{P:Nat→Prop}(hP:∀y,P y→P (f y)):∀{m:List Nat} {x z:Nat},Path f x m z→P x→∀y∈x::m,P y
 | [],x,z,h,hx,y,hy=>by
  have e:y=x:=by simpa using hy
  subst e;exact hx
 | w::m,x,z,h,hx,y,hy=>by
  rcases cJ.1 hy with e | hy
  ·subst e;exact hx
  ·exact QM hP h.2 (h.1▸hP x hx) y hy
theorem QN:∀{l₁ l₂:List Nat},l₁.Nodup→(∀x∈l₁,x∈l₂)→l₁.length≤l₂.length
 | [],_,_,_=>HE _
 | a::t,l₂,hn,hs=>by
  have ha:a∈l₂:=hs a (by simp)
  have hn':=dC.1 hn
  have h1:=QN (l₁:=t) (l₂:=l₂.erase a) hn'.2 (fun x hx=>by
   have hne:x≠a:=fun e=>hn'.1 (e▸hx)
   exact(List.mem_erase_of_ne hne).2 (hs x (dY _ hx)))
  have h2:=List.length_erase_of_mem ha
  have h3:0<l₂.length:=List.length_pos_of_mem ha
  simp only[oA];omega
theorem Rn{l₁ l₂:List Nat}(hn:l₁.Nodup)(hs:∀x∈l₁,x∈l₂)(hl:l₂.length≤l₁.length):∀x∈l₂,x∈l₁:=by
 intro x hx
 by_cases h:x∈l₁
 ·exact h
 ·have h1:=QN (l₁:=x::l₁) (l₂:=l₂) (dC.2 ⟨h,hn⟩) (fun y hy=>by
   rcases cJ.1 hy with e | hy
   ·rw[e];exact hx
   ·exact hs y hy)
  simp only[oA] at h1;omega
theorem QO{l:List Nat}{n:Nat}(hn:l.Nodup)(h:∀x∈l,x<n):l.length≤n:=by
 have:=QN (l₂:=List.range n) hn (fun x hx=>uM.2 (h x hx))
 simpa using this
theorem VN{f:Nat→Nat}{n:Nat}(hf:∀x,x<n→f x<n)(hi:∀x y,x<n→y<n→f x=f y→x=y){x:Nat}(hx:x<n):∃m,bz f x m∧∀y∈x::m,y<n:=by
 have key:∀k,(∃m,bz f x m∧∀y∈x::m,y<n)∨∃m z,m.length=k∧Path f x m z∧(x::m).Nodup∧(∀y∈x::m,y<n)∧(∀y∈x::m,y≠x→∃w∈x::m,f w=y):=by
  intro k
  induction k with
  | zero=>exact .inr ⟨[],f x,rfl,rfl,by simp,by simpa using hx,fun y hy hne=>absurd (by simpa using hy) hne⟩
  | succ k ih=>
   rcases ih with h | ⟨m,z,hl,hp,hn,hb,hw⟩
   ·exact .inl h
   ·by_cases hz:z=x
    ·subst hz;exact .inl ⟨m,⟨hp,hn⟩,hb⟩
    ·have hlast:∃w∈x::m,f w=z∧∀m' u,m=m'++[u]→w=u:=by
      cases hm:m.reverse with
      | nil=>
       have:m=[]:=by simpa using hm
       subst this
       exact⟨x,by simp,hp,fun m' u e=>by simp at e⟩
      | cons u r=>
       have e:m=r.reverse++[u]:=by rw[←UF m,hm];simp
       subst e
       have h2:=(hJ.1 hp).2
       refine⟨u,by simp,h2,fun m' u' e=>?_⟩
       have:=List.append_inj' e rfl
       simpa using this.2
     obtain⟨w,hwm,hwz,hwl⟩:=hlast
     have hznot:z∉x::m:=by
      intro hzm
      have hzm':z∈m:=by
       rcases cJ.1 hzm with e | h
       ·exact absurd e hz
       ·exact h
      obtain⟨A,B,hAB⟩:=HG hzm'
      have hpz:∃v,v∈x::A∧f v=z:=by
       rw[hAB] at hp
       have h3:=(hJ.1 hp).1
       cases hA:A.reverse with
       | nil=>
        have:A=[]:=by simpa using hA
        subst this;exact⟨x,by simp,h3⟩
       | cons u r=>
        have e:A=r.reverse++[u]:=by rw[←UF A,hA];simp
        rw[e] at h3
        exact⟨u,by rw[e];simp,(hJ.1 h3).2⟩
      obtain⟨v,hvA,hvz⟩:=hpz
      have hvm:v∈x::m:=by
       rw[hAB]
       rcases cJ.1 hvA with e | h
       ·rw[e];simp
       ·exact dY _ (yU _ h)
      have hvw:v=w:=hi v w (hb v hvm) (hb w hwm) (hvz.trans hwz.symm)
      have hB:w∈z::B:=by
       cases hBr:(z::B).reverse with
       | nil=>simp at hBr
       | cons u r=>
        have e:z::B=r.reverse++[u]:=by rw[←UF (z::B),hBr];simp
        have:=hwl (A++r.reverse) u (by rw[hAB,e];simp)
        rw[this,e];simp
      have hn2:((x::A)++(z::B)).Nodup:=by
       have e:(x::A)++(z::B)=x::m:=by rw[hAB];rfl
       rw[e];exact hn
      exact(pU.1 hn2).2.2 v hvA w hB hvw
     refine .inr ⟨m++[z],f z,by simp[hl],hJ.2 ⟨hp,rfl⟩,?_,?_,?_⟩
     ·have e:(x::(m++[z]))=(x::m)++[z]:=rfl
      rw[e]
      refine pU.2 ⟨hn,by simp,fun a ha b hbz=>?_⟩
      have:b=z:=by simpa using hbz
      subst this
      intro e;subst e;exact hznot ha
     ·intro y hy
      have hy':y∈(x::m)++[z]:=hy
      rcases fL.1 hy' with h | h
      ·exact hb y h
      ·have:y=z:=by simpa using h
       subst this;rw[←hwz];exact hf w (hb w hwm)
     ·intro y hy hne
      have hy':y∈(x::m)++[z]:=hy
      rcases fL.1 hy' with h | h
      ·obtain⟨v,hv,e⟩:=hw y h hne
       exact⟨v,yU [z] hv,e⟩
      ·have:y=z:=by simpa using h
       subst this;exact⟨w,yU [y] hwm,hwz⟩
 rcases key n with h | ⟨m,z,hl,_,hn,hb,_⟩
 ·exact h
 ·have:=QO hn hb
  simp only[oA] at this;omega
theorem Ld{f g:Nat→Nat}{h a:Nat}(hh:g h=a)(ha:g a=f h){m:List Nat}{x z:Nat}(he:∀y∈x::m,y≠h→g y=f y)(hp:Path f x m z)(hn:(x::m).Nodup)(hm:h∈x::m)(hna:a∉x::m):
 ∃m',Path g x m' z∧(x::m').Nodup∧m'.length=m.length+1∧∀y,y∈x::m'↔y∈x::m∨y=a:=by
 have first:∀{m:List Nat} {z:Nat},(∀y∈m,y≠h→g y=f y)→Path f h m z→(h::m).Nodup→Path g h (a::m) z:=by
  intro m z he hp hn
  refine⟨hh,?_⟩
  cases m with
  | nil=>show g a=z;rw[ha];exact hp
  | cons y m=>
   refine⟨ha.trans hp.1,hp.2.ext fun w hw=>?_⟩
   refine(he w hw ?_).symm
   intro e;subst e;exact(dC.1 hn).1 hw
 rcases cJ.1 hm with e | hm
 ·subst e
  refine⟨a::m,first (fun y hy=>he y (dY _ hy)) hp hn,?_,by simp,?_⟩
  ·have h1:=dC.1 hn
   refine dC.2 ⟨?_,dC.2 ⟨fun h=>hna (dY _ h),h1.2⟩⟩
   intro h2
   rcases cJ.1 h2 with e | h2
   ·exact hna (by rw[e];simp)
   ·exact h1.1 h2
  ·intro y;simp only[cJ]
   constructor
   ·rintro (h | h | h) <;> simp[h]
   ·rintro ((h | h) | h) <;> simp[h]
 ·obtain⟨A,B,rfl⟩:=HG hm
  have h2:=hJ.1 hp
  have hn2:((x::A)++(h::B)).Nodup:=hn
  have hn3:=pU.1 hn2
  refine⟨A++h::a::B,hJ.2 ⟨h2.1.ext fun w hw=>(he w ?_ ?_).symm,first (fun y hy=>he y (dY _ (JA _ (dY _ hy)))) h2.2 hn3.2.1⟩,?_,by simp;omega,?_⟩
  ·have hw':w∈(x::A)++(h::B):=yU _ hw
   exact hw'
  ·intro e;exact hn3.2.2 w hw h (by simp) e
  ·have e:(x::(A++h::a::B)).Perm (a::((x::A)++(h::B))):=by
    have e1:x::(A++h::a::B)=(x::A++[h])++a::B:=by simp
    have e2:(x::A)++(h::B)=(x::A++[h])++B:=by simp
    rw[e1,e2];exact List.perm_middle
   refine e.nodup_iff.2 (dC.2 ⟨hna,hn2⟩)
  ·intro y;simp only[cJ,fL]
   constructor
   ·rintro (h | h | h | h | h) <;> simp[h]
   ·rintro ((h | h | h | h) | h) <;> simp[h]
def jD(x:Nat)(m:List Nat)(k:Nat):Nat:=(m++[x]).getD k 0
theorem J2(x:Nat)(m:List Nat):jD x m m.length=x:=by simp[jD]
theorem Dv{x:Nat}{m:List Nat}{k:Nat}(h:k<m.length):jD x m k=m[k]:=by
 unfold jD;rw[jY,zX h,dH h];rfl
theorem GV{x:Nat}{m:List Nat}{k:Nat}(h:k<m.length):jD x m k∈m:=by rw[Dv h];exact OL h
theorem FG{f:Nat→Nat}:∀{m:List Nat} {x z:Nat},Path f x m z→f x=(m++[z]).getD 0 0∧∀k,k<m.length→f ((m++[z]).getD k 0)=(m++[z]).getD (k+1) 0
 | [],x,z,h=>⟨h,fun k hk=>absurd hk (by simp)⟩
 | y::m,x,z,h=>by
  have ih:=FG h.2
  refine⟨h.1,fun k hk=>?_⟩
  cases k with
  | zero=>exact ih.1
  | succ k=>exact ih.2 k (by simpa using hk)
theorem bz.jf{f:Nat→Nat}{x:Nat}{m:List Nat}(h:bz f x m):f x=jD x m 0:=(FG h.1).1
theorem bz.jw{f:Nat→Nat}{x:Nat}{m:List Nat}(h:bz f x m){k:Nat}(hk:k<m.length):f (jD x m k)=jD x m (k+1):=(FG h.1).2 k hk
theorem bz.et{f:Nat→Nat}{x:Nat}{m:List Nat}(h:bz f x m){k:Nat}(hk:k<m.length):jD x m k≠x:=by
 intro e;exact(dC.1 h.2).1 (e▸GV hk)
def aw(P:Nat→Bool):Nat→Nat
 | 0=>0
 | n+1=>aw P n+if P n then 1 else 0
theorem N2(P:Nat→Bool)(n:Nat):aw P n=((List.range n).filter P).length:=by
 induction n with
 | zero=>rfl
 | succ n ih=>rw[UA,List.filter_append,tL,←ih];simp only[aw,List.filter_cons,List.filter_nil];split <;> rfl
theorem yM(P:Nat→Bool)(n:Nat):aw P n≤n:=by
 induction n with
 | zero=>exact gB _
 | succ n ih=>simp only[aw];split <;> omega
theorem rK{P:Nat→Bool}{n:Nat}:0<aw P n↔∃k,k<n∧P k=true:=by
 induction n with
 | zero=>simp[aw]
 | succ n ih=>
  simp only[aw]
  constructor
  ·intro h
   by_cases hp:P n=true
   ·exact⟨n,by omega,hp⟩
   ·rw[aA hp] at h
    obtain⟨k,h1,h2⟩:=ih.1 h
    exact⟨k,by omega,h2⟩
  ·rintro ⟨k,h1,h2⟩
   by_cases e:k=n
   ·subst e;rw[aC h2];omega
   ·have:=ih.2 ⟨k,by omega,h2⟩;omega
theorem Hg{P Q:Nat→Bool}{n:Nat}(h:∀k,k<n→P k=Q k):aw P n=aw Q n:=by
 induction n with
 | zero=>rfl
 | succ n ih=>simp only[aw];rw[ih fun k hk=>h k (by omega),h n (by omega)]
theorem Bm{P:Nat→Bool}{n:Nat}{l:List Nat}(hn:l.Nodup)(h:∀x∈l,x<n∧P x=true):l.length≤aw P n:=by
 rw[N2];exact QN hn fun x hx=>B8.2 ⟨uM.2 (h x hx).1,(h x hx).2⟩
theorem TO{P:Nat→Bool}{n:Nat}{l:List Nat}(hn:l.Nodup)(h:∀x∈l,x<n∧P x=true)(he:aw P n≤l.length){x:Nat}(hx:x<n)(hp:P x=true):x∈l:=by
 rw[N2] at he
 exact Rn hn (fun y hy=>B8.2 ⟨uM.2 (h y hy).1,(h y hy).2⟩) he x (B8.2 ⟨uM.2 hx,hp⟩)
theorem M3{P:Nat→Bool}{n:Nat}{l:List Nat}(hn:l.Nodup)(h:∀x,x∈l↔x<n∧P x=true):aw P n=l.length:=by
 refine UG ?_ (Bm hn fun x hx=>(h x).1 hx)
 rw[N2]
 exact QN (List.nodup_range.sublist List.filter_sublist) fun x hx=>(h x).2 ⟨uM.1 (B8.1 hx).1,(B8.1 hx).2⟩
open Classical in
noncomputable def SF(f:Nat→Nat)(x:Nat):Nat:=if h:∃m,bz f x m then h.choose.length+1 else 0
theorem zE{f:Nat→Nat}{x:Nat}{m:List Nat}(h:bz f x m):SF f x=m.length+1:=by
 unfold SF
 have hx:∃m,bz f x m:=⟨m,h⟩
 rw[I8 hx,hx.choose_spec.uniq h]
theorem yD{S E:Type}{F:S→Option (S⊕E)}(n:Nat)(st:Nat→S)(P:Nat→Bool)(eF eT:E)
 (h:∀k,k<n→(∀j,j<k→P j=true)→F (st k)=some (bif P k then .inl (st (k+1)) else .inr eF))
 (he:(∀j,j<n→P j=true)→F (st n)=some (.inr eT)):bU F (st 0)=some (bif (List.range n).all P then eT else eF):=by
 have key:∀m k,n-k=m→k≤n→(∀j,j<k→P j=true)→bU F (st k)=some (bif (List.range n).all P then eT else eF):=by
  intro m
  induction m with
  | zero=>
   intro k h1 h2 h3
   have e:k=n:=by omega
   subst e
   have ha:(List.range k).all P=true:=jF.2 fun j hj=>h3 j (uM.1 hj)
   rw[bK (he h3),ha];rfl
  | succ m ih=>
   intro k h1 h2 h3
   cases hp:P k with
   | true=>
    have h4:=h k (by omega) h3
    rw[hp,aN] at h4
    rw[xY h4]
    refine ih (k+1) (by omega) (by omega) fun j hj=>?_
    by_cases e:j=k
    ·rw[e];exact hp
    ·exact h3 j (by omega)
   | false=>
    have h4:=h k (by omega) h3
    rw[hp,aK] at h4
    have ha:(List.range n).all P=false:=by
     refine UH.2 fun hh=>?_
     have:=jF.1 hh k (uM.2 (by omega))
     rw[hp] at this;cases this
    rw[bK h4,ha];rfl
 exact key n 0 (by omega) (by omega) fun j hj=>absurd hj (by omega)
section
variable (N:Nat) (r:Nat→Nat→Bool)
inductive ar:Nat→Nat→Prop
 | refl {i:Nat} (h:i<N):ar i i
 | step {i j k:Nat} (h:ar i j) (hr:r j k=true) (hk:k<N):ar i k
end
section
variable {N:Nat} {r:Nat→Nat→Bool}
theorem ar.lt{i j:Nat}(h:ar N r i j):i<N∧j<N:=by
 induction h with
 | refl h=>exact⟨h,h⟩
 | step h hr hk ih=>exact⟨ih.1,hk⟩
theorem ar.trans{i j k:Nat}(h1:ar N r i j)(h2:ar N r j k):ar N r i k:=by
 induction h2 with
 | refl h=>exact h1
 | step h hr hk ih=>exact .step ih hr hk
theorem ar.symm(hs:∀i j,r i j=r j i){i j:Nat}(h:ar N r i j):ar N r j i:=by
 induction h with
 | refl h=>exact .refl h
 | step h hr hk ih=>exact(ar.step (.refl hk) (by rw[hs];exact hr) h.lt.2).trans ih
theorem WG{P:Nat→Prop}{n:Nat}(h:P n):∃m,P m∧∀k,P k→m≤k:=by
 induction n using Nat.strongRecOn with
 | _ n ih=>
  by_cases hm:∃k,P k∧k<n
  ·obtain⟨k,hk,hkn⟩:=hm
   exact ih k hkn hk
  ·refine⟨n,h,fun k hk=>?_⟩
   rcases OM k n with hl | hl
   ·exact absurd ⟨k,hk,hl⟩ hm
   ·exact hl
open Classical in
noncomputable def gT(N:Nat)(r:Nat→Nat→Bool)(i:Nat):Nat:=if h:∃m,ar N r i m∧∀k,ar N r i k→m≤k then Classical.choose h else 0
theorem jR{i:Nat}(h:i<N):ar N r i (gT N r i)∧∀k,ar N r i k→gT N r i≤k:=by
 unfold gT
 have hx:∃m,ar N r i m∧∀k,ar N r i k→m≤k:=WG (P:=ar N r i) (.refl h)
 rw[I8 hx]
 exact I9 hx
theorem G7{i:Nat}(h:i<N):gT N r i≤i:=(jR h).2 i (.refl h)
theorem BH(hs:∀i j,r i j=r j i){i j:Nat}(h:ar N r i j):gT N r i=gT N r j:=by
 obtain⟨hi,hj⟩:=h.lt
 obtain⟨a1,a2⟩:=jR (r:=r) hi
 obtain⟨b1,b2⟩:=jR (r:=r) hj
 exact UG (a2 _ (h.trans b1)) (b2 _ ((h.symm hs).trans a1))
theorem xD(hs:∀i j,r i j=r j i){i:Nat}(h:i<N):gT N r (gT N r i)=gT N r i:=(BH hs (jR h).1).symm
open Classical in
noncomputable def mJ(N:Nat)(r:Nat→Nat→Bool):Nat→Nat
 | 0=>0
 | l+1=>mJ N r l+if gT N r l=l then 1 else 0
theorem OD(l:Nat):mJ N r l≤l:=by
 induction l with
 | zero=>exact gB _
 | succ l ih=>simp only[mJ];split <;> omega
noncomputable def OE(N:Nat)(r:Nat→Nat→Bool)(i:Nat):Nat:=mJ N r (gT N r i)
noncomputable def zK(N:Nat)(r:Nat→Nat→Bool)(i:Nat)(v:Nat):Int:=if gT N r v<i then (OE N r v:Int) else -1
def wt(nb:Nat→List Nat)(out:Nat→Int):Nat→Nat
 | 0=>0
 | n+1=>wt nb out n+if out n<0 then (nb n).length else 0
structure iu (N:Nat) (r:Nat→Nat→Bool) (i:Nat) (out:Nat→Int) (todo:List Nat):Prop where
 lo:∀v,v<N→gT N r v<i→out v=(OE N r v:Int)
 hi:∀v,v<N→i<gT N r v→out v=-1
 nw:∀v,v<N→gT N r v=i→out v=-1∨(out v=(mJ N r i:Int)∧∀w,w<N→r v w=true→out w≠-1∨w∈todo)
 td:∀v,v∈todo→v<N∧gT N r v=i
 st:out i≠-1∨i∈todo
theorem Nu(hs:∀i j,r i j=r j i){i g:Nat}{out:Nat→Int}{todo:List Nat}(h:iu N r i out (g::todo))(hg:¬out g<0):iu N r i out todo:=by
 have hne:out g≠-1:=by omega
 refine⟨h.lo,h.hi,fun v hv hl=>?_,fun v hv=>h.td v (dY _ hv),?_⟩
 ·rcases h.nw v hv hl with h1 | ⟨h1,h2⟩
  ·exact .inl h1
  ·refine .inr ⟨h1,fun w hw hr=>?_⟩
   rcases h2 w hw hr with h3 | h3
   ·exact .inl h3
   ·rcases cJ.1 h3 with e | h3
    ·subst e;exact .inl hne
    ·exact .inr h3
 ·rcases h.st with h1 | h1
  ·exact .inl h1
  ·rcases cJ.1 h1 with e | h1
   ·subst e;exact .inl hne
   ·exact .inr h1
theorem Nv(hs:∀i j,r i j=r j i){i g:Nat}{out:Nat→Int}{todo nb:List Nat}(h:iu N r i out (g::todo))(hnb:∀w,w∈nb↔w<N∧r g w=true):iu N r i (fun v=>if v=g then (mJ N r i:Int) else out v) (todo++nb):=by
 obtain⟨hgN,hgl⟩:=h.td g (by simp)
 refine⟨fun v hv hl=>?_,fun v hv hl=>?_,fun v hv hl=>?_,fun v hv=>?_,?_⟩
 ·rw[aA (fun e=>by subst e;omega)];exact h.lo v hv hl
 ·rw[aA (fun e=>by subst e;omega)];exact h.hi v hv hl
 ·by_cases e:v=g
  ·subst e
   refine .inr ⟨aC rfl,fun w hw hr=>.inr (JA _ ((hnb w).2 ⟨hw,hr⟩))⟩
  ·simp only[aA e]
   rcases h.nw v hv hl with h1 | ⟨h1,h2⟩
   ·exact .inl h1
   ·refine .inr ⟨h1,fun w hw hr=>?_⟩
    by_cases e2:w=g
    ·subst e2;left;rw[aC rfl];omega
    ·rw[aA e2]
     rcases h2 w hw hr with h3 | h3
     ·exact .inl h3
     ·rcases cJ.1 h3 with e3 | h3
      ·exact absurd e3 e2
      ·exact .inr (yU _ h3)
 ·rcases fL.1 hv with hv | hv
  ·exact h.td v (dY _ hv)
  ·obtain⟨a,b⟩:=(hnb v).1 hv
   have hc:ar N r g v:=.step (.refl hgN) b a
   exact⟨a,by rw[←BH hs hc];exact hgl⟩
 ·by_cases e:i=g
  ·subst e;left;rw[aC rfl];omega
  ·rw[aA e]
   rcases h.st with h1 | h1
   ·exact .inl h1
   ·rcases cJ.1 h1 with e3 | h3
    ·exact absurd e3 e
    ·exact .inr (yU _ h3)
theorem Y6(hs:∀i j,r i j=r j i){i:Nat}(hi:i<N)(hl:gT N r i=i){out:Nat→Int}(h:iu N r i out []):∀v,v<N→out v=zK N r (i+1) v:=by
 have bx:∀v,v<N→gT N r v=i→out v≠-1→out v=(mJ N r i:Int):=fun v hv hl hne=>by
  rcases h.nw v hv hl with h1 | ⟨h1,_⟩
  ·exact absurd h1 hne
  ·exact h1
 have key:∀v,ar N r i v→out v≠-1:=fun v hc=>by
  induction hc with
  | refl _=>
   rcases h.st with h1 | h1
   ·exact h1
   ·simp at h1
  | step hc' hr hk ih=>
   rename_i j k
   have hlj:gT N r j=i:=by rw[←BH hs hc'];exact hl
   rcases h.nw j hc'.lt.2 hlj with h1 | ⟨_,h2⟩
   ·exact absurd h1 ih
   ·rcases h2 k hk hr with h3 | h3
    ·exact h3
    ·simp at h3
 intro v hv
 unfold zK
 rcases Nat.lt_trichotomy (gT N r v) i with h1 | h1 | h1
 ·rw[aC (by omega)];exact h.lo v hv h1
 ·rw[aC (by omega)]
  have hc:ar N r i v:=by
   have:=(jR (r:=r) hv).1
   rw[h1] at this
   exact this.symm hs
  rw[bx v hv h1 (key v hc)]
  unfold OE
  rw[h1]
 ·rw[aA (by omega)];exact h.hi v hv h1
theorem Ci{i:Nat}(hi:i<N)(hl:gT N r i=i):iu N r i (zK N r i) [i]:=by
 refine⟨fun v hv h=>?_,fun v hv h=>?_,fun v hv h=>.inl ?_,fun v hv=>?_,.inr (by simp)⟩
 ·unfold zK;rw[aC h]
 ·unfold zK;rw[aA (by omega)]
 ·unfold zK;rw[aA (by omega)]
 ·have:v=i:=by simpa using hv
  subst this;exact⟨hi,hl⟩
theorem Un{nb:Nat→List Nat}{out:Nat→Int}{g:Nat}{x:Int}(hx:0≤x)(hg:out g<0):∀n,wt nb (fun v=>if v=g then x else out v) n+(if g<n then (nb g).length else 0)=wt nb out n:=by
 intro n
 induction n with
 | zero=>simp[wt]
 | succ n ih=>
  simp only[wt]
  by_cases e:n=g
  ·subst e
   have h1:¬(x<0):=by omega
   simp only[aA (Nat.lt_irrefl n),rH] at ih
   simp only[eY,aA h1,aC hg,aC (Nat.lt_succ_self n),rH]
   omega
  ·simp only[aA e]
   by_cases h:g<n
   ·rw[aC h] at ih
    rw[aC (show g<n+1 by omega)]
    omega
   ·rw[aA h] at ih
    rw[aA (show ¬g<n+1 by omega)]
    omega
def Wt(N:Nat)(r:Nat→Nat→Bool)(lb:Nat→Nat):Prop:=∀v,v<N→lb v≤v∧ar N r v (lb v)
def jn(lb:Nat→Nat)(a b:Nat):Nat→Nat:=fun v=>if v=b then min (lb a) (lb b) else if v=a then min (lb a) (lb b) else lb v
theorem Uo(hs:∀i j,r i j=r j i){lb:Nat→Nat}(h:Wt N r lb){a b:Nat}(ha:a<N)(hb:b<N)(hr:r a b=true):Wt N r (jn lb a b):=fun v hv=>by
 have cab:ar N r a b:=.step (.refl ha) hr hb
 have cba:=cab.symm hs
 obtain⟨a1,a2⟩:=h a ha
 obtain⟨b1,b2⟩:=h b hb
 unfold jn
 have hm:ar N r a (min (lb a) (lb b)):=by
  rcases Nat.le_total (lb a) (lb b) with hl | hl
  ·rw[OQ hl];exact a2
  ·rw[Nat.min_eq_right hl];exact cab.trans b2
 by_cases e1:v=b
 ·subst e1;rw[aC rfl];exact⟨by omega,cba.trans hm⟩
 ·rw[aA e1]
  by_cases e2:v=a
  ·subst e2;rw[aC rfl];exact⟨by omega,hm⟩
  ·rw[aA e2];exact h v hv
theorem Wu(lb:Nat→Nat)(a b v:Nat):jn lb a b v≤lb v:=by
 unfold jn
 split
 ·rename_i e;subst e;omega
 ·split
  ·rename_i e;subst e;omega
  ·exact gB _
def Ir(fa fb:Nat→Nat)(lb:Nat→Nat):Nat→Nat→Nat
 | 0=>lb
 | k+1=>jn (Ir fa fb lb k) (fa k) (fb k)
theorem Qx(hs:∀i j,r i j=r j i){fa fb:Nat→Nat}{n:Nat}(hf:∀k,k<n→fa k<N∧fb k<N∧r (fa k) (fb k)=true){lb:Nat→Nat}(h:Wt N r lb):∀k,k≤n→Wt N r (Ir fa fb lb k):=by
 intro k
 induction k with
 | zero=>intro _;exact h
 | succ k ih=>
  intro hk
  obtain⟨a,b,c⟩:=hf k (by omega)
  exact Uo hs (ih (by omega)) a b c
theorem Cj(fa fb:Nat→Nat)(lb:Nat→Nat){j:Nat}:∀{k:Nat},j≤k→∀v,Ir fa fb lb k v≤Ir fa fb lb j v:=by
 intro k
 induction k with
 | zero=>intro h v;have:j=0:=by omega
         subst this;exact gB _
 | succ k ih=>
  intro h v
  by_cases e:j=k+1
  ·subst e;exact gB _
  ·exact H7 (Wu _ _ _ v) (ih (by omega) v)
def DO(fa fb:Nat→Nat)(n:Nat):Nat→Nat→Nat
 | 0=>fun v=>v
 | k+1=>Ir fa fb (DO fa fb n k) n
theorem RD(hs:∀i j,r i j=r j i){fa fb:Nat→Nat}{n:Nat}(hf:∀k,k<n→fa k<N∧fb k<N∧r (fa k) (fb k)=true):∀k,Wt N r (DO fa fb n k)
 | 0=>fun v hv=>⟨gB _,.refl hv⟩
 | k+1=>Qx hs hf (RD hs hf k) n (gB _)
theorem Im(hs:∀i j,r i j=r j i){fa fb:Nat→Nat}{n:Nat}(hf:∀k,k<n→fa k<N∧fb k<N∧r (fa k) (fb k)=true){m:Nat}(k:Nat){j:Nat}(hj:j<n)(h1:gT N r (fa j)=m)(h2:DO fa fb n k (fa j)=m):DO fa fb n (k+1) (fb j)=m:=by
 obtain⟨a,b,c⟩:=hf j hj
 have cab:ar N r (fa j) (fb j):=.step (.refl a) c b
 have hlb:gT N r (fb j)=m:=by rw[←BH hs cab];exact h1
 have hl:=RD hs hf (k+1)
 have lo:=(jR (r:=r) b).2 _ (hl _ b).2
 have hup:DO fa fb n (k+1) (fb j)≤m:=by
  show Ir fa fb (DO fa fb n k) n (fb j)≤m
  refine H7 (Cj fa fb _ (j:=j+1) (by omega) _) ?_
  show jn _ _ _ _≤m
  unfold jn
  rw[aC rfl]
  have h3:=Cj fa fb (DO fa fb n k) (j:=0) (k:=j) (HE _) (fa j)
  have h4:Ir fa fb (DO fa fb n k) 0 (fa j)=m:=h2
  omega
 omega
theorem In(hs:∀i j,r i j=r j i){fa fb:Nat→Nat}{n:Nat}(hf:∀k,k<n→fa k<N∧fb k<N∧r (fa k) (fb k)=true){m v:Nat}(hv:v<N)(hm:gT N r v=m)(k:Nat)(h:DO fa fb n k v=m):DO fa fb n (k+1) v=m:=by
 have h1:DO fa fb n (k+1) v≤m:=by
  have:=Cj fa fb (DO fa fb n k) (j:=0) (k:=n) (HE _) v
  have h2:Ir fa fb (DO fa fb n k) 0 v=m:=h
  show Ir fa fb (DO fa fb n k) n v≤m
  omega
 have h2:=(jR (r:=r) hv).2 _ (RD hs hf (k+1) v hv).2
 omega
theorem Nw(hs:∀i j,r i j=r j i){fa fb:Nat→Nat}{n:Nat}(hf:∀k,k<n→fa k<N∧fb k<N∧r (fa k) (fb k)=true)(hr:∀a b,a<N→r a b=true→∃k,k<n∧fa k=a∧fb k=b){v:Nat}(hv:v<N):DO fa fb n N v=gT N r v:=by
 obtain⟨m,hm⟩:∃m,m=gT N r v:=⟨_,rfl⟩
 have hmN:m<N:=by rw[hm];exact(jR (r:=r) hv).1.lt.2
 have hml:gT N r m=m:=by rw[hm];exact xD hs hv
 let P:Nat→Nat→Bool:=fun k x=>decide (gT N r x=m)&&decide (DO fa fb n k x=m)
 have hP:∀k x,P k x=true↔gT N r x=m∧DO fa fb n k x=m:=fun k x=>by
  show (decide _&&decide _)=true↔_
  rw[cS,bE,bE]
 have mono:∀k x,x<N→P k x=true→P (k+1) x=true:=fun k x hx h=>by
  rw[hP] at h ⊢
  exact⟨h.1,In hs hf hx h.1 k h.2⟩
 have cmono:∀{A B:Nat→Bool} (M:Nat),(∀x,x<M→A x=true→B x=true)→aw A M≤aw B M:=fun {A B} M h=>by
  induction M with
  | zero=>exact gB _
  | succ M ih=>
   have:=ih fun x hx=>h x (by omega)
   simp only[aw]
   by_cases e:A M=true
   ·rw[aC e,aC (h M (by omega) e)];omega
   ·rw[aA e];split <;> omega
 have cstrict:∀{A B:Nat→Bool} (M:Nat),(∀x,x<M→A x=true→B x=true)→(∃x,x<M∧A x=false∧B x=true)→aw A M<aw B M:=fun {A B} M h=>by
  induction M with
  | zero=>rintro ⟨x,hx,_⟩;omega
  | succ M ih=>
   rintro ⟨x,hx,h1,h2⟩
   simp only[aw]
   by_cases e:x=M
   ·subst e
    have:=cmono (A:=A) (B:=B) x fun y hy=>h y (by omega)
    rw[h1,aC h2];simp only[nL,iD];omega
   ·have:=ih (fun y hy=>h y (by omega)) ⟨x,by omega,h1,h2⟩
    by_cases e2:A M=true
    ·rw[aC e2,aC (h M (by omega) e2)];omega
    ·rw[aA e2];split <;> omega
 have grow:∀k,(∃j,j≤k∧∀x,x<N→gT N r x=m→P j x=true)∨k+1≤aw (P k) N:=by
  intro k
  induction k with
  | zero=>
   right
   have:0<aw (P 0) N:=rK.2 ⟨m,hmN,(hP 0 m).2 ⟨hml,rfl⟩⟩
   omega
  | succ k ih=>
   rcases ih with⟨j,hj,h⟩ | ih
   ·exact .inl ⟨j,by omega,h⟩
   ·by_cases hc:∀x,x<N→gT N r x=m→P k x=true
    ·exact .inl ⟨k,by omega,hc⟩
    ·right
     have hex:∃a b,a<N∧b<N∧r a b=true∧P k a=true∧P k b=false:=by
      refine EW fun hno=>hc fun x hx hlx=>?_
      have hmk:P k m=true:=by
       have:∀k,P k m=true:=fun k=>by
        induction k with
        | zero=>exact(hP 0 m).2 ⟨hml,rfl⟩
        | succ k ih2=>exact mono k m hmN ih2
       exact this k
      have hcm:ar N r m x:=by
       have:=(jR (r:=r) hx).1
       rw[hlx] at this
       exact this.symm hs
      clear hlx hx
      induction hcm with
      | refl _=>exact hmk
      | step hc' hrr hk' ih3=>
       rename_i y z
       have h5:=ih3
       cases hz:P k z with
       | true=>rfl
       | false=>exact absurd ⟨y,z,hc'.lt.2,hk',hrr,h5,hz⟩ hno
     obtain⟨a,b,ha,hb,hab,pa,pb⟩:=hex
     obtain⟨j,hj,ea,eb⟩:=hr a b ha hab
     have h6:=(hP k a).1 pa
     have h7:=Im hs hf k hj (m:=m) (by rw[ea];exact h6.1) (by rw[ea];exact h6.2)
     rw[eb] at h7
     have hlb:gT N r b=m:=by rw[←BH hs (.step (.refl ha) hab hb)];exact h6.1
     have:=cstrict (A:=P k) (B:=P (k+1)) N (fun x hx=>mono k x hx) ⟨b,hb,pb,(hP (k+1) b).2 ⟨hlb,h7⟩⟩
     omega
 have hall:∀j d x,x<N→P j x=true→P (j+d) x=true:=fun j d x hx h=>by
  induction d with
  | zero=>exact h
  | succ d ih=>exact mono _ x hx ih
 rcases grow N with⟨j,hj,h⟩ | h
 ·have h8:=hall j (N-j) v hv (h v hv hm.symm)
  have:j+(N-j)=N:=by omega
  rw[this] at h8
  rw[←hm];exact((hP N v).1 h8).2
 ·have:=yM (P N) N
  omega
end
open Go.Eng Go.Proofs
structure Hf where
 f:Int
 n:Int
 p:Int
 r:Int
deriving DecidableEq
structure Rg where
 h:Int
 v:Int
 c:Int
deriving DecidableEq
structure Tp where
 V:Int
 F:Int
 hs:List Hf
 rs:List Rg
def tI(n:Int):T:=.v (.int .i64 n)
def tB(b:Bool):T:=.v (.bool b)
def tH(x:Hf):T:=.agg [tI x.f,tI x.n,tI x.p,tI x.r]
def tR(x:Rg):T:=.agg [tI x.h,tI x.v,tI x.c]
def oF(t:Tp):Int×Int×List T×List T×Unit:=(t.V,t.F,t.hs.map tH,t.rs.map tR,())
def hG(l:List Hf)(i:Int):Hf:=l.getD i.toNat ⟨0,0,0,0⟩
def rG(l:List Rg)(i:Int):Rg:=l.getD i.toNat ⟨0,0,0⟩
@[simp] theorem aJ(n:Int):T.int? .i64 (tI n)=some n:=Jv _ _
@[simp] theorem gA(n:Int):T.ak (tI n)=some n:=Jw _ _
@[simp] theorem oG(n:Int):T.cell (tI n) 0=tI n:=rfl
@[simp] theorem Ps(b:Bool):T.bool? (tB b)=some b:=Ta b
@[simp] theorem Pt(b:Bool):T.cell (tB b) 0=tB b:=rfl
@[simp] theorem sO(x:Hf):T.cell (tH x) 0=tI x.f:=rfl
@[simp] theorem mY(x:Hf):T.cell (tH x) 1=tI x.n:=rfl
@[simp] theorem mG(x:Hf):T.cell (tH x) 2=tI x.p:=rfl
@[simp] theorem jV(x:Hf):T.cell (tH x) 3=tI x.r:=rfl
@[simp] theorem zF(x:Rg):T.cell (tR x) 0=tI x.h:=rfl
@[simp] theorem FH(x:Rg):T.cell (tR x) 1=tI x.v:=rfl
@[simp] theorem fN(x:Rg):T.cell (tR x) 2=tI x.c:=rfl
theorem bY(n:Int):T.v (Value.int .i64 n)=tI n:=rfl
theorem QP(b:Bool):T.v (Value.bool b)=tB b:=rfl
theorem DE(n m:Int):T.ax 1 (tI n) 0 [tI m]=tI m:=Jx _ _
theorem Le(n m:Bool):T.ax 1 (tB n) 0 [tB m]=tB m:=Jx _ _
theorem wk{k:Nat}(h:k≤1000000):wr .i64 ((k:Int)+1)=((k+1:Nat):Int):=by rw[fQ (by omega) (by omega)];push_cast;rfl
theorem sD(l:List Hf)(k:Nat)(h:k<l.length):l[k]?=some (hG l (k:Int)):=by
 unfold hG;rw[nO,jY,dH h];rfl
theorem vN(l:List Rg)(k:Nat)(h:k<l.length):l[k]?=some (rG l (k:Int)):=by
 unfold rG;rw[nO,jY,dH h];rfl
theorem eS{l:List Hf}{i:Int}(h0:0≤i)(h:i<l.length):dA (l.map tH) i=some (tH (hG l i)):=by
 obtain⟨k,rfl⟩:∃k:Nat,i=(k:Int):=⟨i.toNat,by omega⟩
 rw[AI,fF,sD l k (by omega)];rfl
theorem iK{l:List Rg}{i:Int}(h0:0≤i)(h:i<l.length):dA (l.map tR) i=some (tR (rG l i)):=by
 obtain⟨k,rfl⟩:∃k:Nat,i=(k:Int):=⟨i.toNat,by omega⟩
 rw[AI,fF,vN l k (by omega)];rfl
theorem bT(l:List Hf):aI (l.map tH)=(l.length:Int):=by rw[jK,dM]
theorem bL(l:List Rg):aI (l.map tR)=(l.length:Int):=by rw[jK,dM]
def mt(k:Nat):Nat:=k ^^^ 1
theorem kP(k:Nat):mt k/2=k/2:=by unfold mt;rw[Nat.xor_div_two];simp
theorem mZ(k:Nat):mt k%2=(k+1)%2:=by
 have h:(mt k)%2=1↔¬(k%2=1↔1%2=1):=Nat.xor_mod_two_eq_one
 omega
theorem oZ(k:Nat):mt (mt k)=k:=by have:=kP k;have:=mZ k;have:=kP (mt k);have:=mZ (mt k);omega
theorem rL(k:Nat):mt k≠k:=by have:=kP k;have:=mZ k;omega
theorem kQ{k n:Nat}(hn:n%2=0)(h:k<n):mt k<n:=by have:=kP k;have:=mZ k;omega
theorem QQ{a b:Nat}(h:mt a=mt b):a=b:=by rw[←oZ a,h,oZ]
theorem Lf{k:Nat}(h:k≤1000000):JF .xor .i64 (k:Int) 1=((mt k:Nat):Int):=by
 unfold JF
 have h0:(BitVec.ofInt 64 (k:Int) ^^^ BitVec.ofInt 64 (1:Int)).toNat=mt k:=by
  have e1:BitVec.ofInt 64 (k:Int)=BitVec.ofNat 64 k:=BitVec.ofInt_natCast _ _
  have e2:BitVec.ofInt 64 (1:Int)=BitVec.ofNat 64 1:=BitVec.ofInt_natCast 64 1
  rw[e1,e2,BitVec.toNat_xor,BitVec.toNat_ofNat,BitVec.toNat_ofNat,Nat.mod_eq_of_lt (by omega)]
  rfl
 have h1:(BitVec.ofInt IntKind.i64.bits (k:Int) ^^^ BitVec.ofInt IntKind.i64.bits (1:Int)).toNat=mt k:=h0
 rw[h1]
 have h2:=kP k
 have:=fQ (n:=(mt k:Int)) (by omega) (by omega)
 unfold wr at this;exact this
theorem qK{k:Nat}(h:k≤1000000):iE ((k:Int),())=some ((mt k:Int),()):=by unfold iE;rw[Lf h]
theorem rC{k:Nat}(h:k≤1000000):eI ((k:Int),())=some ((mt k:Int),()):=by unfold eI;rw[Lf h]
def rD(a b:Int):Bool:=decide (0≤a)&&decide (a<b)
theorem bZ{a b:Int}:rD a b=true↔0≤a∧a<b:=by unfold rD;simp
theorem fU(a b:Int):dK (a,b,())=some (rD a b,()):=by
 unfold dK rD;simp only[gI,aP];cases decide (0≤a) <;> rfl
theorem bV(a b:Int):cU (a,b,())=some (rD a b,()):=by
 unfold cU rD;simp only[gI,aP];cases decide (0≤a) <;> rfl
def b1(t:Tp)(k:Nat):Bool:=rD (hG t.hs k).f t.V&&(rD (hG t.hs k).n t.hs.length&&(rD (hG t.hs k).p t.hs.length&&rD (hG t.hs k).r t.rs.length))
def b2(t:Tp)(k:Nat):Bool:=decide ((hG t.hs (hG t.hs k).n).p=k)&&(decide ((hG t.hs (hG t.hs k).p).n=k)&&(decide ((hG t.hs (hG t.hs k).n).r=(hG t.hs k).r)&&decide ((hG t.hs (hG t.hs k).n).f=(hG t.hs (mt k:Nat)).f)))
def dz(t:Tp):Bool:=(List.range t.hs.length).all (b1 t)&&(List.range t.hs.length).all (b2 t)
structure Sz (t:Tp):Prop where
 n:t.hs.length≤256
 e:t.hs.length%2=0
 V0:1≤t.V
 V1:t.V≤257
 F0:1≤t.F
 F1:t.F≤257
 R:t.rs.length≤257
theorem iS{t:Tp}{k:Nat}:b1 t k=true↔(0≤(hG t.hs k).f∧(hG t.hs k).f<t.V)∧(0≤(hG t.hs k).n∧(hG t.hs k).n<t.hs.length)∧(0≤(hG t.hs k).p∧(hG t.hs k).p<t.hs.length)∧0≤(hG t.hs k).r∧(hG t.hs k).r<t.rs.length:=by
 unfold b1;simp only[cS,bZ]
theorem LY{t:Tp}{k:Nat}:b2 t k=true↔(hG t.hs (hG t.hs k).n).p=k∧(hG t.hs (hG t.hs k).p).n=k∧(hG t.hs (hG t.hs k).n).r=(hG t.hs k).r∧(hG t.hs (hG t.hs k).n).f=(hG t.hs (mt k:Nat)).f:=by
 unfold b2;simp only[cS,bE]
def H0(t:Tp)(k:Nat):Unit×Int×Int×Int×Int×List T×List T×Unit:=((),(t.hs.length:Int),(k:Int),t.V,t.F,t.hs.map tH,t.rs.map tR,())
theorem Yj{t:Tp}(hz:Sz t){k:Nat}(hk:k<t.hs.length):oL (H0 t k)=some (bif b1 t k then .inl (H0 t (k+1)) else .inr (.inl (false,()))):=by
 have hn:=hz.n
 have hlt:decide ((k:Int)<(t.hs.length:Int))=true:=aR (by omega)
 unfold oL H0 b1
 simp only[aP,hlt,aN,eS (l:=t.hs) (i:=(k:Int)) (by omega) (by omega),bD,sO,mY,mG,jV,aJ,fU,bL,aS,wk (k:=k) (by omega)]
 cases rD (hG t.hs k).f t.V <;> cases rD (hG t.hs k).n t.hs.length <;> cases rD (hG t.hs k).p t.hs.length <;> cases rD (hG t.hs k).r t.rs.length <;> rfl
theorem Yk{t:Tp}(hz:Sz t)(hb:∀j,j<t.hs.length→b1 t j=true){k:Nat}(hk:k<t.hs.length):oM (H0 t k)=some (bif b2 t k then .inl (H0 t (k+1)) else .inr (.inl (false,()))):=by
 have hn:=hz.n
 have hlt:decide ((k:Int)<(t.hs.length:Int))=true:=aR (by omega)
 obtain⟨_,h1,h2,_⟩:=iS.1 (hb k hk)
 have hm:=kQ hz.e hk
 unfold oM H0 b2
 simp only[aP,hlt,aN,eS (l:=t.hs) (i:=(k:Int)) (by omega) (by omega),eS (l:=t.hs) h1.1 h1.2,eS (l:=t.hs) h2.1 h2.2,qK (k:=k) (by omega),eS (l:=t.hs) (i:=((mt k:Nat):Int)) (by omega) (by omega),bD,sO,mY,mG,jV,aJ,gA,aH,aS,wk (k:=k) (by omega)]
 cases decide ((hG t.hs (hG t.hs k).n).p=k) <;> cases decide ((hG t.hs (hG t.hs k).p).n=k) <;> cases decide ((hG t.hs (hG t.hs k).n).r=(hG t.hs k).r) <;> cases decide ((hG t.hs (hG t.hs k).n).f=(hG t.hs (mt k:Nat)).f) <;> rfl
theorem Hh{t:Tp}(hz:Sz t):vZ (oF t)=some (dz t,()):=by
 have hlt:decide ((t.hs.length:Int)<(t.hs.length:Int))=false:=aW (by omega)
 have l0:=yD (F:=oL) t.hs.length (H0 t) (b1 t) (.inl (false,())) (.inr (.inl ((),(t.hs.length:Int),t.V,t.F,t.hs.map tH,t.rs.map tR,()))) (fun k hk _=>Yj hz hk) (fun _=>by
  unfold oL H0;simp only[aP,hlt,aK])
 unfold vZ oF
 simp only[bT]
 have e0:((),(t.hs.length:Int),(0:Int),t.V,t.F,t.hs.map tH,t.rs.map tR,())=H0 t 0:=rfl
 rw[e0,l0]
 unfold dz
 cases h:(List.range t.hs.length).all (b1 t) with
 | false=>rfl
 | true=>
  have hb:∀j,j<t.hs.length→b1 t j=true:=fun j hj=>jF.1 h j (uM.2 hj)
  have l1:=yD (F:=oM) t.hs.length (H0 t) (b2 t) (.inl (false,())) (.inr (.inl ())) (fun k hk _=>Yk hz hb hk) (fun _=>by
   unfold oM H0;simp only[aP,hlt,aK])
  simp only[aN,bD,xX,bC]
  rw[e0,l1]
  cases(List.range t.hs.length).all (b2 t) <;> rfl
theorem Pu{n:Nat}{P Q:Nat→Bool}:((List.range n).all fun k=>P k&&Q k)=((List.range n).all P&&(List.range n).all Q):=by
 rw[UI]
 simp only[jF,cS]
 exact⟨fun h=>⟨fun x hx=>(h x hx).1,fun x hx=>(h x hx).2⟩,fun h x hx=>⟨h.1 x hx,h.2 x hx⟩⟩
theorem Hi{n:Nat}{P Q:Nat→Bool}(h:∀k,k<n→P k=Q k):(List.range n).all P=(List.range n).all Q:=by
 rw[UI]
 simp only[jF,uM]
 exact⟨fun g x hx=>(h x hx)▸g x hx,fun g x hx=>(h x hx).symm▸g x hx⟩
theorem sQ{n:Nat}{P:Nat→Bool}:(List.range n).all P=true↔∀k,k<n→P k=true:=by
 simp only[jF,uM]
def Q0(t:Tp)(k:Nat):Unit×Int×List T×Int×Int×Int×Int×List T×List T×Unit:=((),(t.hs.length:Int),t.hs.map tH,(t.hs.length:Int),(k:Int),t.V,t.F,t.hs.map tH,t.rs.map tR,())
theorem Yl{t:Tp}(hz:Sz t){k:Nat}(hk:k<t.hs.length):iU (Q0 t k)=some (bif b1 t k&&b2 t k then .inl (Q0 t (k+1)) else .inr (.inl (false,()))):=by
 have hn:=hz.n
 have hlt:decide ((k:Int)<(t.hs.length:Int))=true:=aR (by omega)
 cases hb:b1 t k with
 | false=>
  unfold b1 at hb
  unfold iU Q0
  simp only[aP,hlt,aN,eS (l:=t.hs) (i:=(k:Int)) (by omega) (by omega),bD,sO,mY,mG,jV,aJ,bV,bL]
  cases h1:rD (hG t.hs k).f t.V with
  | false=>rfl
  | true=>cases h2:rD (hG t.hs k).n t.hs.length with
   | false=>rfl
   | true=>cases h3:rD (hG t.hs k).p t.hs.length with
    | false=>rfl
    | true=>cases h4:rD (hG t.hs k).r t.rs.length with
     | false=>rfl
     | true=>rw[h1,h2,h3,h4] at hb;cases hb
 | true=>
  obtain⟨h0,h1,h2,h3⟩:=iS.1 hb
  have hm:=kQ hz.e hk
  unfold iU Q0 b2
  simp only[aP,hlt,aN,eS (l:=t.hs) (i:=(k:Int)) (by omega) (by omega),bZ.2 h0,bZ.2 h1,bZ.2 h2,bZ.2 h3,bH,aK,eS (l:=t.hs) h1.1 h1.2,eS (l:=t.hs) h2.1 h2.2,rC (k:=k) (by omega),eS (l:=t.hs) (i:=((mt k:Nat):Int)) (by omega) (by omega),bD,sO,mY,mG,jV,aJ,gA,bV,bL,aH,aS,wk (k:=k) (by omega)]
  cases decide ((hG t.hs (hG t.hs k).n).p=k) <;> cases decide ((hG t.hs (hG t.hs k).p).n=k) <;> cases decide ((hG t.hs (hG t.hs k).n).r=(hG t.hs k).r) <;> cases decide ((hG t.hs (hG t.hs k).n).f=(hG t.hs (mt k:Nat)).f) <;> rfl
theorem Hj{t:Tp}(hz:Sz t):rP (oF t)=some (dz t,()):=by
 have hlt:decide ((t.hs.length:Int)<(t.hs.length:Int))=false:=aW (by omega)
 have l0:=yD (F:=iU) t.hs.length (Q0 t) (fun k=>b1 t k&&b2 t k) (.inl (false,())) (.inr (.inl ())) (fun k hk _=>Yl hz hk) (fun _=>by
  unfold iU Q0;simp only[aP,hlt,aK])
 unfold rP oF
 simp only[bT]
 have e0:((),(t.hs.length:Int),t.hs.map tH,(t.hs.length:Int),(0:Int),t.V,t.F,t.hs.map tH,t.rs.map tR,())=Q0 t 0:=rfl
 rw[e0,l0]
 unfold dz
 rw[Pu]
 cases(List.range t.hs.length).all (b1 t)&&(List.range t.hs.length).all (b2 t) <;> rfl
structure Hok (t:Tp):Prop extends Sz t where
 b1:∀k,k<t.hs.length→b1 t k=true
 b2:∀k,k<t.hs.length→b2 t k=true
theorem Bn{t:Tp}(hz:Sz t)(h:dz t=true):Hok t:=by
 unfold dz at h
 rw[cS] at h
 exact { hz with b1:=fun k hk=>sQ.1 h.1 k hk,b2:=fun k hk=>sQ.1 h.2 k hk }
theorem Hok.dz{t:Tp}(h:Hok t):dz t=true:=by
 unfold Tl.dz;rw[cS];exact⟨sQ.2 h.b1,sQ.2 h.b2⟩
def nx(t:Tp)(k:Nat):Nat:=(hG t.hs k).n.toNat
def pv(t:Tp)(k:Nat):Nat:=(hG t.hs k).p.toNat
def sg(t:Tp)(k:Nat):Nat:=mt (pv t k)
theorem Hok.bg{t:Tp}(h:Hok t){k:Nat}(hk:k<t.hs.length):(hG t.hs k).n=(nx t k:Int):=by
 obtain⟨_,h1,_,_⟩:=iS.1 (h.b1 k hk);unfold nx;omega
theorem Hok.br{t:Tp}(h:Hok t){k:Nat}(hk:k<t.hs.length):(hG t.hs k).p=(pv t k:Int):=by
 obtain⟨_,_,h1,_⟩:=iS.1 (h.b1 k hk);unfold pv;omega
theorem Hok.bf{t:Tp}(h:Hok t){k:Nat}(hk:k<t.hs.length):nx t k<t.hs.length:=by
 obtain⟨_,h1,_,_⟩:=iS.1 (h.b1 k hk);unfold nx;omega
theorem Hok.aj{t:Tp}(h:Hok t){k:Nat}(hk:k<t.hs.length):pv t k<t.hs.length:=by
 obtain⟨_,_,h1,_⟩:=iS.1 (h.b1 k hk);unfold pv;omega
theorem Hok.pn{t:Tp}(h:Hok t){k:Nat}(hk:k<t.hs.length):pv t (nx t k)=k:=by
 have h2:=(LY.1 (h.b2 k hk)).1
 rw[h.bg hk,h.br (h.bf hk)] at h2;omega
theorem Hok.np{t:Tp}(h:Hok t){k:Nat}(hk:k<t.hs.length):nx t (pv t k)=k:=by
 have h2:=(LY.1 (h.b2 k hk)).2.1
 rw[h.br hk,h.bg (h.aj hk)] at h2;omega
theorem Hok.rg{t:Tp}(h:Hok t){k:Nat}(hk:k<t.hs.length):(hG t.hs (nx t k:Nat)).r=(hG t.hs k).r:=by
 have h2:=(LY.1 (h.b2 k hk)).2.2.1
 rwa[h.bg hk] at h2
theorem Hok.fr{t:Tp}(h:Hok t){k:Nat}(hk:k<t.hs.length):(hG t.hs (nx t k:Nat)).f=(hG t.hs (mt k:Nat)).f:=by
 have h2:=(LY.1 (h.b2 k hk)).2.2.2
 rwa[h.bg hk] at h2
theorem Hok.fl{t:Tp}(h:Hok t){a b:Nat}(ha:a<t.hs.length)(hb:b<t.hs.length)(e:nx t a=nx t b):a=b:=by rw[←h.pn ha,e,h.pn hb]
theorem Hok.jx{t:Tp}(h:Hok t){k:Nat}(hk:k<t.hs.length):sg t k<t.hs.length:=kQ h.e (h.aj hk)
theorem Hok.lu{t:Tp}(h:Hok t){a b:Nat}(ha:a<t.hs.length)(hb:b<t.hs.length)(e:sg t a=sg t b):a=b:=by
 have e2:=QQ e;rw[←h.np ha,e2,h.np hb]
theorem Hok.mw{t:Tp}(h:Hok t){k:Nat}(hk:k<t.hs.length):(hG t.hs (sg t k:Nat)).f=(hG t.hs k).f:=by
 have h2:=h.fr (h.aj hk)
 rw[h.np hk] at h2;exact h2.symm
theorem Hok.ku{t:Tp}(h:Hok t){k:Nat}(hk:k<t.hs.length):∃m,bz (nx t) k m∧∀y∈k::m,y<t.hs.length:=
 VN (fun _ hx=>h.bf hx) (fun _ _ hx hy e=>h.fl hx hy e) hk
theorem Hok.kx{t:Tp}(h:Hok t){k:Nat}(hk:k<t.hs.length):∃m,bz (sg t) k m∧∀y∈k::m,y<t.hs.length:=
 VN (fun _ hx=>h.jx hx) (fun _ _ hx hy e=>h.lu hx hy e) hk
def fC(t:Tp)(r:Int)(k:Nat):Bool:=decide ((hG t.hs k).r=r)
def M0(t:Tp)(r:Int)(k:Nat):Int×Unit×Int×Int×Int×Int×List T×List T×Unit:=(r,(),(aw (fC t r) k:Int),(k:Int),t.V,t.F,t.hs.map tH,t.rs.map tR,())
theorem TP{t:Tp}(hn:t.hs.length≤1000)(r:Int):nX (t.V,t.F,t.hs.map tH,t.rs.map tR,r,())=some ((aw (fC t r) t.hs.length:Int),()):=by
 have hl:=bX (F:=nD) t.hs.length (M0 t r) (fun k hk=>by
  have hlt:decide ((k:Int)<(t.hs.length:Int))=true:=aR (by omega)
  have hc:=yM (fC t r) k
  unfold nD M0
  simp only[aP,bT,hlt,aN,eS (l:=t.hs) (i:=(k:Int)) (by omega) (by omega),bD,jV,aJ,aH,aw]
  by_cases h:(hG t.hs k).r=r
  ·have hi:fC t r k=true:=aR h
   simp only[aR h,aN,bD,bC,aS,wk (k:=k) (by omega),wk (k:=aw (fC t r) k) (by omega),hi,eY]
  ·have hi:fC t r k=false:=aW h
   simp only[aW h,aK,bD,bC,aS,wk (k:=k) (by omega),hi,nL,iD,rH])
 have ho:nD (M0 t r t.hs.length)=some (.inr (.inl ((aw (fC t r) t.hs.length:Int),()))):=by
  have hlt:decide ((t.hs.length:Int)<(t.hs.length:Int))=false:=aW (by omega)
  unfold nD M0
  simp only[aP,bT,hlt,aK]
 unfold nX
 have e0:(r,(),(0:Int),(0:Int),t.V,t.F,t.hs.map tH,t.rs.map tR,())=M0 t r 0:=rfl
 simp only[]
 rw[e0,hl,bK ho]
 rfl
def tN(l:List Nat):List T:=l.map fun(k:Nat)=>tI (k:Int)
theorem VO(a b:List Nat):tN (a++b)=tN a++tN b:=by simp[tN]
theorem vO(a:List Nat):(tN a).length=a.length:=by simp[tN]
def Y0(t:Tp)(x:Nat)(m:List Nat)(k:Nat):Int×Unit×List T×T×Int×Int×List T×List T×Unit:=((x:Int),(),tN (x::m.take k),tI (jD x m k:Nat),t.V,t.F,t.hs.map tH,t.rs.map tR,())
theorem YH{x:Nat}{m:List Nat}{k:Nat}(h:k<m.length):x::m.take (k+1)=x::m.take k++[jD x m k]:=by
 rw[Dv h,UJ h];rfl
theorem Lg{t:Tp}(hn:t.hs.length≤1000){x:Nat}{m:List Nat}(hc:bz (nx t) x m)(hb:∀y∈x::m,y<t.hs.length)(hi:∀y∈x::m,(hG t.hs y).n=(nx t y:Int)){k:Nat}(hk:k<m.length):
 mU (Y0 t x m k)=some (.inl (Y0 t x m (k+1))):=by
 have hm:=GV (x:=x) hk
 have hne:=hc.et hk
 have hlt:=hb _ (dY _ hm)
 have hl:m.length+1≤t.hs.length:=by
  have:=QO hc.2 hb;simpa using this
 have hd:decide (((jD x m k:Nat):Int)=(x:Int))=false:=aW (by omega)
 have hr:qE (tN (x::m.take k)) [tI ((jD x m k:Nat):Int)] 8=some (tN (x::m.take (k+1))):=by
  rw[rJ (by simp only[vO,oA,nM,wP];omega) (by decide),YH hk,VO];rfl
 unfold mU Y0
 simp only[aJ,bD,aH,hd,bW,aN,bY,hr,gA,eS (l:=t.hs) (i:=((jD x m k:Nat):Int)) (by omega) (by omega),mY,hi _ (dY _ hm),hc.jw hk]
theorem Pv{t:Tp}(hn:t.hs.length≤1000){x:Nat}{m:List Nat}(hc:bz (nx t) x m)(hb:∀y∈x::m,y<t.hs.length)(hi:∀y∈x::m,(hG t.hs y).n=(nx t y:Int)):
 tV (t.V,t.F,t.hs.map tH,t.rs.map tR,(x:Int),())=some (tN (x::m),()):=by
 have hl:=bX (F:=mU) m.length (Y0 t x m) (fun k hk=>Lg hn hc hb hi hk)
 have ho:mU (Y0 t x m m.length)=some (.inr (.inl (tN (x::m),()))):=by
  unfold mU Y0
  simp only[J2,aJ,bD,aH,cK,bH,aK,ZY]
 have hx:=hb x (by simp)
 have e0:((x:Int),(),[tI (x:Int)],tI (nx t x:Nat),t.V,t.F,t.hs.map tH,t.rs.map tR,())=Y0 t x m 0:=by
  unfold Y0;rw[hc.jf];rfl
 unfold tV
 simp only[eS (l:=t.hs) (i:=(x:Int)) (by omega) (by omega),bD,mY,hi x (by simp),bY]
 rw[e0,hl,bK ho]
 rfl
theorem Bo{t:Tp}(hn:t.hs.length≤1000){x:Nat}{m:List Nat}(hc:bz (nx t) x m)(hb:∀y∈x::m,y<t.hs.length)(hi:∀y∈x::m,(hG t.hs y).n=(nx t y:Int)){k:Nat}(hk:k<m.length):
 kG (Y0 t x m k)=some (.inl (Y0 t x m (k+1))):=by
 have hm:=GV (x:=x) hk
 have hne:=hc.et hk
 have hlt:=hb _ (dY _ hm)
 have hl:m.length+1≤t.hs.length:=by
  have:=QO hc.2 hb;simpa using this
 have hd:decide (((jD x m k:Nat):Int)=(x:Int))=false:=aW (by omega)
 have hr:qE (tN (x::m.take k)) [tI ((jD x m k:Nat):Int)] 8=some (tN (x::m.take (k+1))):=by
  rw[rJ (by simp only[vO,oA,nM,wP];omega) (by decide),YH hk,VO];rfl
 have hg:(t.hs.map tH)[jD x m k]?=some (tH (hG t.hs (jD x m k:Nat))):=by rw[fF,sD _ _ hlt];rfl
 unfold kG Y0
 simp only[aJ,bD,aH,hd,bW,aN,bY,hr,gA,bT,aF (n:=(t.hs.length:Int)) (i:=jD x m k) (by omega),aY,hg,mY,hi _ (dY _ hm),hc.jw hk]
theorem Hk{t:Tp}(hn:t.hs.length≤1000){x:Nat}{m:List Nat}(hc:bz (nx t) x m)(hb:∀y∈x::m,y<t.hs.length)(hi:∀y∈x::m,(hG t.hs y).n=(nx t y:Int)):
 qR (t.V,t.F,t.hs.map tH,t.rs.map tR,(x:Int),())=some (tN (x::m),t.hs.map tH,t.rs.map tR,()):=by
 have hl:=bX (F:=kG) m.length (Y0 t x m) (fun k hk=>Bo hn hc hb hi hk)
 have ho:kG (Y0 t x m m.length)=some (.inr (.inl (tN (x::m),t.V,t.F,t.hs.map tH,t.rs.map tR,()))):=by
  unfold kG Y0
  simp only[J2,aJ,bD,aH,cK,bH,aK,ZY]
 have hx:=hb x (by simp)
 have hg:(t.hs.map tH)[x]?=some (tH (hG t.hs (x:Nat))):=by rw[fF,sD _ _ hx];rfl
 have e0:((x:Int),(),[tI (x:Int)],tI (nx t x:Nat),t.V,t.F,t.hs.map tH,t.rs.map tR,())=Y0 t x m 0:=by
  unfold Y0;rw[hc.jf];rfl
 unfold qR
 simp only[bT,aF (n:=(t.hs.length:Int)) (i:=x) (by omega),aY,hg,bD,mY,hi x (by simp),bY]
 rw[e0,hl,bK ho]
 rfl
noncomputable def rB(t:Tp)(r:Nat):Bool:=rD (rG t.rs r).c t.F&&bif decide ((rG t.rs r).h=-1) then rD (rG t.rs r).v t.V&&!decide ((0:Int)<(aw (fC t r) t.hs.length:Int)) else
 rD (rG t.rs r).h t.hs.length&&(decide ((hG t.hs (rG t.rs r).h).r=r)&&(decide ((rG t.rs r).v=-1)&&decide ((SF (nx t) (rG t.rs r).h.toNat:Int)=(aw (fC t r) t.hs.length:Int))))
def uL(t:Tp):Nat→List Bool
 | 0=>List.replicate t.F.toNat false
 | r+1=>(uL t r).set (rG t.rs r).c.toNat true
theorem VP(t:Tp)(r:Nat):(uL t r).length=t.F.toNat:=by
 induction r with
 | zero=>simp[uL]
 | succ r ih=>simp[uL,ih]
theorem Lh(t:Tp)(f:Nat)(hf:f<t.F.toNat)(r:Nat):(uL t r)[f]?=some (decide (∃j,j<r∧(rG t.rs j).c.toNat=f)):=by
 induction r with
 | zero=>simp[uL,hf]
 | succ r ih=>
  simp only[uL]
  rw[qO]
  by_cases h:(rG t.rs r).c.toNat=f
  ·rw[aC h,aC (by rw[VP];omega)]
   exact fG some (aR ⟨r,by omega,h⟩).symm
  ·rw[aA h,ih]
   congr 1
   rw[decide_eq_decide]
   constructor
   ·rintro ⟨j,h1,h2⟩;exact⟨j,by omega,h2⟩
   ·rintro ⟨j,h1,h2⟩
    by_cases e:j=r
    ·subst e;exact absurd h2 h
    ·exact⟨j,by omega,h2⟩
def fB(t:Tp)(f:Nat):Bool:=decide (∃j,j<t.rs.length∧(rG t.rs j).c.toNat=f)
noncomputable def QR(t:Tp):Bool:=(List.range t.rs.length).all (rB t)&&(List.range t.F.toNat).all (fB t)
def U0(t:Tp)(r:Nat):Unit×List T×Int×Int×Int×List T×List T×Unit:=((),(uL t r).map tB,(r:Int),t.V,t.F,t.hs.map tH,t.rs.map tR,())
theorem Li(l:List Bool)(k:Nat)(b:Bool):(l.map tB).set k (tB b)=(l.set k b).map tB:=by simp[O0]
theorem Ym{t:Tp}(ht:Hok t){r:Nat}(hr:r<t.rs.length):pJ (U0 t r)=some (bif rB t r then .inl (U0 t (r+1)) else .inr (.inl (false,()))):=by
 have hn:=ht.n
 have hR:=ht.R
 have hlt:decide ((r:Int)<(t.rs.length:Int))=true:=aR (by omega)
 unfold pJ U0 rB
 simp only[aP,bL,hlt,aN,iK (l:=t.rs) (i:=(r:Int)) (by omega) (by omega),bD,zF,FH,fN,aJ,fU]
 cases hc:rD (rG t.rs r).c t.F with
 | false=>rfl
 | true=>
  obtain⟨hc0,hc1⟩:=bZ.1 hc
  have hlen:aI ((uL t r).map tB)=((uL t r).length:Int):=by rw[jK,dM]
  have hch:aZ ((uL t r).length:Int) (rG t.rs r).c=some (rG t.rs r).c.toNat:=Jy hc0 (by rw[VP];omega)
  have hg:∃b,((uL t r).map tB)[(rG t.rs r).c.toNat]?=some (tB b):=by
   rw[fF,Lh t _ (by omega)];exact⟨_,rfl⟩
  obtain⟨b,hg⟩:=hg
  simp only[bH,aK,gA,hlen,hch,aY,hg,bD,aH,fM]
  cases hh:decide ((rG t.rs r).h=-1) with
  | true=>
   simp only[aN]
   cases hv:rD (rG t.rs r).v t.V with
   | false=>rfl
   | true=>
    simp only[bH,aK,TP (t:=t) (by omega),bD,fM]
    cases decide ((0:Int)<(aw (fC t r) t.hs.length:Int)) with
    | true=>rfl
    | false=>simp only[aK,bD,xX,bC,aS,wk (k:=r) (by omega),QP,Le,Li,bW,aN,uL]
  | false=>
   simp only[aK,bT]
   cases hi:rD (rG t.rs r).h t.hs.length with
   | false=>rfl
   | true=>
    obtain⟨hi0,hi1⟩:=bZ.1 hi
    obtain⟨x,hx⟩:∃x:Nat,(rG t.rs r).h=(x:Int):=⟨(rG t.rs r).h.toNat,by omega⟩
    have hxl:x<t.hs.length:=by omega
    simp only[bH,aK,hx,eS (l:=t.hs) (i:=(x:Int)) (by omega) (by omega),bD,jV,aJ,fM,nO]
    cases h1:decide ((hG t.hs (x:Int)).r=(r:Int)) with
    | false=>rfl
    | true=>
     simp only[bH,aK,fM]
     cases h2:decide ((rG t.rs r).v=-1) with
     | false=>rfl
     | true=>
      obtain⟨m,hm,hb⟩:=ht.ku hxl
      have hl:aI (tN (x::m))=((m.length+1:Nat):Int):=by rw[jK,vO];rfl
      simp only[bH,aK,bD,Pv (t:=t) (by omega) hm hb (fun y hy=>ht.bg (hb y hy)),TP (t:=t) (by omega),fM,hl,zE hm]
      cases decide (((m.length+1:Nat):Int)=(aw (fC t r) t.hs.length:Int)) with
      | false=>rfl
      | true=>simp only[bH,aK,aN,bD,xX,bC,aS,wk (k:=r) (by omega),QP,Le,Li,uL]
theorem Lj{t:Tp}(ht:Hok t):tW (oF t)=some (QR t,()):=by
 have hF0:=ht.F0
 have hF1:=ht.F1
 have hR:=ht.R
 have hlt:decide ((t.rs.length:Int)<(t.rs.length:Int))=false:=aW (by omega)
 have l0:=yD (F:=pJ) t.rs.length (U0 t) (rB t) (.inl (false,())) (.inr (.inl ((uL t t.rs.length).map tB,()))) (fun k hk _=>Ym ht hk) (fun _=>by
  unfold pJ U0;simp only[aP,bL,hlt,aK])
 unfold tW oF
 simp only[AJ (l:=t.F) (c:=t.F) (b:=1) (by omega) (by omega) (by omega) (by decide),bD,GP,QP]
 have e0:((),List.replicate t.F.toNat (tB false),(0:Int),t.V,t.F,t.hs.map tH,t.rs.map tR,())=U0 t 0:=by
  unfold U0 uL;rw[List.map_replicate];rfl
 rw[e0,l0]
 unfold QR
 cases h:(List.range t.rs.length).all (rB t) with
 | false=>rfl
 | true=>
  simp only[aN,bD,xX,bC,fM]
  have l2:=yD (F:=sT) t.F.toNat (fun k=>((uL t t.rs.length).map tB,(k:Int),())) (fB t) (.inl (false,())) (.inr (.inl ())) (fun k hk _=>by
   have hl:aI ((uL t t.rs.length).map tB)=(t.F.toNat:Int):=by rw[jK,dM,VP]
   have hlt:decide ((k:Int)<(t.F.toNat:Int))=true:=aR (by omega)
   have hg:((uL t t.rs.length).map tB)[k]?=some (tB (fB t k)):=by rw[fF,Lh t k hk];rfl
   unfold sT
   simp only[aP,hl,hlt,aN,aF (n:=(t.F.toNat:Int)) (i:=k) (by omega),bD,aY,hg,Pt,Ps,aS,wk (k:=k) (by omega)]
   cases fB t k <;> rfl) (fun _=>by
   have hl:aI ((uL t t.rs.length).map tB)=(t.F.toNat:Int):=by rw[jK,dM,VP]
   have hlt:decide ((t.F.toNat:Int)<(t.F.toNat:Int))=false:=aW (by omega)
   unfold sT
   simp only[aP,hl,hlt,aK])
  have e1:((uL t t.rs.length).map tB,(0:Int),())=((uL t t.rs.length).map tB,((0:Nat):Int),()):=rfl
  rw[e1,l2]
  cases(List.range t.F.toNat).all (fB t) <;> rfl
def zL(t:Tp)(k:Nat):List Nat:=(List.range t.rs.length).map fun(r:Nat)=>aw (fC t r) k
theorem LZ(t:Tp)(k:Nat):(zL t k).length=t.rs.length:=by simp[zL]
theorem QS(t:Tp)(k:Nat){r:Nat}(h:r<t.rs.length):(zL t k)[r]?=some (aw (fC t r) k):=by simp[zL,h]
theorem BV{l:List Nat}{k v:Nat}(h:l[k]?=some v):(tN l)[k]?=some (tI (v:Int)):=by simp[tN,h]
theorem Bp(l:List Nat)(k v:Nat):(tN l).set k (tI (v:Int))=tN (l.set k v):=by simp[tN,O0]
theorem Pw(t:Tp)(k:Nat){r:Nat}(hr:(hG t.hs k).r=(r:Int))(h:r<t.rs.length):(zL t k).set r (aw (fC t r) k+1)=zL t (k+1):=by
 apply EU
 intro i
 rw[qO]
 by_cases hi:i<t.rs.length
 ·rw[QS t (k+1) hi,LZ]
  by_cases e:r=i
  ·subst e
   have:fC t r k=true:=aR hr
   rw[aC rfl,aC h];simp only[aw,this,eY]
  ·have:fC t i k=false:=aW (by rw[hr];omega)
   rw[aA e,QS t k hi];simp only[aw,this,nL,iD,rH]
 ·have h1:(zL t (k+1))[i]?=none:=tJ (by rw[LZ];omega)
  have h2:(zL t k)[i]?=none:=tJ (by rw[LZ];omega)
  rw[h1,h2,aA (by omega)]
def Z0(t:Tp)(k:Nat):Unit×List T×List T×Int×Int×Int×Int×List T×List T×Unit:=((),tN (zL t k),t.hs.map tH,(t.hs.length:Int),(k:Int),t.V,t.F,t.hs.map tH,t.rs.map tR,())
theorem Yn{t:Tp}(ht:Hok t){k:Nat}(hk:k<t.hs.length):jT (Z0 t k)=some (.inl (Z0 t (k+1))):=by
 have hn:=ht.n
 have hR:=ht.R
 obtain⟨_,_,_,h3⟩:=iS.1 (ht.b1 k hk)
 obtain⟨r,hr⟩:∃r:Nat,(hG t.hs k).r=(r:Int):=⟨(hG t.hs k).r.toNat,by omega⟩
 have hrl:r<t.rs.length:=by omega
 have hlt:decide ((k:Int)<(t.hs.length:Int))=true:=aR (by omega)
 have hl:aI (tN (zL t k))=(t.rs.length:Int):=by rw[jK,vO,LZ]
 have hc:=yM (fC t r) k
 unfold jT Z0
 simp only[aP,hlt,aN,eS (l:=t.hs) (i:=(k:Int)) (by omega) (by omega),bD,jV,gA,hr,hl,aF (n:=(t.rs.length:Int)) (i:=r) (by omega),aY,BV (QS t k hrl),oG,aJ,bY,DE,aS,wk (k:=aw (fC t r) k) (by omega),wk (k:=k) (by omega),Bp,Pw t k hr hrl]
def kL(t:Tp):Nat→List Int
 | 0=>[]
 | r+1=>if (rG t.rs r).c∈kL t r then kL t r else kL t r++[(rG t.rs r).c]
def tK(l:List Int):List T:=l.map fun c=>.agg [tI c,tB true]
theorem Dw(a b:Int):A3 (tI a) (tI b)=(a==b):=rfl
theorem Dx{c:Int}:∀{l:List Int},c∈l→∃i,jH (tI c) (tK l)=some i∧(tK l)[i]?=some (.agg [tI c,tB true])
 | a::l,h=>by
  unfold jH tK
  rw[wO,ZO]
  have e:A3 (tI c) (C4 (.agg [tI a,tB true]))=(c==a):=Dw c a
  rw[e]
  by_cases hc:c=a
  ·subst hc;exact⟨0,by simp,rfl⟩
  ·have h2:c∈l:=by
    rcases cJ.1 h with h | h
    ·exact absurd h hc
    ·exact h
   obtain⟨i,h3,h4⟩:=Dx h2
   unfold jH tK at h3
   have hb:(c==a)=false:=by simpa using hc
   refine⟨i+1,?_,h4⟩
   rw[hb,h3];rfl
theorem Hm{c:Int}:∀{l:List Int},c∉l→jH (tI c) (tK l)=none:=by
 intro l h
 unfold jH
 rw[List.findIdx?_eq_none_iff]
 intro x hx
 obtain⟨a,ha,rfl⟩:=kZ.1 hx
 have e:A3 (tI c) (C4 (.agg [tI a,tB true]))=(c==a):=Dw c a
 rw[e]
 have:c≠a:=fun e=>h (e▸ha)
 simpa using this
theorem kO{α:Type}:∀{l:List α} {i:Nat} {x:α},l[i]?=some x→l.set i x=l
 | [],_,_,h=>by cases h
 | a::l,0,x,h=>by simp at h;rw[h];rfl
 | a::l,i+1,x,h=>by rw[List.set_cons_succ,kO (by simpa using h)]
theorem Th(c:Int)(l:List Int):yJ (tI c) (tB true) (tK l)=tK (if c∈l then l else l++[c]):=by
 unfold yJ
 by_cases h:c∈l
 ·obtain⟨i,h1,h2⟩:=Dx h
  rw[h1,aC h]
  exact kO h2
 ·rw[Hm h,aA h]
  simp[tK]
theorem Bq(t:Tp)(c:Int)(r:Nat):c∈kL t r↔∃j,j<r∧(rG t.rs j).c=c:=by
 induction r with
 | zero=>simp[kL]
 | succ r ih=>
  simp only[kL]
  constructor
  ·intro h
   split at h
   ·obtain⟨j,h1,h2⟩:=ih.1 h;exact⟨j,by omega,h2⟩
   ·rcases fL.1 h with h | h
    ·obtain⟨j,h1,h2⟩:=ih.1 h;exact⟨j,by omega,h2⟩
    ·exact⟨r,by omega,by simpa using(OW.1 h).symm⟩
  ·rintro ⟨j,h1,h2⟩
   by_cases e:j=r
   ·subst e
    split
    ·rename_i h;rw[←h2];exact h
    ·rw[←h2];simp
   ·have:=ih.2 ⟨j,by omega,h2⟩
    split
    ·exact this
    ·exact yU _ this
theorem Vn(t:Tp)(r:Nat):(kL t r).Nodup:=by
 induction r with
 | zero=>simp[kL]
 | succ r ih=>
  simp only[kL]
  split
  ·exact ih
  ·rename_i h
   refine pU.2 ⟨ih,by simp,fun a ha b hb e=>?_⟩
   have:b=(rG t.rs r).c:=by simpa using hb
   subst this;subst e;exact h ha
theorem Ti{t:Tp}(h0:0≤t.F)(hc:∀r,r<t.rs.length→0≤(rG t.rs r).c∧(rG t.rs r).c<t.F):decide (((kL t t.rs.length).length:Int)=t.F)=(List.range t.F.toNat).all (fB t):=by
 have hr:∀c∈kL t t.rs.length,0≤c∧c<t.F:=fun c h=>by
  obtain⟨j,h1,h2⟩:=(Bq t c _).1 h;rw[←h2];exact hc j h1
 have hnd:((kL t t.rs.length).map Int.toNat).Nodup:=by
  have:(kL t t.rs.length).Pairwise fun a b=>a.toNat≠b.toNat:=by
   refine List.Pairwise.imp_of_mem ?_ (Vn t t.rs.length)
   intro a b ha hb hne e
   have:=(hr a ha).1;have:=(hr b hb).1;omega
  exact List.pairwise_map.2 this
 have hlt:∀x∈(kL t t.rs.length).map Int.toNat,x∈List.range t.F.toNat:=fun x hx=>by
  obtain⟨c,h1,rfl⟩:=kZ.1 hx
  have:=hr c h1;exact uM.2 (by omega)
 have hle:=QN hnd hlt
 rw[dM,O1] at hle
 rw[UI,bE,sQ]
 constructor
 ·intro h f hf
  have h2:=Rn hnd hlt (by rw[dM,O1];omega) f (uM.2 hf)
  obtain⟨c,h3,h4⟩:=kZ.1 h2
  obtain⟨j,h5,h6⟩:=(Bq t c _).1 h3
  exact aR ⟨j,h5,by rw[h6,h4]⟩
 ·intro h
  have h2:∀x∈List.range t.F.toNat,x∈(kL t t.rs.length).map Int.toNat:=fun x hx=>by
   obtain⟨j,h3,h4⟩:=bI (h x (uM.1 hx))
   exact kZ.2 ⟨_,(Bq t _ _).2 ⟨j,h3,rfl⟩,h4⟩
  have h3:=QN List.nodup_range h2
  rw[dM,O1] at h3;omega
abbrev zT(t:Tp):List T:=tN (zL t t.hs.length)
def W2(t:Tp)(r:Nat)(ks:List Int)(x:Nat)(m:List Nat)(k:Nat):Unit×List T×List T×Int×Unit×Int×T×List T×Int×Int×Int×Int×List T×List T×T×T×T×Unit:=
 ((),zT t,tK ks,(r:Int),(),((k+1:Nat):Int),tI (jD x m k:Nat),t.rs.map tR,(t.rs.length:Int),(r:Int),t.V,t.F,t.hs.map tH,t.rs.map tR,tI (x:Int),tI (rG t.rs r).v,tI (rG t.rs r).c,())
theorem Xn{t:Tp}(hn:t.hs.length≤1000){r:Nat}{ks:List Int}{x:Nat}{m:List Nat}(hc:bz (nx t) x m)(hb:∀y∈x::m,y<t.hs.length)(hi:∀y∈x::m,(hG t.hs y).n=(nx t y:Int)):
 bU lX (W2 t r ks x m 0)=some (.inl ((),zT t,tK ks,(r:Int),((m.length+1:Nat):Int),t.rs.map tR,(t.rs.length:Int),(r:Int),t.V,t.F,t.hs.map tH,t.rs.map tR,())):=by
 have hl:m.length+1≤t.hs.length:=by
  have:=QO hc.2 hb;simpa using this
 have h1:=bX (F:=lX) m.length (W2 t r ks x m) (fun k hk=>by
  have hm:=GV (x:=x) hk
  have hne:=hc.et hk
  have hlt:=hb _ (dY _ hm)
  have hd:decide (((jD x m k:Nat):Int)=(x:Int))=false:=aW (by omega)
  unfold lX W2
  simp only[aJ,bD,aH,hd,bW,aN,gA,eS (l:=t.hs) (i:=((jD x m k:Nat):Int)) (by omega) (by omega),mY,hi _ (dY _ hm),hc.jw hk,aS,wk (k:=k+1) (by omega)])
 rw[h1]
 refine bK ?_
 unfold lX W2
 simp only[J2,aJ,bD,aH,cK,bH,aK]
def W1(t:Tp)(r:Nat):Unit×List T×List T×List T×Int×Int×Int×Int×List T×List T×Unit:=((),zT t,tK (kL t r),t.rs.map tR,(t.rs.length:Int),(r:Int),t.V,t.F,t.hs.map tH,t.rs.map tR,())
theorem Xo{t:Tp}(ht:Hok t){r:Nat}(hr:r<t.rs.length):lY (W1 t r)=some (bif rB t r then .inl (W1 t (r+1)) else .inr (.inl (false,()))):=by
 have hn:=ht.n
 have hR:=ht.R
 have hlt:decide ((r:Int)<(t.rs.length:Int))=true:=aR (by omega)
 have hl:aI (zT t)=(t.rs.length:Int):=by rw[jK,vO,LZ]
 have hzg:=BV (QS t t.hs.length hr)
 have hk:yJ (tI (rG t.rs r).c) (tB true) (tK (kL t r))=tK (kL t (r+1)):=Th _ _
 unfold lY W1 rB
 simp only[aP,hlt,aN,iK (l:=t.rs) (i:=(r:Int)) (by omega) (by omega),bD,zF,FH,fN,aJ,bV,hl,bT]
 cases hc:rD (rG t.rs r).c t.F with
 | false=>rfl
 | true=>
  simp only[bH,aK,aH,fM]
  cases hh:decide ((rG t.rs r).h=-1) with
  | true=>
   simp only[aN]
   cases hv:rD (rG t.rs r).v t.V with
   | false=>rfl
   | true=>
    simp only[bH,aK,aF (n:=(t.rs.length:Int)) (i:=r) (by omega),bD,aY,hzg,oG,aJ,fM]
    cases decide ((0:Int)<(aw (fC t r) t.hs.length:Int)) with
    | true=>rfl
    | false=>simp only[aK,bD,xX,bC,aS,wk (k:=r) (by omega),bY,QP,hk,bW,aN]
  | false=>
   simp only[aK]
   cases hi:rD (rG t.rs r).h t.hs.length with
   | false=>rfl
   | true=>
    obtain⟨hi0,hi1⟩:=bZ.1 hi
    obtain⟨x,hx⟩:∃x:Nat,(rG t.rs r).h=(x:Int):=⟨(rG t.rs r).h.toNat,by omega⟩
    have hxl:x<t.hs.length:=by omega
    simp only[bH,aK,hx,gA,eS (l:=t.hs) (i:=(x:Int)) (by omega) (by omega),bD,jV,aJ,fM,nO]
    cases h2:decide ((rG t.rs r).v=-1) with
    | false=>simp only[bW,aN,bD,bC,EX,OZ,aK]
    | true=>
     cases h1:decide ((hG t.hs (x:Int)).r=(r:Int)) with
     | false=>rfl
     | true=>
      obtain⟨m,hm,hb⟩:=ht.ku hxl
      have hlp:=Xn (t:=t) (by omega) (r:=r) (ks:=kL t (r+1)) hm hb (fun y hy=>ht.bg (hb y hy))
      have e0:((),zT t,tK (kL t (r+1)),(r:Int),(),(1:Int),tI (nx t x:Nat),t.rs.map tR,(t.rs.length:Int),(r:Int),t.V,t.F,t.hs.map tH,t.rs.map tR,tI (x:Int),tI (rG t.rs r).v,tI (rG t.rs r).c,())=W2 t r (kL t (r+1)) x m 0:=by
       unfold W2;rw[hm.jf];rfl
      simp only[bH,aK,mY,ht.bg hxl,bY,QP,hk]
      rw[e0,hlp]
      simp only[bD,bC,hl,aF (n:=(t.rs.length:Int)) (i:=r) (by omega),aY,hzg,oG,aJ,fM,zE hm]
      cases decide (((m.length+1:Nat):Int)=(aw (fC t r) t.hs.length:Int)) with
      | false=>rfl
      | true=>simp only[bH,aK,aN,bD,xX,bC,aS,wk (k:=r) (by omega)]
theorem Lk{t:Tp}(ht:Hok t):sY (oF t)=some (QR t,()):=by
 have hF0:=ht.F0
 have hn:=ht.n
 have hR:=ht.R
 have h0:=bX (F:=jT) t.hs.length (Z0 t) (fun k hk=>Yn ht hk)
 have o0:jT (Z0 t t.hs.length)=some (.inr (.inl ((),zT t,t.V,t.F,t.hs.map tH,t.rs.map tR,()))):=by
  have hlt:decide ((t.hs.length:Int)<(t.hs.length:Int))=false:=aW (by omega)
  unfold jT Z0;simp only[aP,hlt,aK]
 have l1:=yD (F:=lY) t.rs.length (W1 t) (rB t) (.inl (false,())) (.inr (.inl ((),tK (kL t t.rs.length),t.V,t.F,t.hs.map tH,t.rs.map tR,()))) (fun k hk _=>Xo ht hk) (fun _=>by
  have hlt:decide ((t.rs.length:Int)<(t.rs.length:Int))=false:=aW (by omega)
  unfold lY W1;simp only[aP,hlt,aK])
 unfold sY oF
 simp only[bL,bT,AJ (l:=(t.rs.length:Int)) (c:=(t.rs.length:Int)) (b:=8) (by omega) (by omega) (by omega) (by decide),bD,GP,bY,nO]
 have e0:((),List.replicate t.rs.length (tI 0),t.hs.map tH,(t.hs.length:Int),(0:Int),t.V,t.F,t.hs.map tH,t.rs.map tR,())=Z0 t 0:=by
  unfold Z0
  have:tN (zL t 0)=List.replicate t.rs.length (tI 0):=by
   have hz:zL t 0=List.replicate t.rs.length 0:=by
    apply EU
    intro i
    by_cases hi:i<t.rs.length
    ·rw[QS t 0 hi];simp[aw,hi]
    ·rw[tJ (by rw[LZ];omega),tJ (by simp;omega)]
   rw[hz];simp[tN]
  rw[this];rfl
 rw[e0,h0,bK o0]
 simp only[bD,bC,bL]
 have e1:((),zT t,[],t.rs.map tR,(t.rs.length:Int),(0:Int),t.V,t.F,t.hs.map tH,t.rs.map tR,())=W1 t 0:=rfl
 rw[e1,l1]
 unfold QR
 cases h:(List.range t.rs.length).all (rB t) with
 | false=>rfl
 | true=>
  have hc:∀r,r<t.rs.length→0≤(rG t.rs r).c∧(rG t.rs r).c<t.F:=fun r hr=>by
   have:=sQ.1 h r hr
   unfold rB at this
   exact bZ.1 (iC.1 this).1
  have hlk:aI (tK (kL t t.rs.length))=((kL t t.rs.length).length:Int):=by rw[jK];simp[tK]
  simp only[aN,bD,xX,bC,fM,hlk,aH,Ti (by omega:0≤t.F) hc]
def fi(P:Nat→Bool):Nat→Int
 | 0=>-1
 | k+1=>bif P k then (bif decide (fi P k<0) then (k:Int) else fi P k) else fi P k
def la(P:Nat→Bool):Nat→Nat
 | 0=>0
 | k+1=>bif P k then k else la P k
theorem GY{P:Nat→Bool}{n:Nat}(h:0<aw P n):∃k:Nat,k<n∧fi P n=(k:Int)∧P k=true:=by
 induction n with
 | zero=>exact absurd h (by simp[aw])
 | succ n ih=>
  simp only[fi]
  cases hp:P n with
  | true=>
   cases hd:decide (fi P n<0) with
   | true=>exact⟨n,by omega,rfl,hp⟩
   | false=>
    have h2:=rS hd
    have h3:0<aw P n:=by
     by_cases h4:0<aw P n
     ·exact h4
     ·exfalso
      have h5:∀k,k<n→P k=false:=fun k hk=>by
       cases hk2:P k with
       | false=>rfl
       | true=>exact absurd (rK.2 ⟨k,hk,hk2⟩) h4
      have h6:∀m,m≤n→fi P m=-1:=by
       intro m
       induction m with
       | zero=>intro _;rfl
       | succ m ih=>intro hm;simp only[fi,h5 m (by omega),aK];exact ih (by omega)
      have:=h6 n (gB _);omega
    obtain⟨k,h4,h5,h6⟩:=ih h3
    exact⟨k,by omega,h5,h6⟩
  | false=>
   simp only[aw,hp,nL,iD,rH] at h
   obtain⟨k,h4,h5,h6⟩:=ih h
   exact⟨k,by omega,h5,h6⟩
theorem VR{P:Nat→Bool}{n:Nat}(h:0<aw P n):la P n<n∧P (la P n)=true:=by
 induction n with
 | zero=>exact absurd h (by simp[aw])
 | succ n ih=>
  simp only[la]
  cases hp:P n with
  | true=>exact⟨by simp only[aN];omega,hp⟩
  | false=>
   simp only[aw,hp,nL,iD,rH] at h
   have:=ih h
   exact⟨by simp only[aK];omega,this.2⟩
def nJ(t:Tp)(v:Int)(k:Nat):Bool:=decide ((hG t.hs k).f=v)
def B6(t:Tp)(v:Int)(r:Nat):Bool:=decide ((rG t.rs r).h=-1)&&decide ((rG t.rs r).v=v)
abbrev vc(t:Tp)(v:Int):Nat:=aw (nJ t v) t.hs.length
abbrev sc(t:Tp)(v:Int):Nat:=aw (B6 t v) t.rs.length
noncomputable def vB(t:Tp)(v:Nat):Bool:=bif decide ((1:Int)<(sc t v:Int)) then false else bif decide ((sc t v:Int)=1)&&decide ((0:Int)<(vc t v:Int)) then false else bif decide ((sc t v:Int)+(vc t v:Int)=0) then false else
 bif decide ((vc t v:Int)=0) then true else decide ((SF (sg t) (fi (nJ t v) t.hs.length).toNat:Int)=(vc t v:Int))
noncomputable def Bw(t:Tp):Bool:=(List.range t.V.toNat).all (vB t)
def V1(t:Tp)(v:Nat)(r:Nat):Unit×Int×Int×Int×Int×Int×Int×Int×List T×List T×Unit:=((),(v:Int),(aw (B6 t v) r:Int),-1,0,(r:Int),t.V,t.F,t.hs.map tH,t.rs.map tR,())
theorem Ts{t:Tp}(hR:t.rs.length≤1000)(v:Nat):bU lS (V1 t v 0)=some (.inl ((),(v:Int),(sc t v:Int),-1,0,t.V,t.F,t.hs.map tH,t.rs.map tR,())):=by
 have h1:=bX (F:=lS) t.rs.length (V1 t v) (fun r hr=>by
  have hlt:decide ((r:Int)<(t.rs.length:Int))=true:=aR (by omega)
  have hc:=yM (B6 t v) r
  unfold lS V1
  simp only[aP,bL,hlt,aN,iK (l:=t.rs) (i:=(r:Int)) (by omega) (by omega),bD,zF,FH,aJ,aH,aw]
  cases h1:decide ((rG t.rs r).h=-1) with
  | false=>
   have ha:B6 t v r=false:=by unfold B6;rw[h1];rfl
   simp only[aK,bD,bC,aS,wk (k:=r) (by omega),ha,nL,iD,rH]
  | true=>
   simp only[aN]
   cases h2:decide ((rG t.rs r).v=(v:Int)) with
   | false=>
    have ha:B6 t v r=false:=by unfold B6;rw[h1,h2];rfl
    simp only[aK,bD,bC,aS,wk (k:=r) (by omega),ha,nL,iD,rH]
   | true=>
    have ha:B6 t v r=true:=by unfold B6;rw[h1,h2];rfl
    simp only[aN,bD,bC,aS,wk (k:=r) (by omega),wk (k:=aw (B6 t v) r) (by omega),ha,eY])
 rw[h1]
 refine bK ?_
 have hlt:decide ((t.rs.length:Int)<(t.rs.length:Int))=false:=aW (by omega)
 unfold lS V1
 simp only[aP,bL,hlt,aK]
def V3(t:Tp)(v:Nat)(s:Int)(k:Nat):Unit×Int×Int×Int×Int×Int×Int×Int×List T×List T×Unit:=((),(v:Int),s,fi (nJ t v) k,(aw (nJ t v) k:Int),(k:Int),t.V,t.F,t.hs.map tH,t.rs.map tR,())
theorem Yo{t:Tp}(hn:t.hs.length≤1000)(v:Nat)(s:Int):bU lT (V3 t v s 0)=some (.inl ((),(v:Int),s,fi (nJ t v) t.hs.length,(vc t v:Int),t.V,t.F,t.hs.map tH,t.rs.map tR,())):=by
 have h1:=bX (F:=lT) t.hs.length (V3 t v s) (fun k hk=>by
  have hlt:decide ((k:Int)<(t.hs.length:Int))=true:=aR (by omega)
  have hc:=yM (nJ t v) k
  unfold lT V3
  simp only[aP,bT,hlt,aN,eS (l:=t.hs) (i:=(k:Int)) (by omega) (by omega),bD,sO,aJ,aH,aw,fi]
  cases h2:decide ((hG t.hs k).f=(v:Int)) with
  | false=>
   have ha:nJ t v k=false:=h2
   simp only[aK,bD,bC,aS,wk (k:=k) (by omega),ha,nL,iD,rH]
  | true=>
   have ha:nJ t v k=true:=h2
   simp only[aN,ha]
   cases decide (fi (nJ t v) k<0) <;> simp only[aN,aK,bD,bC,aS,wk (k:=k) (by omega),wk (k:=aw (nJ t v) k) (by omega),eY])
 rw[h1]
 refine bK ?_
 have hlt:decide ((t.hs.length:Int)<(t.hs.length:Int))=false:=aW (by omega)
 unfold lT V3
 simp only[aP,bT,hlt,aK]
def V5(t:Tp)(v c:Int)(x:Nat)(m:List Nat)(k:Nat):Unit×Int×Int×Int×Int×Int×Int×Int×List T×List T×Unit:=((),v,(x:Int),c,((k+1:Nat):Int),((jD x m k:Nat):Int),t.V,t.F,t.hs.map tH,t.rs.map tR,())
theorem Yp{t:Tp}(ht:Hok t)(v c:Int){x:Nat}{m:List Nat}(hc:bz (sg t) x m)(hb:∀y∈x::m,y<t.hs.length):
 bU jS (V5 t v c x m 0)=some (.inl ((),v,c,((m.length+1:Nat):Int),t.V,t.F,t.hs.map tH,t.rs.map tR,())):=by
 have hn:=ht.n
 have hl:m.length+1≤t.hs.length:=by
  have:=QO hc.2 hb;simpa using this
 have h1:=bX (F:=jS) m.length (V5 t v c x m) (fun k hk=>by
  have hm:=GV (x:=x) hk
  have hne:=hc.et hk
  have hlt:=hb _ (dY _ hm)
  have hd:decide (((jD x m k:Nat):Int)=(x:Int))=false:=aW (by omega)
  have hp:=ht.aj hlt
  have hs:mt (pv t (jD x m k))=jD x m (k+1):=hc.jw hk
  unfold jS V5
  simp only[aH,hd,bW,aN,eS (l:=t.hs) (i:=((jD x m k:Nat):Int)) (by omega) (by omega),bD,mG,aJ,ht.br hlt,qK (k:=pv t (jD x m k)) (by omega),hs,aS,wk (k:=k+1) (by omega)])
 rw[h1]
 refine bK ?_
 unfold jS V5
 simp only[J2,aH,cK,bH,aK]
def V0(t:Tp)(v:Nat):Unit×Int×Int×Int×List T×List T×Unit:=((),(v:Int),t.V,t.F,t.hs.map tH,t.rs.map tR,())
theorem Yq{t:Tp}(ht:Hok t){v:Nat}(hv:v<t.V.toNat):lU (V0 t v)=some (bif vB t v then .inl (V0 t (v+1)) else .inr (.inl (false,()))):=by
 have hn:=ht.n
 have hR:=ht.R
 have hV:=ht.V1
 have hlt:decide ((v:Int)<t.V)=true:=aR (by omega)
 have h1:=Ts (t:=t) (by omega) v
 have h3:=Yo (t:=t) (by omega) v (sc t v)
 have e1:((),(v:Int),(0:Int),(-1:Int),(0:Int),(0:Int),t.V,t.F,t.hs.map tH,t.rs.map tR,())=V1 t v 0:=rfl
 have e3:((),(v:Int),(sc t v:Int),(-1:Int),(0:Int),(0:Int),t.V,t.F,t.hs.map tH,t.rs.map tR,())=V3 t v (sc t v) 0:=rfl
 have hsl:sc t v≤t.rs.length:=yM (B6 t v) t.rs.length
 have hcl:vc t v≤t.hs.length:=yM (nJ t v) t.hs.length
 have hw:wr .i64 ((sc t v:Int)+(vc t v:Int))=(sc t v:Int)+(vc t v:Int):=fQ (by omega) (by omega)
 have fan:0<vc t v→∃m,(fi (nJ t v) t.hs.length)=(((fi (nJ t v) t.hs.length).toNat:Nat):Int)∧(fi (nJ t v) t.hs.length).toNat<t.hs.length∧bz (sg t) (fi (nJ t v) t.hs.length).toNat m∧(∀y∈(fi (nJ t v) t.hs.length).toNat::m,y<t.hs.length):=fun h=>by
  obtain⟨k,hk,he,_⟩:=GY h
  obtain⟨m,hm,hb⟩:=ht.kx hk
  rw[he,nO]
  exact⟨m,rfl,hk,hm,hb⟩
 unfold lU V0 vB
 simp only[aP,hlt,aN]
 rw[e1,h1]
 simp only[bD,bC]
 rw[e3,h3]
 simp only[bD,bC,aH,aS,hw]
 cases hA:decide ((1:Int)<(sc t v:Int)) with
 | true=>rfl
 | false=>
  simp only[aK]
  have hA':=rS hA
  have walk:∀(hz:decide ((vc t v:Int)=0)=false),∃m,bz (sg t) (fi (nJ t v) t.hs.length).toNat m∧(ob (dA (t.hs.map tH) (fi (nJ t v) t.hs.length)) fun x=>ob (T.int? .i64 (T.cell x 2)) fun y=>iE (y,()))=some (((jD (fi (nJ t v) t.hs.length).toNat m 0:Nat):Int),())∧(∀y∈(fi (nJ t v) t.hs.length).toNat::m,y<t.hs.length)∧fi (nJ t v) t.hs.length=(((fi (nJ t v) t.hs.length).toNat:Nat):Int):=fun hz=>by
   have hz':=rS hz
   obtain⟨m,he,hk,hm,hb⟩:=fan (by omega)
   refine⟨m,hm,?_,hb,he⟩
   have hp:=ht.aj hk
   have hs:mt (pv t (fi (nJ t v) t.hs.length).toNat)=jD (fi (nJ t v) t.hs.length).toNat m 0:=hm.jf
   rw[he]
   simp only[nO]
   rw[eS (l:=t.hs) (by omega) (by omega)]
   simp only[bD,mG,aJ,ht.br hk,qK (k:=pv t (fi (nJ t v) t.hs.length).toNat) (by omega),hs]
  cases hB:decide ((sc t v:Int)=1) with
  | true=>
   simp only[aN,fM]
   cases hC:decide ((0:Int)<(vc t v:Int)) with
   | true=>rfl
   | false=>
    have hC':=rS hC
    have hB':=bI hB
    have hD:decide ((sc t v:Int)+(vc t v:Int)=0)=false:=aW (by omega)
    have hE:decide ((vc t v:Int)=0)=true:=aR (by omega)
    simp only[hD,hE,aN,aK,bD,xX,bC,wk (k:=v) (by omega)]
  | false=>
   simp only[aK,EX]
   cases hD:decide ((sc t v:Int)+(vc t v:Int)=0) with
   | true=>rfl
   | false=>
    simp only[aK]
    cases hE:decide ((vc t v:Int)=0) with
    | true=>simp only[aN,bD,xX,bC,wk (k:=v) (by omega)]
    | false=>
     obtain⟨m,hm,hw2,hb,he⟩:=walk hE
     have h5:=Yp ht v (vc t v) hm hb
     have hk:(fi (nJ t v) t.hs.length).toNat<t.hs.length:=hb _ (by simp)
     have hp:=ht.aj hk
     have hs:mt (pv t (fi (nJ t v) t.hs.length).toNat)=jD (fi (nJ t v) t.hs.length).toNat m 0:=hm.jf
     generalize hg:(fi (nJ t v) t.hs.length).toNat=x at *
     have e5:((),(v:Int),(x:Int),(vc t v:Int),(1:Int),(((jD x m 0:Nat):Int)),t.V,t.F,t.hs.map tH,t.rs.map tR,())=V5 t v (vc t v) x m 0:=rfl
     simp only[aK,he,eS (l:=t.hs) (i:=(x:Int)) (by omega) (by omega),bD,mG,aJ,ht.br hk,qK (k:=pv t x) (by omega),hs]
     rw[e5,h5]
     simp only[bD,bC,zE hm]
     cases decide (((m.length+1:Nat):Int)=(vc t v:Int)) with
     | false=>rfl
     | true=>simp only[bH,aK,aN,bD,xX,bC,wk (k:=v) (by omega)]
theorem YK{t:Tp}(ht:Hok t):sU (oF t)=some (Bw t,()):=by
 have hV0:=ht.V0
 have l0:=yD (F:=lU) t.V.toNat (V0 t) (vB t) (.inl (false,())) (.inr (.inl ())) (fun k hk _=>Yq ht hk) (fun _=>by
  have hlt:decide ((t.V.toNat:Int)<t.V)=false:=aW (by omega)
  unfold lU V0;simp only[aP,hlt,aK])
 unfold sU oF
 have e0:((),(0:Int),t.V,t.F,t.hs.map tH,t.rs.map tR,())=V0 t 0:=rfl
 simp only[]
 rw[e0,l0]
 unfold Bw
 cases(List.range t.V.toNat).all (vB t) <;> rfl
def uS(t:Tp)(g:Int→Nat):List Nat:=(List.range t.V.toNat).map fun(v:Nat)=>g (v:Int)
theorem FJ(t:Tp)(g:Int→Nat):(uS t g).length=t.V.toNat:=by simp[uS]
theorem tT{t:Tp}{g:Int→Nat}{v:Nat}(h:v<t.V.toNat):(uS t g)[v]?=some (g (v:Int)):=by simp[uS,h]
theorem QY{t:Tp}{g g':Int→Nat}{v x:Nat}(h:v<t.V.toNat)(hx:g' (v:Int)=x)(ho:∀w:Int,w≠(v:Int)→g' w=g w):(uS t g).set v x=uS t g':=by
 apply EU
 intro i
 rw[qO]
 by_cases hi:i<t.V.toNat
 ·rw[tT (g:=g') hi,FJ]
  by_cases e:v=i
  ·subst e;rw[aC rfl,aC h,hx]
  ·rw[aA e,tT (g:=g) hi,ho _ (by omega)]
 ·have h1:(uS t g')[i]?=none:=tJ (by rw[FJ];omega)
  have h2:(uS t g)[i]?=none:=tJ (by rw[FJ];omega)
  rw[h1,h2,aA (by omega)]
theorem Hv{t:Tp}:tN (uS t fun _=>0)=List.replicate t.V.toNat (tI 0):=by
 have:uS t (fun _=>0)=List.replicate t.V.toNat 0:=by
  apply EU
  intro i
  by_cases hi:i<t.V.toNat
  ·rw[tT hi];simp[hi]
  ·rw[tJ (by rw[FJ];omega),tJ (by simp;omega)]
 rw[this];simp[tN]
theorem zU(t:Tp)(h:0≤t.V)(g:Int→Nat):aI (tN (uS t g))=t.V:=by rw[jK,vO,FJ];omega
def K0(t:Tp)(r:Nat):Unit×List T×List T×List T×List T×Int×Int×Int×Int×List T×List T×Unit:=((),tN (uS t fun v=>aw (B6 t v) r),tN (uS t fun _=>0),tN (uS t fun _=>0),t.rs.map tR,(t.rs.length:Int),(r:Int),t.V,t.F,t.hs.map tH,t.rs.map tR,())
theorem Yr{t:Tp}(ht:Hok t)(hr:∀r,r<t.rs.length→rB t r=true){r:Nat}(hk:r<t.rs.length):iF (K0 t r)=some (.inl (K0 t (r+1))):=by
 have hR:=ht.R
 have hV:=ht.V0
 have hV1:=ht.V1
 have hlt:decide ((r:Int)<(t.rs.length:Int))=true:=aR (by omega)
 have hrb:=hr r hk
 unfold rB at hrb
 have hrb2:=(iC.1 hrb).2
 unfold iF K0
 simp only[aP,hlt,aN,iK (l:=t.rs) (i:=(r:Int)) (by omega) (by omega),bD,zF,FH,aJ,aH]
 cases h1:decide ((rG t.rs r).h=-1) with
 | false=>
  have ha:∀v,B6 t v r=false:=fun v=>by unfold B6;rw[h1];rfl
  simp only[aK,bD,bC,aS,wk (k:=r) (by omega),aw,ha,nL,iD,rH]
 | true=>
  rw[h1,aN] at hrb2
  obtain⟨h2,h3⟩:=bZ.1 (iC.1 hrb2).1
  obtain⟨v,hv⟩:∃v:Nat,(rG t.rs r).v=(v:Int):=⟨(rG t.rs r).v.toNat,by omega⟩
  have hvl:v<t.V.toNat:=by omega
  have hc:=yM (B6 t v) r
  have hs:(uS t fun v=>aw (B6 t v) r).set v (aw (B6 t v) r+1)=uS t fun v=>aw (B6 t v) (r+1):=by
   refine QY hvl ?_ ?_
   ·have:B6 t v r=true:=by unfold B6;rw[h1,hv];simp
    simp only[aw,this,eY]
   ·intro w hw
    have:B6 t w r=false:=by unfold B6;rw[h1,hv];simpa using fun e=>hw e.symm
    simp only[aw,this,nL,iD,rH]
  simp only[aN,hv,gA,bD,zU t (by omega),aF (n:=t.V) (i:=v) (by omega),aY,BV (tT (t:=t) (g:=fun v=>aw (B6 t v) r) hvl),oG,aJ,bY,DE,aS,wk (k:=aw (B6 t v) r) (by omega),wk (k:=r) (by omega),Bp,hs,bC]
def K2(t:Tp)(k:Nat):Unit×List T×List T×List T×List T×Int×Int×Int×Int×List T×List T×Unit:=((),tN (uS t fun v=>sc t v),tN (uS t fun v=>aw (nJ t v) k),tN (uS t fun v=>la (nJ t v) k),t.hs.map tH,(t.hs.length:Int),(k:Int),t.V,t.F,t.hs.map tH,t.rs.map tR,())
theorem Ys{t:Tp}(ht:Hok t){k:Nat}(hk:k<t.hs.length):iG (K2 t k)=some (.inl (K2 t (k+1))):=by
 have hn:=ht.n
 have hV:=ht.V0
 have hV1:=ht.V1
 have hlt:decide ((k:Int)<(t.hs.length:Int))=true:=aR (by omega)
 obtain⟨⟨h2,h3⟩,_⟩:=iS.1 (ht.b1 k hk)
 obtain⟨v,hv⟩:∃v:Nat,(hG t.hs k).f=(v:Int):=⟨(hG t.hs k).f.toNat,by omega⟩
 have hvl:v<t.V.toNat:=by omega
 have hc:=yM (nJ t v) k
 have hs:(uS t fun v=>aw (nJ t v) k).set v (aw (nJ t v) k+1)=uS t fun v=>aw (nJ t v) (k+1):=by
  refine QY hvl ?_ ?_
  ·have:nJ t v k=true:=by unfold nJ;rw[hv];simp
   simp only[aw,this,eY]
  ·intro w hw
   have:nJ t w k=false:=by unfold nJ;rw[hv];simpa using fun e=>hw e.symm
   simp only[aw,this,nL,iD,rH]
 have hs2:(uS t fun v=>la (nJ t v) k).set v k=uS t fun v=>la (nJ t v) (k+1):=by
  refine QY hvl ?_ ?_
  ·have:nJ t v k=true:=by unfold nJ;rw[hv];simp
   simp only[la,this,aN]
  ·intro w hw
   have:nJ t w k=false:=by unfold nJ;rw[hv];simpa using fun e=>hw e.symm
   simp only[la,this,aK]
 unfold iG K2
 simp only[aP,hlt,aN,eS (l:=t.hs) (i:=(k:Int)) (by omega) (by omega),bD,sO,hv,gA,zU t (by omega),aF (n:=t.V) (i:=v) (by omega),aY,BV (tT (t:=t) (g:=fun v=>aw (nJ t v) k) hvl),BV (tT (t:=t) (g:=fun v=>la (nJ t v) k) hvl),oG,aJ,bY,DE,aS,wk (k:=aw (nJ t v) k) (by omega),wk (k:=k) (by omega),Bp,hs,hs2]
noncomputable def vP(t:Tp)(v:Nat):Bool:=bif decide ((vc t v:Int)=0) then decide ((sc t v:Int)=1) else bif decide ((0:Int)<(sc t v:Int)) then false else decide ((SF (sg t) (la (nJ t v) t.hs.length):Int)=(vc t v:Int))
abbrev aT(t:Tp):List T:=tN (uS t fun v=>sc t v)
abbrev dT(t:Tp):List T:=tN (uS t fun v=>vc t v)
abbrev fT(t:Tp):List T:=tN (uS t fun v=>la (nJ t v) t.hs.length)
def K4(t:Tp)(v:Nat)(x:Nat)(m:List Nat)(k:Nat):Unit×List T×List T×List T×Int×Int×Int×Int×Int×Int×Int×List T×List T×Unit:=((),aT t,dT t,fT t,(v:Int),((k+1:Nat):Int),((jD x m k:Nat):Int),t.V,(v:Int),t.V,t.F,t.hs.map tH,t.rs.map tR,())
theorem Yt{t:Tp}(ht:Hok t){v:Nat}(hv:v<t.V.toNat){m:List Nat}(hc:bz (sg t) (la (nJ t v) t.hs.length) m)(hb:∀y∈(la (nJ t v) t.hs.length)::m,y<t.hs.length):
 bU jM (K4 t v (la (nJ t v) t.hs.length) m 0)=some (.inl ((),aT t,dT t,fT t,(v:Int),((m.length+1:Nat):Int),t.V,(v:Int),t.V,t.F,t.hs.map tH,t.rs.map tR,())):=by
 have hn:=ht.n
 have hV:=ht.V0
 have hl:m.length+1≤t.hs.length:=by
  have:=QO hc.2 hb;simpa using this
 have hg:=BV (tT (t:=t) (g:=fun v=>la (nJ t v) t.hs.length) hv)
 generalize hx:la (nJ t v) t.hs.length=x at *
 have h1:=bX (F:=jM) m.length (K4 t v x m) (fun k hk=>by
  have hm:=GV (x:=x) hk
  have hne:=hc.et hk
  have hlt:=hb _ (dY _ hm)
  have hd:decide (((jD x m k:Nat):Int)=(x:Int))=false:=aW (by omega)
  have hp:=ht.aj hlt
  have hs:mt (pv t (jD x m k))=jD x m (k+1):=hc.jw hk
  unfold jM K4
  simp only[zU t (by omega),aF (n:=t.V) (i:=v) (by omega),bD,aY,hg,oG,aJ,aH,hd,bW,aN,eS (l:=t.hs) (i:=((jD x m k:Nat):Int)) (by omega) (by omega),mG,ht.br hlt,rC (k:=pv t (jD x m k)) (by omega),hs,aS,wk (k:=k+1) (by omega)])
 rw[h1]
 refine bK ?_
 unfold jM K4
 simp only[zU t (by omega),aF (n:=t.V) (i:=v) (by omega),bD,aY,hg,oG,aJ,J2,aH,cK,bH,aK]
def K3(t:Tp)(v:Nat):Unit×List T×List T×List T×Int×Int×Int×Int×List T×List T×Unit:=((),aT t,dT t,fT t,t.V,(v:Int),t.V,t.F,t.hs.map tH,t.rs.map tR,())
theorem Yu{t:Tp}(ht:Hok t){v:Nat}(hv:v<t.V.toNat):jN (K3 t v)=some (bif vP t v then .inl (K3 t (v+1)) else .inr (.inl (false,()))):=by
 have hn:=ht.n
 have hV:=ht.V0
 have hV1:=ht.V1
 have hlt:decide ((v:Int)<t.V)=true:=aR (by omega)
 have ha:=BV (tT (t:=t) (g:=fun v=>sc t v) hv)
 have hd:=BV (tT (t:=t) (g:=fun v=>vc t v) hv)
 have hf:=BV (tT (t:=t) (g:=fun v=>la (nJ t v) t.hs.length) hv)
 unfold jN K3 vP
 simp only[aP,hlt,aN,zU t (by omega),aF (n:=t.V) (i:=v) (by omega),bD,aY,ha,hd,hf,oG,aJ,gA,aH]
 cases hE:decide ((vc t v:Int)=0) with
 | true=>
  simp only[aN]
  cases decide ((sc t v:Int)=1) with
  | false=>rfl
  | true=>simp only[bH,aK,aN,bD,xX,bC,aS,wk (k:=v) (by omega)]
 | false=>
  have hz:=rS hE
  have hp0:0<aw (nJ t v) t.hs.length:=by
   have:(vc t v:Int)=(aw (nJ t v) t.hs.length:Int):=rfl
   omega
  obtain⟨hll,hlv⟩:=VR hp0
  obtain⟨m,hm,hb⟩:=ht.kx hll
  have h4:=Yt ht hv hm hb
  have hp:=ht.aj hll
  have hs:mt (pv t (la (nJ t v) t.hs.length))=jD (la (nJ t v) t.hs.length) m 0:=hm.jf
  generalize hx:la (nJ t v) t.hs.length=x at *
  have e4:((),aT t,dT t,fT t,(v:Int),(1:Int),(((jD x m 0:Nat):Int)),t.V,(v:Int),t.V,t.F,t.hs.map tH,t.rs.map tR,())=K4 t v x m 0:=rfl
  simp only[aK,eS (l:=t.hs) (i:=(x:Int)) (by omega) (by omega),bD,mG,aJ,ht.br hll,rC (k:=pv t x) (by omega),hs]
  rw[e4,h4]
  simp only[bD,bC,zU t (by omega),aF (n:=t.V) (i:=v) (by omega),ha,hd,oG,aJ,zE hm]
  cases decide ((0:Int)<(sc t v:Int)) with
  | true=>rfl
  | false=>
   simp only[aK]
   cases decide (((m.length+1:Nat):Int)=(vc t v:Int)) with
   | false=>rfl
   | true=>simp only[bH,aK,aN,bD,xX,bC,aS,wk (k:=v) (by omega)]
theorem YL{t:Tp}(ht:Hok t){v:Int}{a b:Nat}(ha:a<t.hs.length)(hb:b<t.hs.length)(hav:nJ t v a=true)(hbv:nJ t v b=true)(h:SF (sg t) a=vc t v):SF (sg t) b=vc t v:=by
 obtain⟨m,hm,hl⟩:=ht.kx ha
 have hP:∀y∈a::m,y<t.hs.length∧nJ t v y=true:=by
  refine QM (P:=fun y=>y<t.hs.length∧nJ t v y=true) ?_ hm.1 ⟨ha,hav⟩
  rintro y ⟨hy,hyv⟩
  refine⟨ht.jx hy,?_⟩
  unfold nJ;rw[ht.mw hy];exact hyv
 rw[zE hm] at h
 have hmem:=TO hm.2 hP (by simp only[oA];exact Nat.le_of_eq h.symm) hb hbv
 rcases cJ.1 hmem with e | hmem
 ·subst e;rw[zE hm];exact h
 ·obtain⟨l,hl2,_,hle⟩:=hm.ox hmem
  rw[zE hl2,hle];exact h
theorem Ro{t:Tp}(ht:Hok t)(v:Nat):vP t v=vB t v:=by
 unfold vP vB
 by_cases h0:0<vc t v
 ·obtain⟨x,hx,hfx,hxv⟩:=GY (P:=nJ t v) h0
  obtain⟨hy,hyv⟩:=VR (P:=nJ t v) h0
  have he:decide ((SF (sg t) (la (nJ t v) t.hs.length):Int)=(vc t v:Int))=decide ((SF (sg t) (fi (nJ t v) t.hs.length).toNat:Int)=(vc t v:Int)):=by
   rw[hfx,nO,decide_eq_decide]
   constructor
   ·intro h;have:=YL ht hy hx hyv hxv (by omega);omega
   ·intro h;have:=YL ht hx hy hxv hyv (by omega);omega
  rw[he]
  have h1:decide ((vc t v:Int)=0)=false:=aW (by omega)
  have h2:decide ((0:Int)<(vc t v:Int))=true:=aR (by omega)
  have h3:decide ((sc t v:Int)+(vc t v:Int)=0)=false:=aW (by omega)
  rw[h1,h2,h3]
  simp only[aK,OG]
  by_cases hs:0<sc t v
  ·have h4:decide ((0:Int)<(sc t v:Int))=true:=aR (by omega)
   rw[h4]
   by_cases hs1:sc t v=1
   ·have h5:decide ((sc t v:Int)=1)=true:=aR (by omega)
    rw[h5];simp
   ·have h5:decide ((1:Int)<(sc t v:Int))=true:=aR (by omega)
    rw[h5];rfl
  ·have h4:decide ((0:Int)<(sc t v:Int))=false:=aW (by omega)
   have h5:decide ((sc t v:Int)=1)=false:=aW (by omega)
   have h6:decide ((1:Int)<(sc t v:Int))=false:=aW (by omega)
   rw[h4,h5,h6];rfl
 ·have h1:decide ((vc t v:Int)=0)=true:=aR (by omega)
  have h2:decide ((0:Int)<(vc t v:Int))=false:=aW (by omega)
  rw[h1,h2]
  simp only[aN,OZ,aK]
  by_cases hs:sc t v=1
  ·have h5:decide ((sc t v:Int)=1)=true:=aR (by omega)
   have h6:decide ((1:Int)<(sc t v:Int))=false:=aW (by omega)
   have h3:decide ((sc t v:Int)+(vc t v:Int)=0)=false:=aW (by omega)
   rw[h5,h6,h3];rfl
  ·have h5:decide ((sc t v:Int)=1)=false:=aW (by omega)
   rw[h5]
   by_cases h6:1<sc t v
   ·have h7:decide ((1:Int)<(sc t v:Int))=true:=aR (by omega)
    rw[h7];rfl
   ·have h7:decide ((1:Int)<(sc t v:Int))=false:=aW (by omega)
    have h3:decide ((sc t v:Int)+(vc t v:Int)=0)=true:=aR (by omega)
    rw[h7,h3];rfl
theorem YM{t:Tp}(ht:Hok t)(hr:QR t=true):lZ (oF t)=some (Bw t,()):=by
 have hV0:=ht.V0
 have hV1:=ht.V1
 have hrb:∀r,r<t.rs.length→rB t r=true:=fun r h=>by
  unfold QR at hr;exact sQ.1 (iC.1 hr).1 r h
 have l0:=bX (F:=iF) t.rs.length (K0 t) (fun r h=>Yr ht hrb h)
 have o0:iF (K0 t t.rs.length)=some (.inr (.inl ((),aT t,tN (uS t fun _=>0),tN (uS t fun _=>0),t.V,t.F,t.hs.map tH,t.rs.map tR,()))):=by
  have hlt:decide ((t.rs.length:Int)<(t.rs.length:Int))=false:=aW (by omega)
  unfold iF K0;simp only[aP,hlt,aK]
 have l2:=bX (F:=iG) t.hs.length (K2 t) (fun k h=>Ys ht h)
 have o2:iG (K2 t t.hs.length)=some (.inr (.inl ((),aT t,dT t,fT t,t.V,t.F,t.hs.map tH,t.rs.map tR,()))):=by
  have hlt:decide ((t.hs.length:Int)<(t.hs.length:Int))=false:=aW (by omega)
  unfold iG K2;simp only[aP,hlt,aK]
 have l3:=yD (F:=jN) t.V.toNat (K3 t) (vP t) (.inl (false,())) (.inr (.inl ())) (fun k hk _=>Yu ht hk) (fun _=>by
  have hlt:decide ((t.V.toNat:Int)<t.V)=false:=aW (by omega)
  unfold jN K3;simp only[aP,hlt,aK])
 unfold lZ oF
 have e0:((),List.replicate t.V.toNat (tI 0),List.replicate t.V.toNat (tI 0),List.replicate t.V.toNat (tI 0),t.rs.map tR,(t.rs.length:Int),(0:Int),t.V,t.F,t.hs.map tH,t.rs.map tR,())=K0 t 0:=by
  unfold K0;rw[←Hv];rfl
 have e2:((),aT t,tN (uS t fun _=>0),tN (uS t fun _=>0),t.hs.map tH,(t.hs.length:Int),(0:Int),t.V,t.F,t.hs.map tH,t.rs.map tR,())=K2 t 0:=rfl
 have e3:((),aT t,dT t,fT t,t.V,(0:Int),t.V,t.F,t.hs.map tH,t.rs.map tR,())=K3 t 0:=rfl
 simp only[AJ (l:=t.V) (c:=t.V) (b:=8) (by omega) (by omega) (by omega) (by decide),bD,GP,bY,bL]
 rw[e0,l0,bK o0]
 simp only[bD,bC,bT]
 rw[e2,l2,bK o2]
 simp only[bD,bC]
 rw[e3,l3,Hi fun v _=>Ro ht v]
 unfold Bw
 cases(List.range t.V.toNat).all (vB t) <;> rfl
def Vs(t:Tp):Bool:=decide (t.hs.length≤256)&&(decide (t.hs.length%2=0)&&(decide (1≤t.V)&&(decide (t.V≤257)&&(decide (1≤t.F)&&(decide (t.F≤257)&&decide (t.rs.length≤257))))))
theorem GZ{t:Tp}:Vs t=true↔Sz t:=by
 unfold Vs
 simp only[cS,bE]
 exact⟨fun⟨a,b,c,d,e,f,g⟩=>⟨a,b,c,d,e,f,g⟩,fun⟨a,b,c,d,e,f,g⟩=>⟨a,b,c,d,e,f,g⟩⟩
noncomputable def Tt(t:Tp):Bool:=Vs t&&(dz t&&(QR t&&Bw t))
theorem QZ(t:Tp):eX (oF t)=some (Tt t,()):=by
 unfold eX Tt
 have e0:(t.V,t.F,t.hs.map tH,t.rs.map tR,())=oF t:=rfl
 by_cases hz:Sz t
 ·have h1:=hz.n
  have h2:=hz.e
  have h3:=hz.V0
  have h4:=hz.V1
  have h5:=hz.F0
  have h6:=hz.F1
  have h7:=hz.R
  have hm:((t.hs.length:Int)).tmod 2=0:=by
   have:((t.hs.length:Int)).tmod 2=((t.hs.length%2:Nat):Int):=rfl
   rw[this,h2];rfl
  have d1:decide ((256:Int)<(t.hs.length:Int))=false:=aW (by omega)
  have d3:decide (t.V<1)=false:=aW (by omega)
  have d4:decide ((257:Int)<t.V)=false:=aW (by omega)
  have d5:decide (t.F<1)=false:=aW (by omega)
  have d6:decide ((257:Int)<t.F)=false:=aW (by omega)
  have d7:decide ((257:Int)<(t.rs.length:Int))=false:=aW (by omega)
  have hs:=GZ.2 hz
  simp only[oF,bT,bL,aP,qG,aH,hm,cK,bH,d1,d3,d4,d5,d6,d7,aK]
  rw[e0,Hh hz,hs]
  simp only[bD,fM]
  cases hh:dz t with
  | false=>rfl
  | true=>
   have hk:=Bn hz hh
   simp only[aN,Lj hk,bD,fM]
   cases hr:QR t with
   | false=>rfl
   | true=>simp only[aN,YK hk,bD,fM]
 ·have hs:Vs t=false:=UH.2 fun h=>hz (GZ.1 h)
  rw[hs]
  simp only[oF,bT,bL,aP,qG,aH,EX]
  cases d1:decide ((256:Int)<(t.hs.length:Int)) with
  | true=>rfl
  | false=>cases d2:decide (((t.hs.length:Int)).tmod 2=0) with
   | false=>rfl
   | true=>cases d3:decide (t.V<1) with
    | true=>rfl
    | false=>cases d4:decide ((257:Int)<t.V) with
     | true=>rfl
     | false=>cases d5:decide (t.F<1) with
      | true=>rfl
      | false=>cases d6:decide ((257:Int)<t.F) with
       | true=>rfl
       | false=>cases d7:decide ((257:Int)<(t.rs.length:Int)) with
        | true=>rfl
        | false=>
         exfalso;apply hz
         have:=rS d1
         have h2:=bI d2
         have h2':((t.hs.length%2:Nat):Int)=0:=h2
         have:=rS d3
         have:=rS d4
         have:=rS d5
         have:=rS d6
         have:=rS d7
         exact⟨by omega,by omega,by omega,by omega,by omega,by omega,by omega⟩
theorem J3(t:Tp):cE (oF t)=some (Tt t,()):=by
 unfold cE Tt
 have e0:(t.V,t.F,t.hs.map tH,t.rs.map tR,())=oF t:=rfl
 by_cases hz:Sz t
 ·have h1:=hz.n
  have h2:=hz.e
  have h3:=hz.V0
  have h4:=hz.V1
  have h5:=hz.F0
  have h6:=hz.F1
  have h7:=hz.R
  have hm:((t.hs.length:Int)).tmod 2=0:=by
   have:((t.hs.length:Int)).tmod 2=((t.hs.length%2:Nat):Int):=rfl
   rw[this,h2];rfl
  have d1:decide ((256:Int)<(t.hs.length:Int))=false:=aW (by omega)
  have d2:decide ((0:Int)=1)=false:=rfl
  have d3:decide (t.V<1)=false:=aW (by omega)
  have d4:decide ((257:Int)<t.V)=false:=aW (by omega)
  have d5:decide (t.F<1)=false:=aW (by omega)
  have d6:decide ((257:Int)<t.F)=false:=aW (by omega)
  have d7:decide ((257:Int)<(t.rs.length:Int))=false:=aW (by omega)
  have hs:=GZ.2 hz
  simp only[oF,bT,bL,aP,qG,aH,hm,d1,d2,d3,d4,d5,d6,d7,aK]
  rw[e0,Hj hz,hs]
  simp only[bD,fM]
  cases hh:dz t with
  | false=>rfl
  | true=>
   have hk:=Bn hz hh
   simp only[aN,Lk hk,bD,fM]
   cases hr:QR t with
   | false=>rfl
   | true=>simp only[aN,YM hk hr,bD,fM]
 ·have hs:Vs t=false:=UH.2 fun h=>hz (GZ.1 h)
  rw[hs]
  simp only[oF,bT,bL,aP,qG,aH,EX]
  cases d1:decide ((256:Int)<(t.hs.length:Int)) with
  | true=>rfl
  | false=>cases d2:decide (((t.hs.length:Int)).tmod 2=1) with
   | true=>rfl
   | false=>cases d3:decide (t.V<1) with
    | true=>rfl
    | false=>cases d4:decide ((257:Int)<t.V) with
     | true=>rfl
     | false=>cases d5:decide (t.F<1) with
      | true=>rfl
      | false=>cases d6:decide ((257:Int)<t.F) with
       | true=>rfl
       | false=>cases d7:decide ((257:Int)<(t.rs.length:Int)) with
        | true=>rfl
        | false=>
         exfalso;apply hz
         have:=rS d1
         have h2:=rS d2
         have h2':¬((t.hs.length%2:Nat):Int)=1:=h2
         have:=rS d3
         have:=rS d4
         have:=rS d5
         have:=rS d6
         have:=rS d7
         exact⟨by omega,by omega,by omega,by omega,by omega,by omega,by omega⟩
def bu(f:Nat→Nat)(n:Nat)(P:Nat→Bool):Prop:=∃x m,bz f x m∧∀y,y∈x::m↔y<n∧P y=true
theorem bu.aw{f:Nat→Nat}{n:Nat}{P:Nat→Bool}{x:Nat}{m:List Nat}(hc:bz f x m)(h:∀y,y∈x::m↔y<n∧P y=true):aw P n=m.length+1:=by
 rw[M3 hc.2 h];rfl
theorem bu.at{f:Nat→Nat}{n:Nat}{P:Nat→Bool}(h:bu f n P){a:Nat}(ha:a<n)(hp:P a=true):∃m,bz f a m∧∀y,y∈a::m↔y<n∧P y=true:=by
 obtain⟨x,m,hc,hm⟩:=h
 rcases cJ.1 ((hm a).2 ⟨ha,hp⟩) with e | h2
 ·subst e;exact⟨m,hc,hm⟩
 ·obtain⟨l,hl,hlm,_⟩:=hc.ox h2
  exact⟨l,hl,fun y=>(hlm y).trans (hm y)⟩
theorem VT{f:Nat→Nat}{n:Nat}{P:Nat→Bool}(hcl:∀y,y<n→P y=true→f y<n∧P (f y)=true){a:Nat}(ha:a<n)(hp:P a=true){m:List Nat}(hm:bz f a m):SF f a=Tl.aw P n↔bu f n P:=by
 constructor
 ·intro h
  rw[zE hm] at h
  have hP:∀y∈a::m,y<n∧P y=true:=QM (P:=fun y=>y<n∧P y=true) (fun y hy=>hcl y hy.1 hy.2) hm.1 ⟨ha,hp⟩
  exact⟨a,m,hm,fun y=>⟨hP y,fun hy=>TO hm.2 hP (by simp only[oA];omega) hy.1 hy.2⟩⟩
 ·intro h
  obtain⟨l,hl,hlm⟩:=h.at ha hp
  rw[zE hl,bu.aw hl hlm]
theorem bu.ins{f g:Nat→Nat}{n n':Nat}{P P':Nat→Bool}(h:bu f n P){x a:Nat}(hx:x<n)(hp:P x=true)(ha:n≤a)(gx:g x=a)(ga:g a=f x)(ge:∀y,y<n→P y=true→y≠x→g y=f y)(hP:∀y,(y<n'∧P' y=true)↔(y<n∧P y=true)∨y=a):bu g n' P':=by
 obtain⟨m,hm,cj⟩:=h.at hx hp
 obtain⟨m',h1,h2,_,h4⟩:=Ld (f:=f) (g:=g) gx ga (fun y hy hne=>ge y ((cj y).1 hy).1 ((cj y).1 hy).2 hne) hm.1 hm.2 (by simp) (fun h=>by have:=((cj a).1 h).1;omega)
 exact⟨x,m',⟨h1 |> fun h=>by
  exact h,h2⟩,fun y=>(h4 y).trans (by rw[hP y,cj y])⟩
theorem bu.ext{f g:Nat→Nat}{n n':Nat}{P P':Nat→Bool}(h:bu f n P)(ge:∀y,y<n→P y=true→g y=f y)(hP:∀y,(y<n'∧P' y=true)↔(y<n∧P y=true)):bu g n' P':=by
 obtain⟨x,m,hm,cj⟩:=h
 exact⟨x,m,hm.ext fun y hy=>(ge y ((cj y).1 hy).1 ((cj y).1 hy).2).symm,fun y=>(cj y).trans (hP y).symm⟩
theorem bu.one{g:Nat→Nat}{n':Nat}{P':Nat→Bool}{a:Nat}(ga:g a=a)(hP:∀y,(y<n'∧P' y=true)↔y=a):bu g n' P':=
 ⟨a,[],⟨ga,by simp⟩,fun y=>by rw[hP y];simp⟩
structure CKP (t:Tp):Prop extends Hok t where
 rc:∀r,r<t.rs.length→0≤(rG t.rs r).c∧(rG t.rs r).c<t.F
 rr:∀r:Nat,r<t.rs.length→((rG t.rs r).h=-1∧0≤(rG t.rs r).v∧(rG t.rs r).v<t.V∧∀k,k<t.hs.length→fC t r k=false)∨(0≤(rG t.rs r).h∧(rG t.rs r).h<t.hs.length∧(hG t.hs (rG t.rs r).h).r=r∧(rG t.rs r).v=-1∧bu (nx t) t.hs.length (fC t r))
 fc:∀f:Nat,f<t.F.toNat→∃j,j<t.rs.length∧(rG t.rs j).c.toNat=f
 vv:∀v:Nat,v<t.V.toNat→(aw (B6 t v) t.rs.length=1∧∀k,k<t.hs.length→nJ t v k=false)∨((∀r,r<t.rs.length→B6 t v r=false)∧bu (sg t) t.hs.length (nJ t v))
theorem sE{P:Nat→Bool}{n:Nat}:aw P n=0↔∀k,k<n→P k=false:=by
 constructor
 ·intro h k hk
  cases hp:P k with
  | false=>rfl
  | true=>have:=rK.2 ⟨k,hk,hp⟩;omega
 ·intro h
  by_cases h2:0<aw P n
  ·obtain⟨k,hk,hp⟩:=rK.1 h2
   rw[h k hk] at hp;cases hp
  ·omega
theorem Hok.oy{t:Tp}(ht:Hok t)(r:Int):∀y,y<t.hs.length→fC t r y=true→nx t y<t.hs.length∧fC t r (nx t y)=true:=fun y hy hp=>
 ⟨ht.bf hy,by unfold fC at *;rw[ht.rg hy];exact hp⟩
theorem Hok.qe{t:Tp}(ht:Hok t)(v:Int):∀y,y<t.hs.length→nJ t v y=true→sg t y<t.hs.length∧nJ t v (sg t y)=true:=fun y hy hp=>
 ⟨ht.jx hy,by unfold nJ at *;rw[ht.mw hy];exact hp⟩
theorem Bx{t:Tp}(ht:Hok t)(r:Nat):rB t r=true↔(0≤(rG t.rs r).c∧(rG t.rs r).c<t.F)∧(((rG t.rs r).h=-1∧0≤(rG t.rs r).v∧(rG t.rs r).v<t.V∧∀k,k<t.hs.length→fC t r k=false)∨(0≤(rG t.rs r).h∧(rG t.rs r).h<t.hs.length∧(hG t.hs (rG t.rs r).h).r=r∧(rG t.rs r).v=-1∧bu (nx t) t.hs.length (fC t r))):=by
 unfold rB
 rw[cS,bZ]
 refine K8 fun _=>?_
 by_cases h:(rG t.rs r).h=-1
 ·rw[aR h,aN,cS,bZ]
  constructor
  ·rintro ⟨h1,h2⟩
   refine .inl ⟨h,h1.1,h1.2,sE.1 ?_⟩
   have:=rS (OY _▸h2)
   omega
  ·rintro (⟨_,h1,h2,h3⟩ | ⟨h1,_⟩)
   ·refine⟨⟨h1,h2⟩,?_⟩
    rw[sE.2 h3];rfl
   ·omega
 ·rw[aW h,aK,cS,cS,cS,bZ,bE,bE,bE]
  constructor
  ·rintro ⟨⟨h1,h2⟩,h3,h4,h5⟩
   obtain⟨x,hx⟩:∃x:Nat,(rG t.rs r).h=(x:Int):=⟨(rG t.rs r).h.toNat,by omega⟩
   rw[hx] at h2 h3 h5 ⊢
   rw[nO] at h5
   obtain⟨m,hm,_⟩:=ht.ku (k:=x) (by omega)
   exact .inr ⟨by omega,h2,h3,h4,(VT (ht.oy r) (by omega) (aR h3) hm).1 (by omega)⟩
  ·rintro (⟨h1,_⟩ | ⟨h1,h2,h3,h4,h5⟩)
   ·exact absurd h1 h
   ·obtain⟨x,hx⟩:∃x:Nat,(rG t.rs r).h=(x:Int):=⟨(rG t.rs r).h.toNat,by omega⟩
    rw[hx] at h2 h3 ⊢
    rw[nO]
    obtain⟨m,hm,_⟩:=ht.ku (k:=x) (by omega)
    have:=(VT (ht.oy r) (by omega) (aR h3) hm).2 h5
    exact⟨⟨by omega,h2⟩,h3,h4,by omega⟩
theorem Lv{t:Tp}(ht:Hok t)(v:Nat):vB t v=true↔(aw (B6 t v) t.rs.length=1∧∀k,k<t.hs.length→nJ t v k=false)∨((∀r,r<t.rs.length→B6 t v r=false)∧bu (sg t) t.hs.length (nJ t v)):=by
 rw[←Ro ht v]
 unfold vP
 by_cases h0:vc t v=0
 ·have h1:decide ((vc t v:Int)=0)=true:=aR (by omega)
  rw[h1,aN,bE]
  constructor
  ·intro h;exact .inl ⟨by have:(sc t v:Int)=(aw (B6 t v) t.rs.length:Int):=rfl;omega,sE.1 h0⟩
  ·rintro (⟨h,_⟩ | ⟨_,x,m,_,hm⟩)
   ·have:(sc t v:Int)=(aw (B6 t v) t.rs.length:Int):=rfl
    omega
   ·have h2:=(hm x).1 (by simp)
    rw[sE.1 h0 x h2.1] at h2;cases h2.2
 ·have h1:decide ((vc t v:Int)=0)=false:=aW (by omega)
  rw[h1,aK]
  obtain⟨hl,hlv⟩:=VR (P:=nJ t v) (n:=t.hs.length) (by have:vc t v=aw (nJ t v) t.hs.length:=rfl;omega)
  obtain⟨m,hm,_⟩:=ht.kx hl
  have ho:=VT (ht.qe v) hl hlv hm
  by_cases h2:0<sc t v
  ·have h3:decide ((0:Int)<(sc t v:Int))=true:=aR (by omega)
   rw[h3,aN]
   constructor
   ·intro h;cases h
   ·rintro (⟨_,h⟩ | ⟨h,_⟩)
    ·exact absurd (sE.2 h) h0
    ·have h4:sc t v=0:=sE.2 h
     omega
  ·have h3:decide ((0:Int)<(sc t v:Int))=false:=aW (by omega)
   rw[h3,aK,bE]
   constructor
   ·intro h
    exact .inr ⟨sE.1 (by have:sc t v=aw (B6 t v) t.rs.length:=rfl;omega),ho.1 (by have:vc t v=aw (nJ t v) t.hs.length:=rfl;omega)⟩
   ·rintro (⟨_,h⟩ | ⟨_,h⟩)
    ·exact absurd (sE.2 h) h0
    ·have:=ho.2 h
     have:vc t v=aw (nJ t v) t.hs.length:=rfl
     omega
theorem G1{t:Tp}:Tt t=true↔CKP t:=by
 unfold Tt
 rw[cS,cS,cS]
 constructor
 ·rintro ⟨hz,hh,hr,hv⟩
  have ht:=Bn (GZ.1 hz) hh
  unfold QR at hr
  rw[cS] at hr
  unfold Bw at hv
  have h1:=sQ.1 hr.1
  have h2:=sQ.1 hr.2
  have h3:=sQ.1 hv
  exact { ht with rc:=fun r h=>((Bx ht r).1 (h1 r h)).1,rr:=fun r h=>((Bx ht r).1 (h1 r h)).2,fc:=fun f h=>bI (h2 f h),vv:=fun v h=>(Lv ht v).1 (h3 v h) }
 ·intro h
  refine⟨GZ.2 h.toSz,h.dz,?_,?_⟩
  ·unfold QR
   rw[cS]
   exact⟨sQ.2 fun r hr=>(Bx h.toHok r).2 ⟨h.rc r hr,h.rr r hr⟩,sQ.2 fun f hf=>aR (h.fc f hf)⟩
  ·unfold Bw
   exact sQ.2 fun v hv=>(Lv h.toHok v).2 (h.vv v hv)
theorem wX{f g:Nat→Nat}:∀{m:List Nat} {a b z:Nat},Path f b m z→(∀y∈m,g y=f y)→g a=f b→Path g a m z
 | [],a,b,z,h,_,e=>by have h1:f b=z:=h;show g a=z;rw[e,h1]
 | y::m,a,b,z,h,he,e=>⟨by rw[e];exact h.1,h.2.ext fun w hw=>(he w hw).symm⟩
theorem bz.split{f g:Nat→Nat}{a b:Nat}{A B:List Nat}(h:bz f a (A++b::B))(ga:g a=f b)(gb:g b=f a)(ge:∀y∈A++B,g y=f y):bz g a B∧bz g b A:=by
 obtain⟨hp,hn⟩:=h
 obtain⟨h1,h2⟩:=hJ.1 hp
 have hn':(a::A++b::B).Nodup:=hn
 obtain⟨n1,n2,n3⟩:=pU.1 hn'
 refine⟨⟨wX h2 (fun y hy=>ge y (fL.2 (.inr hy))) ga,?_⟩,⟨wX h1 (fun y hy=>ge y (fL.2 (.inl hy))) gb,?_⟩⟩
 ·refine dC.2 ⟨fun hm=>n3 a (by simp) a (dY _ hm) rfl,(dC.1 n2).2⟩
 ·refine dC.2 ⟨fun hm=>n3 b (dY _ hm) b (by simp) rfl,(dC.1 n1).2⟩
theorem bz.merge{f g:Nat→Nat}{a b:Nat}{A B:List Nat}(h:bz f a A)(h':bz f b B)(hd:∀y∈a::A,y∉b::B)(ga:g a=f b)(gb:g b=f a)(ge:∀y∈A++B,g y=f y):bz g a (B++b::A):=by
 refine⟨hJ.2 ⟨wX h'.1 (fun y hy=>ge y (fL.2 (.inr hy))) ga,wX h.1 (fun y hy=>ge y (fL.2 (.inl hy))) gb⟩,?_⟩
 have h1:=dC.1 h.2
 have h2:=dC.1 h'.2
 refine dC.2 ⟨fun hm=>?_,pU.2 ⟨h2.2,dC.2 ⟨fun hm=>hd b (dY _ hm) (by simp),h1.2⟩,fun x hx y hy e=>?_⟩⟩
 ·rcases fL.1 hm with hm | hm
  ·exact hd a (by simp) (dY _ hm)
  ·rcases cJ.1 hm with e | hm
   ·exact hd a (by simp) (by rw[e];simp)
   ·exact h1.1 hm
 ·subst e
  rcases cJ.1 hy with e | hy
  ·subst e;exact h2.1 hx
  ·exact hd x (dY _ hy) (dY _ hx)
theorem bz.del{f g:Nat→Nat}{p x:Nat}{m:List Nat}(h:bz f p (x::m))(gp:g p=f x)(ge:∀y∈m,g y=f y):bz g p m:=by
 obtain⟨hp,hn⟩:=h
 have h1:=dC.1 hn
 exact⟨wX hp.2 ge gp,dC.2 ⟨fun hm=>h1.1 (dY _ hm),(dC.1 h1.2).2⟩⟩
def dD(n:Nat)(P:Nat→Bool)(y:Nat):Prop:=y<n∧P y=true
theorem bu.from{f:Nat→Nat}{n:Nat}{P:Nat→Bool}(h:bu f n P){p x:Nat}(hp:dD n P p)(hpx:f p=x)(hne:p≠x):∃m,bz f p (x::m)∧∀y,y∈p::x::m↔dD n P y:=by
 obtain⟨m,hm,cj⟩:=h.at hp.1 hp.2
 cases m with
 | nil=>
  have:f p=p:=hm.1
  exact absurd (this.symm.trans hpx) hne
 | cons y m=>
  have:f p=y:=hm.1.1
  have e:y=x:=this.symm.trans hpx
  subst e
  exact⟨m,hm,cj⟩
theorem bu.del{f g:Nat→Nat}{n n':Nat}{P P':Nat→Bool}(h:bu f n P){p x:Nat}(hp:dD n P p)(hpx:f p=x)(hne:p≠x)(gp:g p=f x)(ge:∀y,dD n P y→y≠p→y≠x→g y=f y)(hP:∀y,dD n' P' y↔dD n P y∧y≠x):bu g n' P':=by
 obtain⟨m,hm,cj⟩:=h.from hp hpx hne
 have hn:=hm.2
 have h1:=dC.1 hn
 have h2:=dC.1 h1.2
 refine⟨p,m,hm.del gp fun y hy=>ge y ((cj y).1 (by simp[hy])) (fun e=>h1.1 (by simp[←e,hy])) fun e=>h2.1 (e▸hy),fun y=>(?_:_↔dD n' P' y)⟩
 rw[hP y,←cj y]
 simp only[cJ]
 constructor
 ·rintro (rfl | hy)
  ·exact⟨.inl rfl,hne⟩
  ·exact⟨.inr (.inr hy),fun e=>h2.1 (e▸hy)⟩
 ·rintro ⟨rfl | rfl | hy,hne'⟩
  ·exact .inl rfl
  ·exact absurd rfl hne'
  ·exact .inr hy
theorem bu.split{f g:Nat→Nat}{n:Nat}{P:Nat→Bool}(h:bu f n P){a b:Nat}(ha:dD n P a)(hb:dD n P b)(hne:a≠b)(ga:g a=f b)(gb:g b=f a)(ge:∀y,dD n P y→y≠a→y≠b→g y=f y):
 ∃A B:List Nat,bz g a B∧bz g b A∧(∀y,dD n P y↔y∈a::B∨y∈b::A)∧∀y,y∈a::B→y∉b::A:=by
 obtain⟨m,hm,cj⟩:=h.at ha.1 ha.2
 have hbm:b∈m:=by
  rcases cJ.1 ((cj b).2 hb) with e | h
  ·exact absurd e.symm hne
  ·exact h
 obtain⟨A,B,rfl⟩:=HG hbm
 have hn':(a::A++b::B).Nodup:=hm.2
 obtain⟨n1,n2,n3⟩:=pU.1 hn'
 have hge:∀y∈A++B,g y=f y:=fun y hy=>by
  have hy':y∈a::(A++b::B):=by
   rcases fL.1 hy with hy | hy <;> simp[hy]
  refine ge y ((cj y).1 hy') (fun e=>?_) fun e=>?_
  ·subst e
   rcases fL.1 hy with hy | hy
   ·exact(dC.1 n1).1 hy
   ·exact n3 y (by simp) y (by simp[hy]) rfl
  ·subst e
   rcases fL.1 hy with hy | hy
   ·exact n3 y (by simp[hy]) y (by simp) rfl
   ·exact(dC.1 n2).1 hy
 obtain⟨c1,c2⟩:=hm.split ga gb hge
 refine⟨A,B,c1,c2,fun y=>?_,fun y hy hy'=>?_⟩
 ·rw[show dD n P y↔_ from(cj y).symm]
  simp only[cJ,fL]
  constructor
  ·rintro (h | h | h | h) <;> simp[h]
  ·rintro ((h | h) | (h | h)) <;> simp[h]
 ·have q1:y=a∨y∈B:=cJ.1 hy
  have q2:y=b∨y∈A:=cJ.1 hy'
  rcases q1 with rfl | q1 <;> rcases q2 with q2 | q2
  ·exact hne q2
  ·exact(dC.1 n1).1 q2
  ·subst q2;exact(dC.1 n2).1 q1
  ·exact n3 y (by simp[q2]) y (by simp[q1]) rfl
theorem bu.merge{f g:Nat→Nat}{n n':Nat}{P Q R:Nat→Bool}(h:bu f n P)(h':bu f n Q)(hd:∀y,dD n P y→¬dD n Q y){a b:Nat}(ha:dD n P a)(hb:dD n Q b)(ga:g a=f b)(gb:g b=f a)(ge:∀y,dD n P y∨dD n Q y→y≠a→y≠b→g y=f y)(hR:∀y,dD n' R y↔dD n P y∨dD n Q y):bu g n' R:=by
 obtain⟨A,hA,hAm⟩:=h.at ha.1 ha.2
 obtain⟨B,hB,hBm⟩:=h'.at hb.1 hb.2
 have hd':∀y∈a::A,y∉b::B:=fun y hy hy'=>hd y ((hAm y).1 hy) ((hBm y).1 hy')
 have hm:=hA.merge hB hd' ga gb fun y hy=>by
  rcases fL.1 hy with hy | hy
  ·refine ge y (.inl ((hAm y).1 (by simp[hy]))) (fun e=>?_) fun e=>?_
   ·exact(dC.1 hA.2).1 (e▸hy)
   ·exact hd' y (by simp[hy]) (by simp[e])
  ·refine ge y (.inr ((hBm y).1 (by simp[hy]))) (fun e=>?_) fun e=>?_
   ·exact hd' y (by simp[e]) (by simp[hy])
   ·exact(dC.1 hB.2).1 (e▸hy)
 refine⟨a,B++b::A,hm,fun y=>(?_:_↔dD n' R y)⟩
 rw[hR y,show dD n P y↔_ from(hAm y).symm,show dD n Q y↔_ from(hBm y).symm]
 simp only[cJ,fL]
 constructor
 ·rintro (h | h | h | h) <;> simp[h]
 ·rintro ((h | h) | (h | h)) <;> simp[h]
end Go.Eng.Tl
set_option linter.unusedSectionVars false
namespace Go.Eng.Tl
open Go.Eng
section
variable {N:Nat} {r r':Nat→Nat→Bool}
theorem zS{i:Nat}(hi:i<N):gT N r i=i↔∀j,ar N r i j→i≤j:=by
 obtain⟨h1,h2⟩:=jR (r:=r) hi
 constructor
 ·intro e j hj;have:=h2 j hj;omega
 ·intro h;have:=h _ h1;have:=G7 (r:=r) hi;omega
theorem Hq{k l:Nat}(h:k≤l):mJ N r k≤mJ N r l:=by
 induction l with
 | zero=>rw[Nat.le_zero.1 h];exact gB _
 | succ l ih=>
  by_cases e:k=l+1
  ·rw[e];exact gB _
  ·have:=ih (by omega)
   simp only[mJ];omega
theorem Bt(h:∀k,k<N→(gT N r k=k↔gT N r' k=k)){l:Nat}(hl:l≤N):mJ N r l=mJ N r' l:=by
 induction l with
 | zero=>rfl
 | succ l ih=>
  simp only[mJ]
  rw[ih (by omega)]
  have:=h l (by omega)
  by_cases e:gT N r l=l
  ·rw[aC e,aC (this.1 e)]
  ·rw[aA e,aA (fun x=>e (this.2 x))]
theorem Hr{x:Nat}(hx:gT N r x=x)(h:∀k,k<N→(gT N r' k=k↔gT N r k=k∧k≠x)){l:Nat}(hl:l≤N):mJ N r' l+(if x<l then 1 else 0)=mJ N r l:=by
 induction l with
 | zero=>rfl
 | succ l ih=>
  simp only[mJ]
  have ih:=ih (by omega)
  have:=h l (by omega)
  by_cases e:gT N r l=l
  ·rw[aC e]
   by_cases e2:l=x
   ·rw[aA (fun z=>(this.1 z).2 e2),aC (by omega)]
    rw[aA (by omega)] at ih;omega
   ·rw[aC (this.2 ⟨e,e2⟩)]
    by_cases e3:x<l
    ·rw[aC (by omega)];rw[aC e3] at ih;omega
    ·rw[aA (by omega)];rw[aA e3] at ih;omega
  ·have e2:l≠x:=fun e2=>e (by rw[e2];exact hx)
   rw[aA e,aA (fun z=>e (this.1 z).1)]
   by_cases e3:x<l
   ·rw[aC (by omega)];rw[aC e3] at ih;omega
   ·rw[aA (by omega)];rw[aA e3] at ih;omega
noncomputable def EO(N:Nat)(r:Nat→Nat→Bool):Nat:=mJ N r N
theorem TR(h:∀i j,ar N r i j↔ar N r' i j):EO N r=EO N r':=
 Bt (fun k hk=>by rw[zS hk,zS hk];exact⟨fun h1 j hj=>h1 j ((h k j).2 hj),fun h1 j hj=>h1 j ((h k j).1 hj)⟩) (gB _)
theorem ar.mono(h:∀i j,i<N→j<N→r i j=true→ar N r' i j){i j:Nat}(hc:ar N r i j):ar N r' i j:=by
 induction hc with
 | refl h1=>exact .refl h1
 | step h1 hr hk ih=>exact ih.trans (h _ _ h1.lt.2 hk hr)
theorem ar.one{i j:Nat}(hi:i<N)(hj:j<N)(h:r i j=true):ar N r i j:=.step (.refl hi) h hj
theorem YJ(hs:∀i j,r i j=r j i){a b:Nat}(ha:a<N)(hb:b<N)(hn:¬ar N r a b)(h:∀i j,ar N r' i j↔ar N r i j∨(ar N r i a∧ar N r b j)∨(ar N r i b∧ar N r a j)):EO N r'+1=EO N r:=by
 have key:∀{a b:Nat},a<N→b<N→¬ar N r a b→(∀i j,ar N r' i j↔ar N r i j∨(ar N r i a∧ar N r b j)∨(ar N r i b∧ar N r a j))→gT N r a<gT N r b→EO N r'+1=EO N r:=fun {a b} ha hb hn h hlt=>by
  obtain⟨a1,a2⟩:=jR (r:=r) ha
  obtain⟨b1,b2⟩:=jR (r:=r) hb
  have hx:=xD hs hb
  have hd:=Hr (r':=r') hx (fun k hk=>by
   rw[zS hk]
   constructor
   ·intro h1
    refine⟨(zS hk).2 fun j hj=>h1 j ((h k j).2 (.inl hj)),fun e=>?_⟩
    have h2:=h1 (gT N r a) ((h k _).2 (.inr (.inr ⟨by rw[e];exact b1.symm hs,a1⟩)))
    omega
   ·rintro ⟨h1,h2⟩ j hj
    rcases(h k j).1 hj with q | ⟨q1,q2⟩ | ⟨q1,q2⟩
    ·exact(zS hk).1 h1 j q
    ·have h3:gT N r k=gT N r a:=BH hs q1
     have:=b2 j q2
     omega
    ·have h3:gT N r k=gT N r b:=BH hs q1
     omega) (gB N)
  rw[aC b1.lt.2] at hd
  exact hd
 have hne:gT N r a≠gT N r b:=fun e=>hn (((jR ha).1.trans (by rw[e];exact(jR hb).1.symm hs)))
 rcases OM (gT N r a) (gT N r b) with h1 | h1
 ·exact key ha hb hn h h1
 ·exact key hb ha (fun x=>hn (x.symm hs)) (fun i j=>by rw[h i j];exact or_congr_right or_comm) (by omega)
theorem Hs(hs:∀i j,r i j=r j i){a b:Nat}(ha:a<N)(hb:b<N)(hr:∀i j,r' i j=true↔r i j=true∨(i=a∧j=b)∨(i=b∧j=a))(i j:Nat):ar N r' i j↔ar N r i j∨(ar N r i a∧ar N r b j)∨(ar N r i b∧ar N r a j):=by
 have up:∀i j,ar N r i j→ar N r' i j:=fun i j=>ar.mono fun i j hi hj h=>.one hi hj ((hr i j).2 (.inl h))
 have ab:ar N r' a b:=.one ha hb ((hr a b).2 (.inr (.inl ⟨rfl,rfl⟩)))
 have ba:ar N r' b a:=.one hb ha ((hr b a).2 (.inr (.inr ⟨rfl,rfl⟩)))
 constructor
 ·intro h
  induction h with
  | refl h1=>exact .inl (.refl h1)
  | @step j k h1 hr1 hk ih=>
   rcases(hr j k).1 hr1 with q | ⟨q1,q2⟩ | ⟨q1,q2⟩
   ·rcases ih with ih | ⟨i1,i2⟩ | ⟨i1,i2⟩
    ·exact .inl (.step ih q hk)
    ·exact .inr (.inl ⟨i1,.step i2 q hk⟩)
    ·exact .inr (.inr ⟨i1,.step i2 q hk⟩)
   ·subst q1;subst q2
    rcases ih with ih | ⟨i1,i2⟩ | ⟨i1,i2⟩
    ·exact .inr (.inl ⟨ih,.refl hk⟩)
    ·exact .inl (i1.trans (i2.symm hs))
    ·exact .inl i1
   ·subst q1;subst q2
    rcases ih with ih | ⟨i1,i2⟩ | ⟨i1,i2⟩
    ·exact .inr (.inr ⟨ih,.refl hk⟩)
    ·exact .inl i1
    ·exact .inl (i1.trans (i2.symm hs))
 ·rintro (h | ⟨h1,h2⟩ | ⟨h1,h2⟩)
  ·exact up _ _ h
  ·exact((up _ _ h1).trans ab).trans (up _ _ h2)
  ·exact((up _ _ h1).trans ba).trans (up _ _ h2)
theorem Lo(hs:∀i j,r i j=r j i){a b:Nat}(ha:a<N)(hb:b<N)(hr:∀i j,r' i j=true↔r i j=true∨(i=a∧j=b)∨(i=b∧j=a)):(ar N r a b→EO N r'=EO N r)∧(¬ar N r a b→EO N r'+1=EO N r):=by
 have h:=Hs hs ha hb hr
 refine⟨fun hc=>(TR fun i j=>?_).symm,fun hn=>YJ hs ha hb hn h⟩
 rw[h i j]
 constructor
 ·exact .inl
 ·rintro (q | ⟨q1,q2⟩ | ⟨q1,q2⟩)
  ·exact q
  ·exact(q1.trans hc).trans q2
  ·exact(q1.trans (hc.symm hs)).trans q2
theorem Lp(h:∀i j,r i j=false):EO N r=N:=by
 have key:∀l,l≤N→mJ N r l=l:=fun l=>by
  induction l with
  | zero=>intro _;rfl
  | succ l ih=>
   intro hl
   simp only[mJ]
   rw[ih (by omega),aC]
   refine(zS (by omega)).2 fun j hj=>?_
   cases hj with
   | refl _=>exact gB _
   | step _ hr _=>rw[h] at hr;cases hr
 exact key N (gB _)
end
def rf(f:Nat→Nat)(i j:Nat):Bool:=decide (f i=j)||decide (f j=i)
theorem tD{f:Nat→Nat}{i j:Nat}:rf f i j=true↔f i=j∨f j=i:=by
 unfold rf;rw[oB,bE,bE]
theorem xP(f:Nat→Nat)(i j:Nat):rf f i j=rf f j i:=by unfold rf;rw[Bool.or_comm]
theorem GW{f:Nat→Nat}{n:Nat}:∀{m:List Nat} {x z:Nat},Path f x m z→(∀y∈x::m,y<n)→z<n→ar n (rf f) x z
 | [],x,z,h,hb,hz=>.one (hb x (by simp)) hz (tD.2 (.inl h))
 | y::m,x,z,h,hb,hz=>(ar.one (hb x (by simp)) (hb y (by simp)) (tD.2 (.inl h.1))).trans (GW h.2 (fun w hw=>hb w (dY _ hw)) hz)
section
variable {f:Nat→Nat} {n:Nat} (hf:∀x,x<n→f x<n) (hi:∀x y,x<n→y<n→f x=f y→x=y)
include hf hi
theorem Lq{x:Nat}{m:List Nat}(hc:bz f x m)(hb:∀y∈x::m,y<n){j:Nat}(h:ar n (rf f) x j):j∈x::m:=by
 have ho:bu f n (fun y=>decide (y∈x::m)):=⟨x,m,hc,fun y=>by rw[bE];exact⟨fun h=>⟨hb y h,h⟩,fun h=>h.2⟩⟩
 induction h with
 | refl _=>simp
 | @step j k h1 hr hk ih=>
  rcases tD.1 hr with e | e
  ·rw[←e];exact hc.step ih
  ·-- what leads to j is in the cycle
   have hp:∃p,p∈x::m∧f p=j:=by
    by_cases e2:j=x
    ·obtain⟨A,z,e3⟩:∃A z,x::m=A++[z]:=⟨(x::m).dropLast,(x::m).getLast (by simp),(List.dropLast_concat_getLast (by simp)).symm⟩
     refine⟨z,by rw[e3];simp,?_⟩
     cases A with
     | nil=>
      have e4:x=z∧m=[]:=by simpa using e3
      rw[e4.2] at hc
      rw[←e4.1,e2];exact hc.1
     | cons w A'=>
      have e4:x=w∧m=A'++[z]:=by simpa using e3
      have h2:=hc.1
      rw[e4.2] at h2
      rw[e2];exact(hJ.1 h2).2
    ·have hj:j∈m:=by
      rcases cJ.1 ih with e3 | e3
      ·exact absurd e3 e2
      ·exact e3
     obtain⟨A,B,e3⟩:=HG hj
     have h2:=hc.1
     rw[e3] at h2
     have h3:=(hJ.1 h2).1
     obtain⟨C,z,e4⟩:∃C z,x::A=C++[z]:=⟨(x::A).dropLast,(x::A).getLast (by simp),(List.dropLast_concat_getLast (by simp)).symm⟩
     have hz:z∈x::A:=by rw[e4];simp
     refine⟨z,by
      rcases cJ.1 hz with e5 | e5
      ·rw[e5];simp
      ·exact dY _ (by rw[e3];exact yU _ e5),?_⟩
     cases C with
     | nil=>
      have e5:x=z∧A=[]:=by simpa using e4
      rw[e5.2] at h3
      rw[←e5.1];exact h3
     | cons w C'=>
      have e5:x=w∧A=C'++[z]:=by simpa using e4
      rw[e5.2] at h3
      exact(hJ.1 h3).2
   obtain⟨p,hp1,hp2⟩:=hp
   have:p=k:=hi p k (hb p hp1) hk (hp2.trans e.symm)
   rw[←this];exact hp1
theorem Bu{x:Nat}(hx:x<n):ar n (rf f) x (f x):=.one hx (hf x hx) (tD.2 (.inl rfl))
end
def CF(a b k:Nat):Nat:=if k=a then b else if k=b then a else k
theorem QT(a b:Nat):CF a b a=b:=aC rfl
theorem M4(a b:Nat):CF a b b=a:=by
 unfold CF
 by_cases e:b=a
 ·rw[aC e,e]
 ·rw[aA e,aC rfl]
theorem FI{a b k:Nat}(h1:k≠a)(h2:k≠b):CF a b k=k:=by unfold CF;rw[aA h1,aA h2]
theorem VQ(a b k:Nat):CF a b (CF a b k)=k:=by
 by_cases e1:k=a
 ·rw[e1,QT,M4]
 ·by_cases e2:k=b
  ·rw[e2,M4,QT]
  ·rw[FI e1 e2,FI e1 e2]
theorem Bv{a b n k:Nat}(ha:a<n)(hb:b<n)(hk:k<n):CF a b k<n:=by
 unfold CF;split
 ·exact hb
 ·split <;> assumption
section
variable {f:Nat→Nat} {n a b:Nat} (hf:∀x,x<n→f x<n) (hi:∀x y,x<n→y<n→f x=f y→x=y) (ha:a<n) (hb:b<n)
include hf hi ha hb
theorem Ed:(∀x,x<n→f (CF a b x)<n)∧∀x y,x<n→y<n→f (CF a b x)=f (CF a b y)→x=y:=
 ⟨fun x hx=>hf _ (Bv ha hb hx),fun x y hx hy e=>by rw[←VQ a b x,hi _ _ (Bv ha hb hx) (Bv ha hb hy) e,VQ]⟩
theorem DF(hn:¬ar n (rf f) a b):EO n (rf fun k=>f (CF a b k))+1=EO n (rf f):=by
 obtain⟨hg,hgi⟩:=Ed hf hi ha hb
 obtain⟨m,hc,hm⟩:=VN hf hi ha
 have hab:a≠b:=fun e=>hn (e▸.refl ha)
 have conM:∀y∈a::m,ar n (rf f) a y:=fun y hy=>by
  rcases cJ.1 hy with e | e
  ·rw[e];exact .refl ha
  ·obtain⟨A,B,e2⟩:=HG e
   have h2:=hc.1
   rw[e2] at h2
   exact GW (hJ.1 h2).1 (fun w hw=>hm w (by
    rcases cJ.1 hw with e3 | e3
    ·rw[e3];simp
    ·exact dY _ (by rw[e2];exact yU _ e3))) (hm y hy)
 have gab:ar n (rf fun k=>f (CF a b k)) a b:=by
  refine ar.symm (xP _) ?_
  have hp:Path (fun k=>f (CF a b k)) b m a:=wX (f:=f) (b:=a) hc.1 (fun y hy=>by
   have q1:y≠a:=fun e=>(dC.1 hc.2).1 (e▸hy)
   have q2:y≠b:=fun e=>hn (e▸conM y (dY _ hy))
   show f (CF a b y)=f y
   rw[FI q1 q2]) (by show f (CF a b b)=f a;rw[M4])
  exact GW hp (fun y hy=>by
   rcases cJ.1 hy with e | e
   ·rw[e];exact hb
   ·exact hm y (dY _ e)) ha
 have up:∀i j,ar n (rf f) i j→ar n (rf fun k=>f (CF a b k)) i j:=fun i j=>ar.mono fun i j hi2 hj h=>by
  have one:∀x,x<n→ar n (rf fun k=>f (CF a b k)) x (f x):=fun x hx=>by
   by_cases e1:x=a
   ·have h1:ar n (rf fun k=>f (CF a b k)) b (f a):=.one hb (hf a ha) (tD.2 (.inl (by show f (CF a b b)=f a;rw[M4])))
    rw[e1];exact gab.trans h1
   ·by_cases e2:x=b
    ·have h1:ar n (rf fun k=>f (CF a b k)) a (f b):=.one ha (hf b hb) (tD.2 (.inl (by show f (CF a b a)=f b;rw[QT])))
     rw[e2];exact(gab.symm (xP _)).trans h1
    ·exact .one hx (hf x hx) (tD.2 (.inl (by show f (CF a b x)=f x;rw[FI e1 e2])))
  rcases tD.1 h with e | e
  ·rw[←e];exact one i hi2
  ·rw[←e];exact(one j hj).symm (xP _)
 refine YJ (xP f) ha hb hn fun i j=>⟨fun h=>?_,?_⟩
 ·-- a step of the new map stays in the classes or goes from the one to the other
  have step:∀x,x<n→∀i,(ar n (rf f) i x∨(ar n (rf f) i a∧ar n (rf f) b x)∨(ar n (rf f) i b∧ar n (rf f) a x))↔(ar n (rf f) i (f (CF a b x))∨(ar n (rf f) i a∧ar n (rf f) b (f (CF a b x)))∨(ar n (rf f) i b∧ar n (rf f) a (f (CF a b x)))):=fun x hx i=>by
   have cf:∀y,y<n→∀i,ar n (rf f) i y↔ar n (rf f) i (f y):=fun y hy i=>⟨fun h=>h.trans (Bu hf hi hy),fun h=>h.trans ((Bu hf hi hy).symm (xP f))⟩
   by_cases e1:x=a
   ·subst e1
    rw[QT,←cf b hb,←cf b hb,←cf b hb]
    constructor
    ·rintro (h | ⟨h1,h2⟩ | ⟨h1,h2⟩)
     ·exact .inr (.inl ⟨h,.refl hb⟩)
     ·exact absurd (h2.symm (xP f)) hn
     ·exact .inl h1
    ·rintro (h | ⟨h1,h2⟩ | ⟨h1,h2⟩)
     ·exact .inr (.inr ⟨h,.refl hx⟩)
     ·exact .inl h1
     ·exact absurd h2 hn
   ·by_cases e2:x=b
    ·subst e2
     rw[M4,←cf a ha,←cf a ha,←cf a ha]
     constructor
     ·rintro (h | ⟨h1,h2⟩ | ⟨h1,h2⟩)
      ·exact .inr (.inr ⟨h,.refl ha⟩)
      ·exact .inl h1
      ·exact absurd h2 hn
     ·rintro (h | ⟨h1,h2⟩ | ⟨h1,h2⟩)
      ·exact .inr (.inl ⟨h,.refl hx⟩)
      ·exact absurd (h2.symm (xP f)) hn
      ·exact .inl h1
    ·rw[FI e1 e2,←cf x hx,←cf x hx,←cf x hx]
  induction h with
  | refl h1=>exact .inl (.refl h1)
  | @step j k h1 hr hk ih=>
   rcases tD.1 hr with e | e
   ·rw[←e];exact(step j h1.lt.2 i).1 ih
   ·rw[←e] at ih;exact(step k hk i).2 ih
 ·rintro (h | ⟨h1,h2⟩ | ⟨h1,h2⟩)
  ·exact up _ _ h
  ·exact((up _ _ h1).trans gab).trans (up _ _ h2)
  ·exact((up _ _ h1).trans (gab.symm (xP _))).trans (up _ _ h2)
theorem QU(hab:a≠b)(hc:ar n (rf f) a b):EO n (rf fun k=>f (CF a b k))=EO n (rf f)+1:=by
 obtain⟨hg,hgi⟩:=Ed hf hi ha hb
 obtain⟨m,h,hm⟩:=VN hf hi ha
 have hbm:b∈m:=by
  rcases cJ.1 (Lq hf hi h hm hc) with e | e
  ·exact absurd e.symm hab
  ·exact e
 obtain⟨A,B,e⟩:=HG hbm
 subst e
 have nd:=h.2
 have hn:¬ar n (rf fun k=>f (CF a b k)) a b:=fun hx=>by
  have hs:=(h.split (g:=fun k=>f (CF a b k)) (by show f (CF a b a)=f b;rw[QT]) (by show f (CF a b b)=f a;rw[M4]) (fun y hy=>by
   show f (CF a b y)=f y
   have h1:y≠a:=fun e=>(dC.1 nd).1 (by
    rw[←e]
    rcases fL.1 hy with q | q
    ·exact yU _ q
    ·exact JA _ (dY _ q))
   have h2:y≠b:=fun e=>by
    have h3:=(dC.1 nd).2
    obtain⟨_,h4,h5⟩:=pU.1 h3
    rcases fL.1 hy with q | q
    ·exact h5 y q b (by simp) e
    ·exact(dC.1 h4).1 (e▸q)
   rw[FI h1 h2])).1
  have hmem:=Lq hg hgi hs (fun y hy=>hm y (by
   rcases cJ.1 hy with q | q
   ·rw[q];simp
   ·exact dY _ (JA _ (dY _ q)))) hx
  rcases cJ.1 hmem with q | q
  ·exact hab q.symm
  ·have h3:=(dC.1 nd).2
   exact(dC.1 (pU.1 h3).2.1).1 q
 have h2:=DF hg hgi ha hb hn
 have e2:(rf fun k=>(fun k=>f (CF a b k)) (CF a b k))=rf f:=by
  show (rf fun k=>f (CF a b (CF a b k)))=rf f
  have e:(fun k=>f (CF a b (CF a b k)))=f:=funext fun k=>by rw[VQ]
  rw[e]
 rw[e2] at h2
 exact h2.symm
end
structure cy where
 L:Nat→Bool
 R:Nat→Bool
 V:Nat→Bool
 F:Nat→Bool
structure Mp where
 n:Nat
 R:Nat
 V:Nat
 F:Nat
 f:Nat→Nat
 r:Nat→Nat
 nx:Nat→Nat
 pv:Nat→Nat
 al:Nat→Bool
 rv:Nat→Nat
 rc:Nat→Nat
def Mp.sg(m:Mp)(k:Nat):Nat:=mt (m.pv k)
def Mp.ki(m:Mp)(L:Nat→Bool)(q:Nat)(k:Nat):Bool:=L k&&decide (m.r k=q)
def Mp.lf(m:Mp)(L:Nat→Bool)(u:Nat)(k:Nat):Bool:=L k&&decide (m.f k=u)
structure WV (m:Mp) (a:cy):Prop where
 ch:∀k,dD m.n a.L k→dD m.n a.L (mt k)
 hf:∀k,dD m.n a.L k→dD m.V a.V (m.f k)
 hn:∀k,dD m.n a.L k→dD m.n a.L (m.nx k)
 hp:∀k,dD m.n a.L k→dD m.n a.L (m.pv k)
 pn:∀k,dD m.n a.L k→m.pv (m.nx k)=k
 np:∀k,dD m.n a.L k→m.nx (m.pv k)=k
 hr:∀k,dD m.n a.L k→dD m.R a.R (m.r k)
 rn:∀k,dD m.n a.L k→m.r (m.nx k)=m.r k
 ff:∀k,dD m.n a.L k→m.f (m.nx k)=m.f (mt k)
 rc:∀q,dD m.R a.R q→dD m.F a.F (m.rc q)
 ra:∀q,dD m.R a.R q→m.al q=true→dD m.V a.V (m.rv q)∧∀k,dD m.n a.L k→m.r k≠q
 ro:∀q,dD m.R a.R q→m.al q=false→bu m.nx m.n (m.ki a.L q)
 fc:∀g,dD m.F a.F g→∃q,dD m.R a.R q∧m.rc q=g
 va:∀u,dD m.V a.V u→((∃q,(dD m.R a.R q∧m.al q=true∧m.rv q=u)∧∀q',dD m.R a.R q'→m.al q'=true→m.rv q'=u→q'=q)∧∀k,dD m.n a.L k→m.f k≠u) ∨
  ((∀q,dD m.R a.R q→m.al q=true→m.rv q≠u)∧bu m.sg m.n (m.lf a.L u))
theorem YZ{f g i:Nat→Nat}:∀{l:List Nat} {x z:Nat},(∀y∈x::l,g (i y)=i (f y))→Path f x l z→Path g (i x) (l.map i) (i z)
 | [],x,z,h,hp=>by
  have h1:f x=z:=hp
  show g (i x)=i z
  rw[h x (by simp),h1]
 | y::l,x,z,h,hp=>⟨by rw[h x (by simp),hp.1],YZ (fun w hw=>h w (dY _ hw)) hp.2⟩
theorem L8{i:Nat→Nat}:∀{l:List Nat},(∀x∈l,∀y∈l,i x=i y→x=y)→l.Nodup→(l.map i).Nodup
 | [],_,_=>OV
 | x::l,h,hn=>by
  obtain⟨h1,h2⟩:=dC.1 hn
  refine dC.2 ⟨fun hm=>?_,L8 (fun a ha b hb=>h a (dY _ ha) b (dY _ hb)) h2⟩
  obtain⟨y,hy,e⟩:=kZ.1 hm
  have:=h y (dY _ hy) x (by simp) e
  exact h1 (this▸hy)
structure ie (n:Nat) (P:Nat→Bool) (n':Nat) (P':Nat→Bool) (s i:Nat→Nat):Prop where
 to:∀k,dD n P k→dD n' P' (i k)
 fr:∀j,dD n' P' j→dD n P (s j)
 si:∀k,dD n P k→s (i k)=k
 is:∀j,dD n' P' j→i (s j)=j
theorem bu.px{f g:Nat→Nat}{n n':Nat}{P P' Q Q':Nat→Bool}{s i:Nat→Nat}(h:bu f n Q)(hr:ie n P n' P' s i)(hQ:∀k,dD n Q k→dD n P k)(hg:∀k,dD n Q k→g (i k)=i (f k))(hP:∀j,dD n' Q' j↔dD n' P' j∧dD n Q (s j)):bu g n' Q':=by
 obtain⟨x,m,hm,cj⟩:=h
 refine⟨i x,m.map i,⟨YZ (fun y hy=>hg y ((cj y).1 hy)) hm.1,?_⟩,fun y=>(?_:_↔dD n' Q' y)⟩
 ·have:(i x::m.map i)=(x::m).map i:=rfl
  rw[this]
  refine L8 (fun a ha b hb e=>?_) hm.2
  rw[←hr.si a (hQ a ((cj a).1 ha)),←hr.si b (hQ b ((cj b).1 hb)),e]
 ·have:(i x::m.map i)=(x::m).map i:=rfl
  rw[this,hP y]
  constructor
  ·intro hy
   obtain⟨k,hk,rfl⟩:=kZ.1 hy
   have hk':=(cj k).1 hk
   have hk2:=hQ k hk'
   exact⟨hr.to k hk2,by rw[hr.si k hk2];exact hk'⟩
  ·rintro ⟨h1,h2⟩
   exact kZ.2 ⟨s y,(cj _).2 h2,hr.is y h1⟩
theorem WV.nf{m:Mp}{a:cy}(h:WV m a){n':Nat}{L':Nat→Bool}{s i:Nat→Nat}(hr:ie m.n a.L n' L' s i)(hm:∀k,dD m.n a.L k→i (mt k)=mt (i k)){f r nx pv:Nat→Nat}(hf:∀j,dD n' L' j→f j=m.f (s j))(hrr:∀j,dD n' L' j→r j=m.r (s j))
 (hnx:∀j,dD n' L' j→nx j=i (m.nx (s j))) (hpv:∀j,dD n' L' j→pv j=i (m.pv (s j))):WV { m with n:=n',f:=f,r:=r,nx:=nx,pv:=pv } { a with L:=L' }:=by
 have sm:∀j,dD n' L' j→dD n' L' (mt j)∧s (mt j)=mt (s j):=fun j hj=>by
  have h1:=hr.fr j hj
  have h2:=h.ch _ h1
  have h3:=hm _ h1
  rw[hr.is j hj] at h3
  have h4:=hr.to _ h2
  rw[h3] at h4
  exact⟨h4,by rw[←h3,hr.si _ h2]⟩
 have nN:∀j,dD n' L' j→dD n' L' (nx j)∧s (nx j)=m.nx (s j):=fun j hj=>by
  have h1:=h.hn _ (hr.fr j hj)
  rw[hnx j hj]
  exact⟨hr.to _ h1,hr.si _ h1⟩
 have pN:∀j,dD n' L' j→dD n' L' (pv j)∧s (pv j)=m.pv (s j):=fun j hj=>by
  have h1:=h.hp _ (hr.fr j hj)
  rw[hpv j hj]
  exact⟨hr.to _ h1,hr.si _ h1⟩
 refine { ch:=fun j hj=>(sm j hj).1,hf:=fun j hj=>?_,hn:=fun j hj=>(nN j hj).1,hp:=fun j hj=>(pN j hj).1,pn:=fun j hj=>?_,np:=fun j hj=>?_,hr:=fun j hj=>?_,rn:=fun j hj=>?_,ff:=fun j hj=>?_,rc:=h.rc,ra:=fun q hq bo=>?_,ro:=fun q hq bo=>?_,fc:=h.fc,va:=fun u hu=>?_ }
 ·show dD m.V a.V (f j);rw[hf j hj];exact h.hf _ (hr.fr j hj)
 ·show pv (nx j)=j
  rw[hpv _ (nN j hj).1,(nN j hj).2,h.pn _ (hr.fr j hj),hr.is j hj]
 ·show nx (pv j)=j
  rw[hnx _ (pN j hj).1,(pN j hj).2,h.np _ (hr.fr j hj),hr.is j hj]
 ·show dD m.R a.R (r j);rw[hrr j hj];exact h.hr _ (hr.fr j hj)
 ·show r (nx j)=r j
  rw[hrr _ (nN j hj).1,(nN j hj).2,hrr j hj];exact h.rn _ (hr.fr j hj)
 ·show f (nx j)=f (mt j)
  rw[hf _ (nN j hj).1,(nN j hj).2,hf _ (sm j hj).1,(sm j hj).2];exact h.ff _ (hr.fr j hj)
 ·obtain⟨h1,h2⟩:=h.ra q hq bo
  refine⟨h1,fun j hj=>?_⟩
  show r j≠q
  rw[hrr j hj];exact h2 _ (hr.fr j hj)
 ·refine(h.ro q hq bo).px hr (fun k hk=>⟨hk.1,(iC.1 hk.2).1⟩) (fun k hk=>?_) fun j=>?_
  ·have hk':dD m.n a.L k:=⟨hk.1,(iC.1 hk.2).1⟩
   show nx (i k)=i (m.nx k)
   rw[hnx _ (hr.to k hk'),hr.si k hk']
  ·show (j<n'∧(L' j&&decide (r j=q))=true)↔dD n' L' j∧(s j<m.n∧(a.L (s j)&&decide (m.r (s j)=q))=true)
   rw[cS,cS,bE,bE]
   constructor
   ·rintro ⟨h1,h2,h3⟩
    have hj:dD n' L' j:=⟨h1,h2⟩
    have h4:=hr.fr j hj
    exact⟨hj,h4.1,h4.2,by rw[←hrr j hj];exact h3⟩
   ·rintro ⟨hj,h1,h2,h3⟩
    exact⟨hj.1,hj.2,by rw[hrr j hj];exact h3⟩
 ·rcases h.va u hu with⟨h1,h2⟩ | ⟨h1,h2⟩
  ·refine .inl ⟨h1,fun j hj=>?_⟩
   show f j≠u
   rw[hf j hj];exact h2 _ (hr.fr j hj)
  ·refine .inr ⟨h1,h2.px hr (fun k hk=>⟨hk.1,(iC.1 hk.2).1⟩) (fun k hk=>?_) fun j=>?_⟩
   ·have hk':dD m.n a.L k:=⟨hk.1,(iC.1 hk.2).1⟩
    show mt (pv (i k))=i (mt (m.pv k))
    rw[hpv _ (hr.to k hk'),hr.si k hk',hm _ (h.hp k hk')]
   ·show (j<n'∧(L' j&&decide (f j=u))=true)↔dD n' L' j∧(s j<m.n∧(a.L (s j)&&decide (m.f (s j)=u))=true)
    rw[cS,cS,bE,bE]
    constructor
    ·rintro ⟨h1,h2,h3⟩
     have hj:dD n' L' j:=⟨h1,h2⟩
     have h4:=hr.fr j hj
     exact⟨hj,h4.1,h4.2,by rw[←hf j hj];exact h3⟩
    ·rintro ⟨hj,h1,h2,h3⟩
     exact⟨hj.1,hj.2,by rw[hf j hj];exact h3⟩
theorem ie.inj{n n':Nat}{P P':Nat→Bool}{s i:Nat→Nat}(hr:ie n P n' P' s i){x y:Nat}(hx:dD n P x)(hy:dD n P y)(e:i x=i y):x=y:=by rw[←hr.si x hx,e,hr.si y hy]
theorem WV.lx{m:Mp}{a:cy}(h:WV m a){V':Nat}{P':Nat→Bool}{s i:Nat→Nat}(hr:ie m.V a.V V' P' s i){f rv:Nat→Nat}(hf:∀k,dD m.n a.L k→f k=i (m.f k))(hv:∀q,dD m.R a.R q→m.al q=true→rv q=i (m.rv q)):
 WV { m with V:=V',f:=f,rv:=rv } { a with V:=P' }:=by
 refine { ch:=h.ch,hf:=fun k hk=>?_,hn:=h.hn,hp:=h.hp,pn:=h.pn,np:=h.np,hr:=h.hr,rn:=h.rn,ff:=fun k hk=>?_,rc:=h.rc,ra:=fun q hq bo=>?_,ro:=h.ro,fc:=h.fc,va:=fun u hu=>?_ }
 ·show dD V' P' (f k);rw[hf k hk];exact hr.to _ (h.hf k hk)
 ·show f (m.nx k)=f (mt k)
  rw[hf _ (h.hn k hk),hf _ (h.ch k hk),h.ff k hk]
 ·obtain⟨h1,h2⟩:=h.ra q hq bo
  refine⟨?_,h2⟩
  show dD V' P' (rv q);rw[hv q hq bo];exact hr.to _ h1
 ·have hu':=hr.fr u hu
  have hw:∀w,dD m.V a.V w→(i w=u↔w=s u):=fun w hw=>⟨fun e=>by rw[←hr.si w hw,e],fun e=>by rw[e];exact hr.is u hu⟩
  rcases h.va (s u) hu' with⟨⟨q,⟨q1,q2,q3⟩,q4⟩,h2⟩ | ⟨h1,h2⟩
  ·refine .inl ⟨⟨q,⟨q1,q2,?_⟩,fun q' p1 p2 p3=>?_⟩,fun k hk e=>?_⟩
   ·show rv q=u;rw[hv q q1 q2];exact(hw _ (h.ra q q1 q2).1).2 q3
   ·have p3:rv q'=u:=p3
    rw[hv q' p1 p2] at p3
    exact q4 q' p1 p2 ((hw _ (h.ra q' p1 p2).1).1 p3)
   ·have e:f k=u:=e
    rw[hf k hk] at e
    exact h2 k hk ((hw _ (h.hf k hk)).1 e)
  ·refine .inr ⟨fun q p1 p2 e=>?_,h2.ext (fun _ _ _=>rfl) fun y=>?_⟩
   ·have e:rv q=u:=e
    rw[hv q p1 p2] at e
    exact h1 q p1 p2 ((hw _ (h.ra q p1 p2).1).1 e)
   ·show (y<m.n∧(a.L y&&decide (f y=u))=true)↔y<m.n∧(a.L y&&decide (m.f y=s u))=true
    rw[cS,cS,bE,bE]
    constructor
    ·rintro ⟨a1,a2,a3⟩
     rw[hf y ⟨a1,a2⟩] at a3
     exact⟨a1,a2,(hw _ (h.hf y ⟨a1,a2⟩)).1 a3⟩
    ·rintro ⟨a1,a2,a3⟩
     exact⟨a1,a2,by rw[hf y ⟨a1,a2⟩];exact(hw _ (h.hf y ⟨a1,a2⟩)).2 a3⟩
theorem WV.ji{m:Mp}{a:cy}(h:WV m a){R':Nat}{P':Nat→Bool}{s i:Nat→Nat}(hr:ie m.R a.R R' P' s i){r:Nat→Nat}{al:Nat→Bool}{rv rc:Nat→Nat}(hk:∀k,dD m.n a.L k→r k=i (m.r k))
 (ha:∀j,dD R' P' j→al j=m.al (s j)) (hv:∀j,dD R' P' j→al j=true→rv j=m.rv (s j)) (hc:∀j,dD R' P' j→rc j=m.rc (s j)):
 WV { m with R:=R',r:=r,al:=al,rv:=rv,rc:=rc } { a with R:=P' }:=by
 have hw:∀j,dD R' P' j→∀q,dD m.R a.R q→(i q=j↔q=s j):=fun j hj q hq=>⟨fun e=>by rw[←hr.si q hq,e],fun e=>by rw[e];exact hr.is j hj⟩
 refine { ch:=h.ch,hf:=h.hf,hn:=h.hn,hp:=h.hp,pn:=h.pn,np:=h.np,hr:=fun k hl=>?_,rn:=fun k hl=>?_,ff:=h.ff,rc:=fun j hj=>?_,ra:=fun j hj bo=>?_,ro:=fun j hj bo=>?_,fc:=fun g hg=>?_,va:=fun u hu=>?_ }
 ·show dD R' P' (r k);rw[hk k hl];exact hr.to _ (h.hr k hl)
 ·show r (m.nx k)=r k
  rw[hk _ (h.hn k hl),hk k hl,h.rn k hl]
 ·show dD m.F a.F (rc j);rw[hc j hj];exact h.rc _ (hr.fr j hj)
 ·have ft:m.al (s j)=true:=by rw[←ha j hj];exact bo
  obtain⟨h1,h2⟩:=h.ra _ (hr.fr j hj) ft
  refine⟨?_,fun k hl e=>?_⟩
  ·show dD m.V a.V (rv j);rw[hv j hj bo];exact h1
  ·have e:r k=j:=e
   rw[hk k hl] at e
   exact h2 k hl ((hw j hj _ (h.hr k hl)).1 e)
 ·have ft:m.al (s j)=false:=by rw[←ha j hj];exact bo
  refine(h.ro _ (hr.fr j hj) ft).ext (fun _ _ _=>rfl) fun y=>?_
  show (y<m.n∧(a.L y&&decide (r y=j))=true)↔y<m.n∧(a.L y&&decide (m.r y=s j))=true
  rw[cS,cS,bE,bE]
  constructor
  ·rintro ⟨a1,a2,a3⟩
   rw[hk y ⟨a1,a2⟩] at a3
   exact⟨a1,a2,(hw j hj _ (h.hr y ⟨a1,a2⟩)).1 a3⟩
  ·rintro ⟨a1,a2,a3⟩
   exact⟨a1,a2,by rw[hk y ⟨a1,a2⟩];exact(hw j hj _ (h.hr y ⟨a1,a2⟩)).2 a3⟩
 ·obtain⟨q,q1,q2⟩:=h.fc g hg
  refine⟨i q,hr.to q q1,?_⟩
  show rc (i q)=g
  rw[hc _ (hr.to q q1),hr.si q q1];exact q2
 ·rcases h.va u hu with⟨⟨q,⟨q1,q2,q3⟩,q4⟩,h2⟩ | ⟨h1,h2⟩
  ·have q2':al (i q)=true:=by rw[ha _ (hr.to q q1),hr.si q q1];exact q2
   refine .inl ⟨⟨i q,⟨hr.to q q1,q2',?_⟩,fun j p1 p2 p3=>?_⟩,h2⟩
   ·show rv (i q)=u
    rw[hv _ (hr.to q q1) q2',hr.si q q1];exact q3
   ·have p3:rv j=u:=p3
    have p2:al j=true:=p2
    rw[hv j p1 p2] at p3
    have:=q4 (s j) (hr.fr j p1) (by rw[←ha j p1];exact p2) p3
    rw[←this,hr.is j p1]
  ·refine .inr ⟨fun j p1 p2 e=>?_,h2⟩
   have p2:al j=true:=p2
   have e:rv j=u:=e
   rw[hv j p1 p2] at e
   exact h1 (s j) (hr.fr j p1) (by rw[←ha j p1];exact p2) e
theorem WV.ly{m:Mp}{a:cy}(h:WV m a){F':Nat}{P':Nat→Bool}{s i:Nat→Nat}(hr:ie m.F a.F F' P' s i){rc:Nat→Nat}(hc:∀q,dD m.R a.R q→rc q=i (m.rc q)):
 WV { m with F:=F',rc:=rc } { a with F:=P' }:=by
 refine { ch:=h.ch,hf:=h.hf,hn:=h.hn,hp:=h.hp,pn:=h.pn,np:=h.np,hr:=h.hr,rn:=h.rn,ff:=h.ff,rc:=fun q hq=>?_,ra:=h.ra,ro:=h.ro,fc:=fun g hg=>?_,va:=h.va }
 ·show dD F' P' (rc q);rw[hc q hq];exact hr.to _ (h.rc q hq)
 ·obtain⟨q,q1,q2⟩:=h.fc _ (hr.fr g hg)
  refine⟨q,q1,?_⟩
  show rc q=g
  rw[hc q q1,q2,hr.is g hg]
theorem J8{n x:Nat}(hx:x<n){P:Nat→Bool}(hP:∀k,k<n→(P k=true↔k≠x)):ie n P (n-1) (fun _=>true) (fun j=>if j=x then n-1 else j) (fun k=>if k=n-1 then x else k):=by
 refine⟨fun k hk=>?_,fun j hj=>?_,fun k hk=>?_,fun j hj=>?_⟩
 ·have h1:=hk.1
  have h2:=(hP k h1).1 hk.2
  refine⟨?_,rfl⟩
  split <;> omega
 ·have h1:=hj.1
  split
  ·rename_i e
   exact⟨by omega,(hP _ (by omega)).2 (by omega)⟩
  ·rename_i e
   exact⟨by omega,(hP _ (by omega)).2 e⟩
 ·have h1:=hk.1
  have h2:=(hP k h1).1 hk.2
  split
  ·rename_i e;first | (rw[aC rfl];exact e.symm) | (split <;> omega)
  ·first | rfl | rw[aA h2]
 ·have h1:=hj.1
  split
  ·rename_i e;rw[aC rfl];exact e.symm
  ·rw[aA (by omega)]
def sN(l:List Hf)(i:Nat)(v:Int):List Hf:=l.set i { hG l i with n:=v }
def sP(l:List Hf)(i:Nat)(v:Int):List Hf:=l.set i { hG l i with p:=v }
def sR(l:List Hf)(i:Nat)(v:Int):List Hf:=l.set i { hG l i with r:=v }
def lk(l:List Hf)(a b:Nat):List Hf:=sP (sN l a (b:Int)) b (a:Int)
theorem YN(x:Hf)(v:Int):T.ax 4 (tH x) 1 [tI v]=tH { x with n:=v }:=by unfold T.ax;rfl
theorem YO(x:Hf)(v:Int):T.ax 4 (tH x) 2 [tI v]=tH { x with p:=v }:=by unfold T.ax;rfl
theorem Hw(x:Hf)(v:Int):T.ax 4 (tH x) 3 [tI v]=tH { x with r:=v }:=by unfold T.ax;rfl
theorem Vv(x:Hf)(v:Int):T.ax 4 (tH x) 0 [tI v]=tH { x with f:=v }:=by unfold T.ax;rfl
theorem NG(x:Rg)(v:Int):T.ax 3 (tR x) 0 [tI v]=tR { x with h:=v }:=by unfold T.ax;rfl
theorem FK(x:Rg)(v:Int):T.ax 3 (tR x) 1 [tI v]=tR { x with v:=v }:=by unfold T.ax;rfl
theorem Hx(x:Rg)(v:Int):T.ax 3 (tR x) 2 [tI v]=tR { x with c:=v }:=by unfold T.ax;rfl
theorem BX(l:List Hf)(k:Nat)(x:Hf):(l.map tH).set k (tH x)=(l.set k x).map tH:=by rw[O0]
theorem wK(l:List Rg)(k:Nat)(x:Rg):(l.map tR).set k (tR x)=(l.set k x).map tR:=by rw[O0]
theorem gJ{l:List Hf}{k:Nat}(h:k<l.length):(l.map tH)[k]?=some (tH (hG l k)):=by rw[fF,sD l k h];rfl
theorem sF{l:List Rg}{k:Nat}(h:k<l.length):(l.map tR)[k]?=some (tR (rG l k)):=by rw[fF,vN l k h];rfl
@[simp] theorem Xt(l:List Hf)(i:Nat)(v:Int):(sN l i v).length=l.length:=by simp[sN]
@[simp] theorem Xu(l:List Hf)(i:Nat)(v:Int):(sP l i v).length=l.length:=by simp[sP]
@[simp] theorem VU(l:List Hf)(i:Nat)(v:Int):(sR l i v).length=l.length:=by simp[sR]
@[simp] theorem aG(l:List Hf)(a b:Nat):(lk l a b).length=l.length:=by simp[lk]
theorem DG{l:List Hf}{i j:Nat}{x:Hf}(hi:i<l.length):hG (l.set i x) j=if i=j then x else hG l j:=by
 unfold hG
 rw[nO,jY,jY,qO]
 by_cases e:i=j
 ·subst e;rw[aC rfl,aC rfl,aC hi];rfl
 ·rw[aA e,aA e]
theorem jE{l:List Rg}{i j:Nat}{x:Rg}(hi:i<l.length):rG (l.set i x) j=if i=j then x else rG l j:=by
 unfold rG
 rw[nO,jY,jY,qO]
 by_cases e:i=j
 ·subst e;rw[aC rfl,aC rfl,aC hi];rfl
 ·rw[aA e,aA e]
theorem VV{l:List Hf}{i j:Nat}{v:Int}(hi:i<l.length):hG (sN l i v) j=if i=j then { hG l j with n:=v } else hG l j:=by
 unfold sN;rw[DG hi];by_cases e:i=j
 ·subst e;rfl
 ·rw[aA e,aA e]
theorem VW{l:List Hf}{i j:Nat}{v:Int}(hi:i<l.length):hG (sP l i v) j=if i=j then { hG l j with p:=v } else hG l j:=by
 unfold sP;rw[DG hi];by_cases e:i=j
 ·subst e;rfl
 ·rw[aA e,aA e]
theorem Tu{l:List Hf}{i j:Nat}{v:Int}(hi:i<l.length):hG (sR l i v) j=if i=j then { hG l j with r:=v } else hG l j:=by
 unfold sR;rw[DG hi];by_cases e:i=j
 ·subst e;rfl
 ·rw[aA e,aA e]
theorem fV{l m:List Hf}{j:Nat}(h:j<l.length):hG (l++m) j=hG l j:=by
 unfold hG;rw[nO,jY,jY,zX h]
theorem oH{l:List Hf}{x y:Hf}:hG (l++[x,y]) (l.length:Nat)=x:=by
 unfold hG;rw[nO,jY,HD (by omega)];simp
theorem oJ{l:List Hf}{x y:Hf}:hG (l++[x,y]) ((l.length+1:Nat):Int)=y:=by
 unfold hG;rw[nO,jY,HD (by omega)]
 have:l.length+1-l.length=1:=by omega
 rw[this];rfl
theorem AO{l m:List Hf}(hl:l.length=m.length)(h:∀j:Nat,j<l.length→hG l j=hG m j):l=m:=by
 apply EU
 intro i
 by_cases hi:i<l.length
 ·rw[sD l i hi,sD m i (by omega),h i hi]
 ·rw[tJ (by omega),tJ (by omega)]
theorem L5{l m:List Rg}(hl:l.length=m.length)(h:∀j:Nat,j<l.length→rG l j=rG m j):l=m:=by
 apply EU
 intro i
 by_cases hi:i<l.length
 ·rw[vN l i hi,vN m i (by omega),h i hi]
 ·rw[tJ (by omega),tJ (by omega)]
theorem wY{V F:Int}{hs:List Hf}{rs:List T}{a b:Nat}(ha:a<hs.length)(hb:b<hs.length):
 aL (V,F,hs.map tH,rs,(a:Int),(b:Int),())=some ((lk hs a b).map tH,rs,()):=by
 have hlen:∀l:List Hf,l.length=hs.length→aZ (aI (l.map tH)) (b:Int)=some b:=fun l h=>by rw[bT];exact aF (by omega)
 unfold aL
 simp only[bT,aF (n:=(hs.length:Int)) (i:=a) (by omega),bD,aY,gJ ha,bY,YN,BX,dP,aF (n:=(hs.length:Int)) (i:=b) (by omega)]
 have hg:((hs.set a { hG hs a with n:=(b:Int) }).map tH)[b]?=some (tH (hG (sN hs a b) b)):=gJ (by simpa using hb)
 simp only[hg,bD,YO,BX]
 rfl
theorem FL{V F:Int}{hs:List Hf}{rs:List T}{x y:Int}(hn:hs.length≤1000):
 iQ ((),x,y,V,F,hs.map tH,rs,())=some ((hs.length:Int),((hs.length+1:Nat):Int),V,F,(hs++[Hf.mk x 0 0 0,Hf.mk y 0 0 0]).map tH,rs,()):=by
 have hr:qE (hs.map tH) [tH (Hf.mk x 0 0 0),tH (Hf.mk y 0 0 0)] 32=some ((hs++[Hf.mk x 0 0 0,Hf.mk y 0 0 0]).map tH):=by
  rw[rJ (by simp only[dM,oA,wP];omega) (by decide),DY];rfl
 unfold iQ
 simp only[bT,aS,wk (k:=hs.length) (by omega)]
 have e:([T.agg [T.v (Value.int .i64 x),T.v (Value.int .i64 0),T.v (Value.int .i64 0),T.v (Value.int .i64 0)],T.agg [T.v (Value.int .i64 y),T.v (Value.int .i64 0),T.v (Value.int .i64 0),T.v (Value.int .i64 0)]]:List T)=[tH (Hf.mk x 0 0 0),tH (Hf.mk y 0 0 0)]:=rfl
 rw[e,hr]
 rfl
theorem Tv{t:Tp}(hn:t.hs.length≤1000)(hR:t.rs.length≤1000):dZ (oF t)=some (oF t):=by
 unfold dZ oF
 simp only[rJ (l:=[]) (m:=t.hs.map tH) (b:=32) (by simp only[dM,wP];omega) (by decide),rJ (l:=[]) (m:=t.rs.map tR) (b:=24) (by simp only[dM,wP];omega) (by decide),bD,ZE]
def gQ(t:Tp)(a b c d:Nat):Bool:=decide ((t.hs.length:Int)+a≤256)&&(decide (t.V+b≤257)&&(decide (t.F+c≤257)&&decide ((t.rs.length:Int)+d≤257)))
theorem FM{t:Tp}(ht:Sz t){a b c d:Nat}(ha:a≤2)(hb:b≤2)(hc:c≤2)(hd:d≤2):dO (t.V,t.F,t.hs.map tH,t.rs.map tR,(a:Int),(b:Int),(c:Int),(d:Int),())=some (gQ t a b c d,()):=by
 have h1:=ht.n
 have h2:=ht.V0
 have h3:=ht.V1
 have h4:=ht.F0
 have h5:=ht.F1
 have h6:=ht.R
 unfold dO gQ
 simp only[bT,bL,aS,gI,fQ (n:=(t.hs.length:Int)+a) (by omega) (by omega),fQ (n:=t.V+b) (by omega) (by omega),fQ (n:=t.F+c) (by omega) (by omega),fQ (n:=(t.rs.length:Int)+d) (by omega) (by omega)]
 cases decide ((t.hs.length:Int)+a≤256) <;> cases decide (t.V+b≤257) <;> cases decide (t.F+c≤257) <;> rfl
def au(l:List Hf)(xs:List Nat)(r:Int):List Hf:=xs.foldl (fun l x=>sR l x r) l
theorem cO(xs:List Nat)(r:Int):∀l:List Hf,(au l xs r).length=l.length:=by
 induction xs with
 | nil=>intro l;rfl
 | cons x xs ih=>intro l;show (au (sR l x r) xs r).length=_;rw[ih,VU]
theorem eM(xs:List Nat)(r:Int):∀(l:List Hf) (j:Nat),(∀x∈xs,x<l.length)→hG (au l xs r) j=if j∈xs then { hG l j with r:=r } else hG l j:=by
 induction xs with
 | nil=>intro l j _;simp[au]
 | cons x xs ih=>
  intro l j h
  show hG (au (sR l x r) xs r) j=_
  rw[ih _ _ (fun y hy=>by rw[VU];exact h y (dY _ hy)),Tu (h x (by simp))]
  by_cases e:x=j
  ·subst e
   rw[aC rfl,aC (UB ..)]
   by_cases e2:x∈xs
   ·rw[aC e2]
   ·rw[aA e2]
  ·rw[aA e]
   by_cases e2:j∈xs
   ·rw[aC e2,aC (dY _ e2)]
   ·rw[aA e2,aA]
    intro h2
    rcases cJ.1 h2 with h3 | h3
    ·exact e h3.symm
    ·exact e2 h3
def lC(t:Tp)(x:Nat)(m:List Nat)(r:Nat):Tp:={ t with hs:=au t.hs (x::m) (r:Int),rs:=t.rs.set r { rG t.rs r with h:=(x:Int),v:=-1 } }
def G0(t:Tp)(x r:Nat)(m:List Nat)(i:Nat):Int×Int×Unit×List T×Int×Int×Int×List T×List T×Unit:=((x:Int),(r:Int),(),tN (x::m),(i:Int),t.V,t.F,(au t.hs ((x::m).take i) (r:Int)).map tH,t.rs.map tR,())
theorem Lw{t:Tp}(hn:t.hs.length≤1000){x r:Nat}{m:List Nat}(hc:bz (nx t) x m)(hb:∀y∈x::m,y<t.hs.length)(hi:∀y∈x::m,(hG t.hs y).n=(nx t y:Int))(hr:r<t.rs.length):
 cP (t.V,t.F,t.hs.map tH,t.rs.map tR,(x:Int),(r:Int),())=some ((lC t x m r).hs.map tH,(lC t x m r).rs.map tR,()):=by
 have hml:m.length+1≤t.hs.length:=by
  have:=QO hc.2 hb;simpa using this
 have hl:=bX (F:=oO) (m.length+1) (G0 t x r m) (fun i hi2=>by
  have hlt:decide ((i:Int)<((m.length+1:Nat):Int))=true:=aR (by omega)
  have hlen:aI (tN (x::m))=((m.length+1:Nat):Int):=by rw[jK,vO];rfl
  have hil:i<(x::m).length:=by simpa using hi2
  have hyb:=hb _ (OL hil)
  generalize hy:(x::m)[i]=y at hyb
  have hg:(x::m)[i]?=some y:=by rw[dH hil,hy]
  have ht1:(x::m).take (i+1)=(x::m).take i++[y]:=by rw[UJ hil,hy]
  have hs1:au t.hs ((x::m).take (i+1)) (r:Int)=sR (au t.hs ((x::m).take i) (r:Int)) y (r:Int):=by
   rw[ht1];unfold au;rw[List.foldl_append];rfl
  unfold oO G0
  rw[hs1]
  have hl2:(au t.hs ((x::m).take i) (r:Int)).length=t.hs.length:=cO _ _ _
  generalize au t.hs ((x::m).take i) (r:Int)=L at *
  have hg2:(L.map tH)[y]?=some (tH (hG L y)):=gJ (by omega)
  simp only[aP,hlen,hlt,aN,AI,BV hg,bD,oG,gA,bT,hl2,aF (n:=(t.hs.length:Int)) (i:=y) (by omega),aY,hg2,bY,Hw,BX,aS,wk (k:=i) (by omega)]
  rfl)
 have ho:oO (G0 t x r m (m.length+1))=some (.inr (.inl ((x:Int),(r:Int),(),t.V,t.F,(au t.hs (x::m) (r:Int)).map tH,t.rs.map tR,()))):=by
  have hlen:aI (tN (x::m))=((m.length+1:Nat):Int):=by rw[jK,vO];rfl
  have hlt:decide (((m.length+1:Nat):Int)<((m.length+1:Nat):Int))=false:=aW (by omega)
  have htk:(x::m).take (m.length+1)=x::m:=H6 (by simp)
  unfold oO G0
  simp only[aP,hlen,hlt,aK,htk]
 have e0:((x:Int),(r:Int),(),tN (x::m),(0:Int),t.V,t.F,t.hs.map tH,t.rs.map tR,())=G0 t x r m 0:=rfl
 unfold cP
 simp only[Hk hn hc hb hi,bD]
 rw[e0,hl,bK ho]
 have hg3:∀z:Rg,((t.rs.set r z).map tR)[r]?=some (tR z):=fun z=>by rw[fF,iJ hr];rfl
 simp only[bD,bC,bL,aF (n:=(t.rs.length:Int)) (i:=r) (by omega),aY,sF hr,bY,NG,wK,dP,hg3,FK,DZ]
 rfl
def YP(P:Nat→Bool)(n:Nat)(o:Int):Nat→Int
 | 0=>o
 | j+1=>bif P (n-1-j) then ((n-1-j:Nat):Int) else YP P n o j
def Iq(P:Nat→Bool)(n:Nat)(o:Int):Int:=if 0<aw P n then fi P n else o
theorem YQ{P:Nat→Bool}{n:Nat}{k:Nat}(hk:k<n)(hp:P k=true)(hl:∀j,j<k→P j=false):fi P n=(k:Int):=by
 have h0:∀m,m≤k→fi P m=-1:=by
  intro m
  induction m with
  | zero=>intro _;rfl
  | succ m ih=>intro h;simp only[fi,hl m (by omega),aK];exact ih (by omega)
 have h1:∀m,k<m→m≤n→fi P m=(k:Int):=by
  intro m
  induction m with
  | zero=>intro h;omega
  | succ m ih=>
   intro h h2
   simp only[fi]
   by_cases e:m=k
   ·subst e
    rw[hp,h0 m (gB _)];rfl
   ·have h3:=ih (by omega) (by omega)
    rw[h3]
    have hd:decide ((k:Int)<0)=false:=aW (by omega)
    rw[hd];cases P m <;> rfl
 exact h1 n hk (gB _)
theorem Lx(P:Nat→Bool)(n:Nat)(o:Int):YP P n o n=Iq P n o:=by
 have key:∀j,j≤n→((∀k,n-j≤k→k<n→P k=false)∧YP P n o j=o)∨∃k,n-j≤k∧k<n∧P k=true∧(∀i,n-j≤i→i<k→P i=false)∧YP P n o j=(k:Int):=by
  intro j
  induction j with
  | zero=>intro _;exact .inl ⟨fun k h1 h2=>by omega,rfl⟩
  | succ j ih=>
   intro hj
   simp only[YP]
   cases hp:P (n-1-j) with
   | true=>exact .inr ⟨n-1-j,by omega,by omega,hp,fun i h1 h2=>by omega,rfl⟩
   | false=>
    rcases ih (by omega) with⟨h1,h2⟩ | ⟨k,h1,h2,h3,h4,h5⟩
    ·refine .inl ⟨fun k hk1 hk2=>?_,h2⟩
     by_cases e:k=n-1-j
     ·rw[e];exact hp
     ·exact h1 k (by omega) hk2
    ·refine .inr ⟨k,by omega,h2,h3,fun i hi1 hi2=>?_,h5⟩
     by_cases e:i=n-1-j
     ·rw[e];exact hp
     ·exact h4 i (by omega) hi2
 unfold Iq
 rcases key n (gB _) with⟨h1,h2⟩ | ⟨k,h1,h2,h3,h4,h5⟩
 ·rw[aA,h2]
  rw[sE.2 fun k hk=>h1 k (by omega) hk];omega
 ·rw[aC (rK.2 ⟨k,h2,h3⟩),h5,YQ h2 h3 fun j hj=>h4 j (by omega) hj]
def N4(t:Tp)(r:Nat):Rg:=bif decide ((rG t.rs r).h=-1) then rG t.rs r else { rG t.rs r with h:=Iq (fC t r) t.hs.length (rG t.rs r).h }
def SG(t:Tp):Nat→List Rg
 | 0=>t.rs
 | r+1=>(SG t r).set r (N4 t r)
def lz(t:Tp):Tp:={ t with rs:=SG t t.rs.length }
theorem N5(t:Tp)(r:Nat):(SG t r).length=t.rs.length:=by
 induction r with
 | zero=>rfl
 | succ r ih=>simp[SG,ih]
theorem N6(t:Tp){r:Nat}(hr:r≤t.rs.length)(i:Nat):rG (SG t r) i=if i<r then N4 t i else rG t.rs i:=by
 induction r with
 | zero=>simp[SG]
 | succ r ih=>
  simp only[SG]
  rw[jE (by rw[N5];omega),ih (by omega)]
  by_cases e:r=i
  ·subst e;rw[aC rfl,aC (by omega)]
  ·rw[aA e]
   by_cases e2:i<r
   ·rw[aC e2,aC (by omega)]
   ·rw[aA e2,aA (by omega)]
theorem oU(t:Tp):(lz t).rs.length=t.rs.length:=N5 _ _
theorem IW(t:Tp){i:Nat}(hi:i<t.rs.length):rG (lz t).rs i=N4 t i:=by
 show rG (SG t t.rs.length) i=_
 rw[N6 t (gB _),aC hi]
def D1(t:Tp)(r:Nat)(j:Nat):Unit×Unit×Int×Int×Int×Int×List T×List T×Int×Int×T×T×Unit:=((),(),(r:Int),(t.hs.length:Int)-1-(j:Int),t.V,t.F,t.hs.map tH,((SG t r).set r { rG t.rs r with h:=YP (fC t r) t.hs.length (rG t.rs r).h j }).map tR,0,0,T.v (.slice none 0 0),T.v (.slice none 0 0),())
def D0(t:Tp)(r:Nat):Unit×Unit×Int×Int×Int×List T×List T×Int×Int×T×T×Unit:=((),(),(r:Int),t.V,t.F,t.hs.map tH,(SG t r).map tR,0,0,T.v (.slice none 0 0),T.v (.slice none 0 0),())
theorem Eg{t:Tp}(hn:t.hs.length≤1000)(hR:t.rs.length≤1000):cQ (oF t)=some (oF (lz t)):=by
 have hl:=bX (F:=pL) t.rs.length (D0 t) (fun r hr=>by
  have hlt:decide ((r:Int)<(t.rs.length:Int))=true:=aR (by omega)
  have hlen:(SG t r).length=t.rs.length:=N5 _ _
  have hg:((SG t r).map tR)[r]?=some (tR (rG t.rs r)):=by
   rw[sF (by omega),N6 t (by omega),aA (by omega)]
  have hD:D0 t (r+1)=((),(),((r+1:Nat):Int),t.V,t.F,t.hs.map tH,((SG t r).set r (N4 t r)).map tR,0,0,T.v (.slice none 0 0),T.v (.slice none 0 0),()):=rfl
  rw[hD]
  unfold pL D0 N4
  simp only[aP,bL,hlen,hlt,aN,aF (n:=(t.rs.length:Int)) (i:=r) (by omega),bD,aY,hg,zF,aJ,aH]
  cases hh:decide ((rG t.rs r).h=-1) with
  | true=>
   have hsame:(SG t r).set r (rG t.rs r)=SG t r:=by
    refine kO ?_
    rw[vN _ _ (by omega),N6 t (by omega),aA (by omega)]
   simp only[aN,bD,bC,aS,wk (k:=r) (by omega),hsame]
  | false=>
   have h1:=bX (F:=pK) t.hs.length (D1 t r) (fun j hj=>by
    have hge:decide ((0:Int)≤(t.hs.length:Int)-1-(j:Int))=true:=aR (by omega)
    have hcast:(t.hs.length:Int)-1-(j:Int)=((t.hs.length-1-j:Nat):Int):=by omega
    have hnext:(t.hs.length:Int)-1-((j+1:Nat):Int)=(t.hs.length:Int)-1-(j:Int)-1:=by omega
    have hw:wr .i64 ((t.hs.length:Int)-1-(j:Int)-1)=(t.hs.length:Int)-1-(j:Int)-1:=fQ (by omega) (by omega)
    unfold pK D1
    have hxg:=eS (l:=t.hs) (i:=(t.hs.length:Int)-1-(j:Int)) (by omega) (by omega)
    simp only[gI,hge,aN,hxg,bD,jV,aJ,aH,YP,hnext]
    have hPe:decide ((hG t.hs ((t.hs.length:Int)-1-(j:Int))).r=(r:Int))=fC t r (t.hs.length-1-j):=by
     unfold fC;rw[hcast]
    rw[hPe]
    cases fC t r (t.hs.length-1-j) with
    | false=>simp only[aK,bD,bC,nI,hw]
    | true=>
     have hg2:∀z:Rg,(((SG t r).set r z).map tR)[r]?=some (tR z):=fun z=>by rw[fF,iJ (by omega)];rfl
     simp only[aN,bL,dP,hlen,aF (n:=(t.rs.length:Int)) (i:=r) (by omega),bD,aY,hg2,bY,NG,wK,DZ,bC,nI,hw,←hcast])
   have ho:pK (D1 t r t.hs.length)=some (.inr (.inl ((),(),(r:Int),t.V,t.F,t.hs.map tH,((SG t r).set r { rG t.rs r with h:=Iq (fC t r) t.hs.length (rG t.rs r).h }).map tR,0,0,T.v (.slice none 0 0),T.v (.slice none 0 0),()))):=by
    have hge:decide ((0:Int)≤(t.hs.length:Int)-1-(t.hs.length:Int))=false:=aW (by omega)
    unfold pK D1
    simp only[gI,hge,aK,Lx]
   have hw0:wr .i64 ((t.hs.length:Int)-1)=(t.hs.length:Int)-1:=fQ (by omega) (by omega)
   have hsame:(SG t r).set r { rG t.rs r with h:=(rG t.rs r).h }=SG t r:=by
    refine kO ?_
    rw[vN _ _ (by omega),N6 t (by omega),aA (by omega)]
   have e0:((),(),(r:Int),((t.hs.length:Int)-1),t.V,t.F,t.hs.map tH,(SG t r).map tR,(0:Int),(0:Int),T.v (Value.slice none 0 0),T.v (Value.slice none 0 0),())=D1 t r 0:=by
    unfold D1 YP;rw[hsame];simp
   simp only[aK,bT,nI,hw0]
   rw[e0,h1,bK ho]
   simp only[bD,bC,aS,wk (k:=r) (by omega)])
 have ho:pL (D0 t t.rs.length)=some (.inr (.inl ((),(),t.V,t.F,t.hs.map tH,(SG t t.rs.length).map tR,0,0,T.v (.slice none 0 0),T.v (.slice none 0 0),()))):=by
  have hlt:decide ((t.rs.length:Int)<(t.rs.length:Int))=false:=aW (by omega)
  unfold pL D0
  simp only[aP,bL,N5,hlt,aK]
 unfold cQ oF
 have e0:((),(),(0:Int),t.V,t.F,t.hs.map tH,t.rs.map tR,(0:Int),(0:Int),T.v (Value.slice none 0 0),T.v (Value.slice none 0 0),())=D0 t 0:=rfl
 simp only[]
 rw[e0,hl,bK ho]
 rfl
theorem Rp(t:Tp)(r:Nat):(N4 t r).v=(rG t.rs r).v:=by unfold N4;cases decide ((rG t.rs r).h=-1) <;> rfl
theorem Ly(t:Tp)(r:Nat):(N4 t r).c=(rG t.rs r).c:=by unfold N4;cases decide ((rG t.rs r).h=-1) <;> rfl
theorem Rq(t:Tp){r:Nat}(h:(rG t.rs r).h=-1):N4 t r=rG t.rs r:=by unfold N4;rw[aR h];rfl
theorem Rr(t:Tp){r:Nat}(h:(rG t.rs r).h≠-1){k:Nat}(hk:k<t.hs.length)(hp:fC t r k=true):∃j:Nat,j<t.hs.length∧fC t r j=true∧(N4 t r).h=(j:Int)∧fi (fC t r) t.hs.length=(j:Int):=by
 have h0:0<aw (fC t r) t.hs.length:=rK.2 ⟨k,hk,hp⟩
 obtain⟨j,h1,h2,h3⟩:=GY h0
 refine⟨j,h1,h3,?_,h2⟩
 unfold N4
 rw[aW h]
 show Iq (fC t r) t.hs.length (rG t.rs r).h=_
 unfold Iq
 rw[aC h0,h2]
theorem CKP.lz{t:Tp}(ht:CKP t):CKP (lz t):=by
 have hl:=oU t
 have hR:∀r:Nat,r<t.rs.length→rG (Tl.lz t).rs r=N4 t r:=fun r h=>IW t h
 have halo:∀(v:Int) (r:Nat),r<t.rs.length→B6 (Tl.lz t) v r=B6 t v r:=fun v r hr=>by
  unfold B6
  rw[hR r hr,Rp]
  by_cases h:(rG t.rs r).h=-1
  ·rw[Rq t h]
  ·rcases ht.rr r hr with⟨h1,_⟩ | ⟨h1,h2,h3,_⟩
   ·exact absurd h1 h
   ·obtain⟨k,hk⟩:∃k:Nat,(rG t.rs r).h=(k:Int):=⟨(rG t.rs r).h.toNat,by omega⟩
    obtain⟨j,_,_,h5,_⟩:=Rr t h (k:=k) (by omega) (by unfold fC;rw[←hk];exact aR h3)
    have e1:decide ((N4 t r).h=-1)=false:=aW (by omega)
    have e2:decide ((rG t.rs r).h=-1)=false:=aW h
    rw[e1,e2]
 have hsz:Sz (Tl.lz t):=⟨ht.n,ht.e,ht.V0,ht.V1,ht.F0,ht.F1,by rw[hl];exact ht.R⟩
 exact { hsz with
  b1:=fun k hk=>by
   have:=ht.b1 k hk
   rw[iS] at this ⊢
   rw[hl];exact this
  b2:=fun k hk=>ht.b2 k hk
  rc:=fun r hr=>by
   rw[hl] at hr
   rw[hR r hr,Ly];exact ht.rc r hr
  rr:=fun r hr=>by
   rw[hl] at hr
   rw[hR r hr,Rp]
   rcases ht.rr r hr with⟨h1,h2⟩ | ⟨h1,h2,h3,h4,h5⟩
   ·exact .inl ⟨by rw[Rq t h1];exact h1,h2⟩
   ·obtain⟨k,hk⟩:∃k:Nat,(rG t.rs r).h=(k:Int):=⟨(rG t.rs r).h.toNat,by omega⟩
    obtain⟨j,h6,h7,h8,_⟩:=Rr t (r:=r) (by omega) (k:=k) (by omega) (by unfold fC;rw[←hk];exact aR h3)
    refine .inr ⟨by omega,?_,?_,h4,h5⟩
    ·rw[h8];show (j:Int)<(t.hs.length:Int);omega
    ·rw[h8];exact bI h7
  fc:=fun f hf=>by
   obtain⟨j,h1,h2⟩:=ht.fc f hf
   exact⟨j,by rw[hl];exact h1,by rw[hR j h1,Ly];exact h2⟩
  vv:=fun v hv=>by
   rcases ht.vv v hv with⟨h1,h2⟩ | ⟨h1,h2⟩
   ·exact .inl ⟨by rw[hl,Hg fun r hr=>halo v r hr];exact h1,h2⟩
   ·exact .inr ⟨fun r hr=>by rw[hl] at hr;rw[halo v r hr];exact h1 r hr,h2⟩ }
def kR(t:Tp)(r h:Nat):Tp:=⟨t.V+1,t.F,sN (sP (t.hs++[Hf.mk (hG t.hs h).f ((t.hs.length+1:Nat):Int) (pv t h:Nat) (r:Int),Hf.mk t.V (h:Int) (t.hs.length:Int) (r:Int)]) h ((t.hs.length+1:Nat):Int)) (pv t h) (t.hs.length:Int),t.rs⟩
theorem tU(t:Tp)(r h:Nat):(kR t r h).hs.length=t.hs.length+2:=by simp[kR]
theorem lD{t:Tp}(ht:Hok t){r h:Nat}(hh:h<t.hs.length){j:Nat}(hj:j<t.hs.length):hG (kR t r h).hs j=⟨(hG t.hs j).f,if pv t h=j then (t.hs.length:Int) else (hG t.hs j).n,if h=j then ((t.hs.length+1:Nat):Int) else (hG t.hs j).p,(hG t.hs j).r⟩:=by
 have hp:=ht.aj hh
 unfold kR
 simp only[]
 rw[VV (by simp;omega),VW (by simp;omega),fV hj]
 by_cases e1:pv t h=j
 ·by_cases e2:h=j
  ·simp only[aC e1,aC e2]
  ·simp only[aC e1,aA e2]
 ·by_cases e2:h=j
  ·simp only[aA e1,aC e2]
  ·simp only[aA e1,aA e2]
theorem rE{t:Tp}(ht:Hok t){r h:Nat}(hh:h<t.hs.length):hG (kR t r h).hs (t.hs.length:Nat)=⟨(hG t.hs h).f,((t.hs.length+1:Nat):Int),(pv t h:Nat),(r:Int)⟩:=by
 have hp:=ht.aj hh
 unfold kR
 simp only[]
 rw[VV (by simp;omega),aA (by omega),VW (by simp;omega),aA (by omega),oH]
theorem vQ{t:Tp}(ht:Hok t){r h:Nat}(hh:h<t.hs.length):hG (kR t r h).hs ((t.hs.length+1:Nat):Int)=⟨t.V,(h:Int),(t.hs.length:Int),(r:Int)⟩:=by
 have hp:=ht.aj hh
 unfold kR
 simp only[]
 rw[VV (by simp;omega),aA (by omega),VW (by simp;omega),aA (by omega),oJ]
theorem Eh{t:Tp}(ht:Hok t){r h:Nat}(hh:h<t.hs.length){j:Nat}(hj:j<t.hs.length):nx (kR t r h) j=if pv t h=j then t.hs.length else nx t j:=by
 unfold nx;rw[lD ht hh hj]
 by_cases e:pv t h=j
 ·simp only[aC e,nO]
 ·simp only[aA e]
theorem Qf{t:Tp}(ht:Hok t){r h:Nat}(hh:h<t.hs.length){j:Nat}(hj:j<t.hs.length):pv (kR t r h) j=if h=j then t.hs.length+1 else pv t j:=by
 unfold pv;rw[lD ht hh hj]
 by_cases e:h=j
 ·simp only[aC e,nO]
 ·simp only[aA e]
theorem Lz{t:Tp}(ht:Hok t){r h:Nat}(hh:h<t.hs.length):nx (kR t r h) t.hs.length=t.hs.length+1:=by unfold nx;rw[rE ht hh];rfl
theorem Ma{t:Tp}(ht:Hok t){r h:Nat}(hh:h<t.hs.length):nx (kR t r h) (t.hs.length+1)=h:=by unfold nx;rw[vQ ht hh];rfl
theorem Mb{t:Tp}(ht:Hok t){r h:Nat}(hh:h<t.hs.length):pv (kR t r h) t.hs.length=pv t h:=by
 unfold pv;rw[rE ht hh];rfl
theorem Mc{t:Tp}(ht:Hok t){r h:Nat}(hh:h<t.hs.length):pv (kR t r h) (t.hs.length+1)=t.hs.length:=by unfold pv;rw[vQ ht hh];rfl
theorem Ei{n:Nat}(h:n%2=0):mt n=n+1:=by have:=kP n;have:=mZ n;omega
theorem Md{n:Nat}(h:n%2=0):mt (n+1)=n:=by have:=kP (n+1);have:=mZ (n+1);omega
theorem YR{t:Tp}(ht:Hok t){r h:Nat}(hh:h<t.hs.length)(hr:fC t r h=true)(ho:bu (nx t) t.hs.length (fC t r)):bu (nx (kR t r h)) (t.hs.length+2) (fC (kR t r h) r):=by
 have hp:=ht.aj hh
 have hpr:fC t r (pv t h)=true:=by
  have:=ht.rg hp
  rw[ht.np hh] at this
  unfold fC at *;rw[←this];exact hr
 have h1:bu (fun y=>if y=pv t h then t.hs.length else if y=t.hs.length then h else nx t y) (t.hs.length+1) (fun y=>decide (y=t.hs.length)||fC t r y&&decide (y<t.hs.length)):=by
  refine ho.ins (x:=pv t h) (a:=t.hs.length) hp hpr (gB _) (by simp) ?_ ?_ ?_
  ·rw[aA (by omega),aC rfl,ht.np hh]
  ·intro y hy _ hne;rw[aA hne,aA (by omega)]
  ·intro y;simp only[oB,cS,bE]
   constructor
   ·rintro ⟨_,h | ⟨h,h2⟩⟩
    ·exact .inr h
    ·exact .inl ⟨h2,h⟩
   ·rintro (⟨h,h2⟩ | h)
    ·exact⟨by omega,.inr ⟨h2,h⟩⟩
    ·exact⟨by omega,.inl h⟩
 refine h1.ins (x:=t.hs.length) (a:=t.hs.length+1) (by omega) (by simp) (gB _) (Lz ht hh) ?_ ?_ ?_
 ·rw[Ma ht hh];simp only[eY];rw[aA (by omega)]
 ·intro y hy hyp hne
  have hyl:y<t.hs.length:=by omega
  rw[Eh ht hh hyl,aA (show ¬y=t.hs.length by omega)]
  by_cases e:pv t h=y
  ·rw[aC e,aC e.symm]
  ·rw[aA e,aA fun e2=>e e2.symm]
 ·intro y
  simp only[oB,cS,bE]
  constructor
  ·rintro ⟨hy,hyp⟩
   by_cases e1:y<t.hs.length
   ·have:fC t r y=true:=by unfold fC at *;rw[lD ht hh e1] at hyp;exact hyp
    exact .inl ⟨by omega,.inr ⟨this,e1⟩⟩
   ·by_cases e2:y=t.hs.length
    ·exact .inl ⟨by omega,.inl e2⟩
    ·exact .inr (by omega)
  ·rintro (⟨_,h2 | ⟨h2,h3⟩⟩ | h2)
   ·subst h2
    exact⟨by omega,by unfold fC;rw[rE ht hh];exact aR rfl⟩
   ·refine⟨by omega,?_⟩
    unfold fC at *;rw[lD ht hh h3];exact h2
   ·subst h2
    exact⟨by omega,by unfold fC;rw[vQ ht hh];exact aR rfl⟩
theorem YS{t:Tp}(ht:Hok t){r h:Nat}(hh:h<t.hs.length)(hr:fC t r h=true)(hrl:r<t.rs.length)(hn:t.hs.length+2≤256)(hV:t.V+1≤257):Hok (kR t r h):=by
 have hp:=ht.aj hh
 have hr':(hG t.hs h).r=(r:Int):=bI hr
 have hl:=tU t r h
 have hV0:=ht.V0
 have he:=ht.e
 obtain⟨⟨f1,f2⟩,_⟩:=iS.1 (ht.b1 h hh)
 have hsz:Sz (kR t r h):=⟨by rw[hl];exact hn,by rw[hl];omega,by show 1≤t.V+1;omega,hV,ht.F0,ht.F1,ht.R⟩
 have hVe:(kR t r h).V=t.V+1:=rfl
 have hRe:(kR t r h).rs=t.rs:=rfl
 have hpr:(hG t.hs (pv t h:Nat)).r=(r:Int):=by
  have:=ht.rg hp
  rw[ht.np hh] at this
  rw[←this];exact hr'
 exact { hsz with
  b1:=fun k hk=>by
   rw[hl] at hk
   rw[iS,hl,hVe,hRe]
   by_cases e1:k<t.hs.length
   ·obtain⟨a1,a2,a3,a4⟩:=iS.1 (ht.b1 k e1)
    rw[lD ht hh e1]
    simp only[]
    refine⟨by omega,?_,?_,a4⟩
    ·by_cases e:pv t h=k
     ·rw[aC e];omega
     ·rw[aA e];omega
    ·by_cases e:h=k
     ·rw[aC e];omega
     ·rw[aA e];omega
   ·by_cases e2:k=t.hs.length
    ·subst e2
     rw[rE ht hh]
     simp only[]
     omega
    ·have e3:k=t.hs.length+1:=by omega
     subst e3
     rw[vQ ht hh]
     simp only[]
     omega
  b2:=fun k hk=>by
   rw[hl] at hk
   rw[LY]
   by_cases e1:k<t.hs.length
   ·have hx:=lD (r:=r) ht hh e1
    have hnl:=ht.bf e1
    have hpl:=ht.aj e1
    have hni:=ht.bg e1
    have hpi:=ht.br e1
    have hm:=kQ he e1
    have hmx:=lD (r:=r) ht hh hm
    rw[hx]
    simp only[]
    refine⟨?_,?_,?_,?_⟩
    ·by_cases e:pv t h=k
     ·rw[aC e,rE ht hh];simp only[e]
     ·rw[aA e,hni,lD ht hh hnl]
      have hne:h≠nx t k:=fun e2=>e (by rw[e2,ht.pn e1])
      simp only[aA hne]
      rw[ht.br hnl,ht.pn e1]
    ·by_cases e:h=k
     ·subst e;rw[aC rfl,vQ ht hh]
     ·rw[aA e,hpi,lD ht hh hpl]
      have hne:pv t h≠pv t k:=fun e2=>e (by rw[←ht.np hh,e2,ht.np e1])
      simp only[aA hne]
      rw[ht.bg hpl,ht.np e1]
    ·by_cases e:pv t h=k
     ·rw[aC e,rE ht hh];simp only[];rw[←e,hpr]
     ·rw[aA e,hni,lD ht hh hnl]
      exact ht.rg e1
    ·rw[hmx]
     by_cases e:pv t h=k
     ·rw[aC e,rE ht hh]
      simp only[]
      have:=ht.fr hp
      rw[ht.np hh,e] at this;exact this
     ·rw[aA e,hni,lD ht hh hnl]
      exact ht.fr e1
   ·by_cases e2:k=t.hs.length
    ·subst e2
     rw[rE ht hh]
     simp only[]
     rw[vQ ht hh,lD ht hh hp,Ei he,vQ ht hh]
     simp only[eY]
     refine⟨?_,?_,?_,?_⟩ <;> first | trivial | assumption
    ·have e3:k=t.hs.length+1:=by omega
     subst e3
     rw[vQ ht hh]
     simp only[]
     rw[lD ht hh hh,rE ht hh,Md he,rE ht hh]
     simp only[eY]
     refine⟨?_,?_,?_,?_⟩ <;> first | trivial | assumption }
theorem Q1{t:Tp}(ht:CKP t){r h:Nat}(hh:h<t.hs.length)(hr:fC t r h=true)(hrl:r<t.rs.length)(hn:t.hs.length+2≤256)(hV:t.V+1≤257):CKP (kR t r h):=by
 have hk:=ht.toHok
 have hk':=YS hk hh hr hrl hn hV
 have hl:=tU t r h
 have he:=ht.e
 have hr':(hG t.hs h).r=(r:Int):=bI hr
 have hV0:=ht.V0
 have hRe:(kR t r h).rs=t.rs:=rfl
 have halo:∀v s,B6 (kR t r h) v s=B6 t v s:=fun _ _=>rfl
 obtain⟨⟨f1,f2⟩,_⟩:=iS.1 (ht.b1 h hh)
 have hp:=hk.aj hh
 have hinR:∀(s:Int) (y:Nat),y<t.hs.length→fC (kR t r h) s y=fC t s y:=fun s y hy=>by unfold fC;rw[lD hk hh hy]
 have hvof:∀(s:Int) (y:Nat),y<t.hs.length→nJ (kR t r h) s y=nJ t s y:=fun s y hy=>by unfold nJ;rw[lD hk hh hy]
 have ha:∀s:Int,fC (kR t r h) s t.hs.length=decide ((r:Int)=s):=fun s=>by unfold fC;rw[rE hk hh]
 have hb:∀s:Int,fC (kR t r h) s (t.hs.length+1)=decide ((r:Int)=s):=fun s=>by unfold fC;rw[vQ hk hh]
 have va:∀s:Int,nJ (kR t r h) s t.hs.length=decide ((hG t.hs h).f=s):=fun s=>by unfold nJ;rw[rE hk hh]
 have vb:∀s:Int,nJ (kR t r h) s (t.hs.length+1)=decide (t.V=s):=fun s=>by unfold nJ;rw[vQ hk hh]
 have sga:sg (kR t r h) t.hs.length=sg t h:=by unfold sg;rw[Mb hk hh]
 have sgb:sg (kR t r h) (t.hs.length+1)=t.hs.length+1:=by unfold sg;rw[Mc hk hh,Ei he]
 have sgl:∀y,y<t.hs.length→sg (kR t r h) y=if h=y then t.hs.length else sg t y:=fun y hy=>by
  unfold sg;rw[Qf hk hh hy]
  by_cases e:h=y
  ·rw[aC e,aC e,Md he]
  ·rw[aA e,aA e]
 exact { hk' with
  rc:=ht.rc
  rr:=fun s hs=>by
   rw[hRe] at hs
   rw[hRe,hl]
   rcases ht.rr s hs with⟨h1,h2,h3,h4⟩ | ⟨h1,h2,h3,h4,h5⟩
   ·have hne:(r:Int)≠(s:Int):=fun e=>by
     have:=h4 h hh
     rw[←e,hr] at this;cases this
    refine .inl ⟨h1,h2,by show _<t.V+1;omega,fun k hk2=>?_⟩
    by_cases e1:k<t.hs.length
    ·rw[hinR _ _ e1];exact h4 k e1
    ·by_cases e2:k=t.hs.length
     ·rw[e2,ha];exact aW hne
     ·have e3:k=t.hs.length+1:=by omega
      rw[e3,hb];exact aW hne
   ·obtain⟨k,hk2⟩:∃k:Nat,(rG t.rs s).h=(k:Int):=⟨(rG t.rs s).h.toNat,by omega⟩
    have hkl:k<t.hs.length:=by omega
    refine .inr ⟨h1,by omega,?_,h4,?_⟩
    ·rw[hk2] at h3 ⊢;rw[lD hk hh hkl];exact h3
    ·by_cases e:s=r
     ·subst e;exact YR hk hh hr h5
     ·refine h5.ext ?_ ?_
      ·intro y hy hyp
       rw[Eh hk hh hy,aA]
       intro e2
       subst e2
       have h6:=hk.rg hp
       rw[hk.np hh,hr'] at h6
       have h7:=bI hyp
       omega
      ·intro y
       constructor
       ·rintro ⟨h6,h7⟩
        by_cases e1:y<t.hs.length
        ·rw[hinR _ _ e1] at h7;exact⟨e1,h7⟩
        ·by_cases e2:y=t.hs.length
         ·rw[e2,ha] at h7;have:=bI h7;omega
         ·have e3:y=t.hs.length+1:=by omega
          rw[e3,hb] at h7;have:=bI h7;omega
       ·rintro ⟨h6,h7⟩
        exact⟨by omega,by rw[hinR _ _ h6];exact h7⟩
  fc:=ht.fc
  vv:=fun v hv=>by
   have hv':v<(t.V+1).toNat:=hv
   rw[hl,hRe]
   by_cases ev:v<t.V.toNat
   ·rcases ht.vv v ev with⟨h1,h2⟩ | ⟨h1,h2⟩
    ·refine .inl ⟨h1,fun k hk2=>?_⟩
     by_cases e1:k<t.hs.length
     ·rw[hvof _ _ e1];exact h2 k e1
     ·by_cases e2:k=t.hs.length
      ·rw[e2,va]
       have:=h2 h hh
       exact this
      ·have e3:k=t.hs.length+1:=by omega
       rw[e3,vb];exact aW (by omega)
    ·refine .inr ⟨h1,?_⟩
     by_cases e:(hG t.hs h).f=(v:Int)
     ·refine h2.ins (x:=h) (a:=t.hs.length) hh (aR e) (gB _) (by rw[sgl h hh,aC rfl]) sga ?_ ?_
      ·intro y hy _ hne;rw[sgl y hy,aA fun e2=>hne e2.symm]
      ·intro y
       constructor
       ·rintro ⟨h6,h7⟩
        by_cases e1:y<t.hs.length
        ·rw[hvof _ _ e1] at h7;exact .inl ⟨e1,h7⟩
        ·by_cases e2:y=t.hs.length
         ·exact .inr e2
         ·have e3:y=t.hs.length+1:=by omega
          rw[e3,vb] at h7;have:=bI h7;omega
       ·rintro (⟨h6,h7⟩ | h6)
        ·exact⟨by omega,by rw[hvof _ _ h6];exact h7⟩
        ·exact⟨by omega,by rw[h6,va];exact aR e⟩
     ·refine h2.ext ?_ ?_
      ·intro y hy hyp
       rw[sgl y hy,aA]
       intro e2;subst e2;exact e (bI hyp)
      ·intro y
       constructor
       ·rintro ⟨h6,h7⟩
        by_cases e1:y<t.hs.length
        ·rw[hvof _ _ e1] at h7;exact⟨e1,h7⟩
        ·by_cases e2:y=t.hs.length
         ·rw[e2,va] at h7;exact absurd (bI h7) e
         ·have e3:y=t.hs.length+1:=by omega
          rw[e3,vb] at h7;have:=bI h7;omega
       ·rintro ⟨h6,h7⟩
        exact⟨by omega,by rw[hvof _ _ h6];exact h7⟩
   ·have ev2:(v:Int)=t.V:=by omega
    refine .inr ⟨fun s hs=>?_,bu.one sgb fun y=>?_⟩
    ·unfold B6
     cases h1:decide ((rG t.rs s).h=-1) with
     | false=>show (decide ((rG (kR t r h).rs s).h=-1)&&_)=false;rw[hRe,h1];rfl
     | true=>
      have h1':=bI h1
      rcases ht.rr s hs with⟨_,h2,h3,_⟩ | ⟨h2,_⟩
      ·show (decide ((rG (kR t r h).rs s).h=-1)&&decide ((rG (kR t r h).rs s).v=v))=false
       rw[hRe,h1]
       have:decide ((rG t.rs s).v=(v:Int))=false:=aW (by omega)
       rw[this];rfl
      ·omega
    ·constructor
     ·rintro ⟨h6,h7⟩
      by_cases e1:y<t.hs.length
      ·rw[hvof _ _ e1] at h7
       have:=bI h7
       obtain⟨⟨_,h8⟩,_⟩:=iS.1 (ht.b1 y e1)
       omega
      ·by_cases e2:y=t.hs.length
       ·rw[e2,va] at h7;have:=bI h7;omega
       ·omega
     ·intro e;subst e
      exact⟨by omega,by rw[vb];exact aR ev2.symm⟩ }
def yE(t:Tp)(e:Int):Int×Int×List T×List T×Int×Unit:=(t.V,t.F,t.hs.map tH,t.rs.map tR,e,())
theorem bF{l:List Hf}{a b j:Nat}(ha:a<l.length)(hb:b<l.length):hG (lk l a b) j=⟨(hG l j).f,if a=j then (b:Int) else (hG l j).n,if b=j then (a:Int) else (hG l j).p,(hG l j).r⟩:=by
 unfold lk
 rw[VW (by simpa using hb),VV ha]
 by_cases e1:b=j
 ·by_cases e2:a=j
  ·simp only[aC e1,aC e2]
  ·simp only[aC e1,aA e2]
 ·by_cases e2:a=j
  ·simp only[aA e1,aC e2]
  ·simp only[aA e1,aA e2]
theorem YT{s t:Tp}(hV:s.V=t.V)(hF:s.F=t.F)(hh:s.hs=t.hs)(hl:s.rs.length=t.rs.length)(h:∀i,i<t.rs.length→N4 s i=N4 t i):lz s=lz t:=by
 have hr:(lz s).rs=(lz t).rs:=by
  refine L5 (by rw[oU,oU,hl]) fun j hj=>?_
  rw[oU] at hj
  rw[IW s hj,IW t (by omega),h j (by omega)]
 have e1:lz s=⟨s.V,s.F,s.hs,(lz s).rs⟩:=rfl
 have e2:lz t=⟨t.V,t.F,t.hs,(lz t).rs⟩:=rfl
 rw[e1,e2,hV,hF,hh,hr]
theorem Xd{h:Int}:decide (h=-1)=true↔h=-1:=ZZ
theorem bM{t:Tp}(h:CKP t):eX (t.V,t.F,t.hs.map tH,t.rs.map tR,())=some (true,()):=by
 have:=QZ t;rw[G1.2 h] at this;exact this
theorem bN{t:Tp}(h:CKP t):cE (t.V,t.F,t.hs.map tH,t.rs.map tR,())=some (true,()):=by
 have:=J3 t;rw[G1.2 h] at this;exact this
theorem mH{t:Tp}(h:Sz t):dZ (t.V,t.F,t.hs.map tH,t.rs.map tR,())=some (t.V,t.F,t.hs.map tH,t.rs.map tR,()):=Tv (by have:=h.n;omega) (by have:=h.R;omega)
theorem DH{t:Tp}(ht:Sz t):dO (t.V,t.F,t.hs.map tH,t.rs.map tR,(2:Int),(1:Int),(0:Int),(0:Int),())=some (gQ t 2 1 0 0,()):=FM ht (by decide) (by decide) (by decide) (by decide)
theorem wZ{V F:Int}{hs:List Hf}{rs:List Rg}(hn:hs.length≤1000){x r:Nat}{m:List Nat}(hc:bz (nx ⟨V,F,hs,rs⟩) x m)(hb:∀y∈x::m,y<hs.length)(hi:∀y∈x::m,(hG hs y).n=(nx ⟨V,F,hs,rs⟩ y:Int))(hr:r<rs.length):
 cP (V,F,hs.map tH,rs.map tR,(x:Int),(r:Int),())=some ((lC ⟨V,F,hs,rs⟩ x m r).hs.map tH,(lC ⟨V,F,hs,rs⟩ x m r).rs.map tR,()):=Lw (t:=⟨V,F,hs,rs⟩) hn hc hb hi hr
theorem FO{V F:Int}{hs:List Hf}{rs:List Rg}(hn:hs.length≤1000)(hR:rs.length≤1000):cQ (V,F,hs.map tH,rs.map tR,())=some (oF (lz ⟨V,F,hs,rs⟩)):=Eg (t:=⟨V,F,hs,rs⟩) hn hR
def ZC(t:Tp)(x:Int):List Hf:=t.hs++[Hf.mk x 0 0 0,Hf.mk t.V 0 0 0]
def TS(t:Tp)(h:Nat):List Hf:=lk (lk (lk (ZC t (hG t.hs h).f) t.hs.length (t.hs.length+1)) (pv t h) t.hs.length) (t.hs.length+1) h
theorem Ej(t:Tp)(x:Int):(ZC t x).length=t.hs.length+2:=by simp[ZC]
theorem Qg(t:Tp)(h:Nat):(TS t h).length=t.hs.length+2:=by simp[TS,ZC]
theorem VX{t:Tp}(ht:Hok t)(r:Nat){h:Nat}(hh:h<t.hs.length){y:Nat}(hy:y<t.hs.length+2):hG (TS t h) y={ hG (kR t r h).hs y with r:=if y<t.hs.length then (hG t.hs y).r else 0 }:=by
 have hp:=ht.aj hh
 have hl:(ZC t (hG t.hs h).f).length=t.hs.length+2:=Ej _ _
 unfold TS
 rw[bF (by simp only[aG,hl];omega) (by simp only[aG,hl];omega),bF (by simp only[aG,hl];omega) (by simp only[aG,hl];omega),bF (by omega) (by omega)]
 by_cases e1:y<t.hs.length
 ·have hg:hG (ZC t (hG t.hs h).f) y=hG t.hs y:=fV e1
  rw[lD ht hh e1,hg]
  simp only[aC e1,aA (show ¬t.hs.length+1=y by omega),aA (show ¬t.hs.length=y by omega)]
 ·by_cases e2:y=t.hs.length
  ·subst e2
   have hg:hG (ZC t (hG t.hs h).f) (t.hs.length:Nat)=⟨(hG t.hs h).f,0,0,0⟩:=oH
   rw[rE ht hh,hg]
   simp only[aA e1,aA (show ¬t.hs.length+1=t.hs.length by omega),aA (show ¬pv t h=t.hs.length by omega),aA (show ¬h=t.hs.length by omega),eY]
  ·have e3:y=t.hs.length+1:=by omega
   subst e3
   have hg:hG (ZC t (hG t.hs h).f) ((t.hs.length+1:Nat):Int)=⟨t.V,0,0,0⟩:=oJ
   rw[vQ ht hh,hg]
   simp only[aA e1,aA (show ¬t.hs.length=t.hs.length+1 by omega),aA (show ¬pv t h=t.hs.length+1 by omega),aA (show ¬h=t.hs.length+1 by omega),eY]
theorem L6{t:Tp}(ht:CKP t){r:Nat}(hr:r<t.rs.length){h:Nat}(hh:h<t.hs.length)(cn:fC t r h=true):0≤(rG t.rs r).h∧(rG t.rs r).h<t.hs.length∧(hG t.hs (rG t.rs r).h).r=r∧(rG t.rs r).v=-1∧bu (nx t) t.hs.length (fC t r):=by
 rcases ht.rr r hr with⟨_,_,_,h4⟩ | h
 ·rw[h4 h hh] at cn;cases cn
 ·exact h
theorem Me{t:Tp}(ht:CKP t){r h:Nat}(hr:r<t.rs.length)(hh:h<t.hs.length)(cn:fC t r h=true)(hn:t.hs.length+2≤256)(hV:t.V+1≤257):
 gS (t.V,t.F,t.hs.map tH,t.rs.map tR,(r:Int),(h:Int),())=some (yE (lz (kR t r h)) 0):=by
 have hk:=ht.toHok
 have hz:=hk.toSz
 have hV0:=ht.V0
 have hF0:=ht.F0
 have hF1:=ht.F1
 have hR:=ht.R
 have hp:=hk.aj hh
 obtain⟨c1,c2,c3,c4,ho⟩:=L6 ht hr hh cn
 have hro:gQ t 2 1 0 0=true:=by
  unfold gQ
  simp only[cS,bE]
  omega
 have hi1:rD (r:Int) (t.rs.length:Int)=true:=bZ.2 ⟨by omega,by omega⟩
 have hi2:rD (h:Int) (t.hs.length:Int)=true:=bZ.2 ⟨by omega,by omega⟩
 have d1:decide ((h:Int)=-1)=false:=aW (by omega)
 have d2:decide ((rG t.rs r).h=-1)=false:=aW (by omega)
 have d3:decide ((hG t.hs h).r=(r:Int))=true:=cn
 have hwV:wr .i64 (t.V+1)=t.V+1:=fQ (by omega) (by omega)
 have hl1:=Ej t (hG t.hs h).f
 have hl4:=Qg t h
 obtain⟨m,hm,cj⟩:=(YR hk hh cn ho).at (a:=t.hs.length) (by omega) (by unfold fC;rw[rE hk hh];exact aR rfl)
 have hnx:∀y,y<t.hs.length+2→nx ⟨t.V+1,t.F,TS t h,t.rs⟩ y=nx (kR t r h) y:=fun y hy=>by
  unfold nx;simp only[];rw[VX hk r hh hy]
 have hc4:bz (nx ⟨t.V+1,t.F,TS t h,t.rs⟩) t.hs.length m:=hm.ext fun y hy=>(hnx y ((cj y).1 hy).1).symm
 have hb4:∀y∈t.hs.length::m,y<(TS t h).length:=fun y hy=>by rw[hl4];exact((cj y).1 hy).1
 have hmk:=YS hk hh cn hr hn hV
 have hi4:∀y∈t.hs.length::m,(hG (TS t h) y).n=(nx ⟨t.V+1,t.F,TS t h,t.rs⟩ y:Int):=fun y hy=>by
  have hyl:=((cj y).1 hy).1
  rw[hnx y hyl,VX hk r hh hyl]
  exact hmk.bg (by rw[tU];exact hyl)
 have hset:=wZ (V:=t.V+1) (F:=t.F) (rs:=t.rs) (by omega) hc4 hb4 hi4 hr
 have hfin:lz (lC ⟨t.V+1,t.F,TS t h,t.rs⟩ t.hs.length m r)=lz (kR t r h):=by
  have hse:(lC ⟨t.V+1,t.F,TS t h,t.rs⟩ t.hs.length m r).hs=(kR t r h).hs:=by
   refine AO ?_ fun j hj=>?_
   ·show (au _ _ _).length=_
    rw[cO,hl4,tU]
   ·have hj':j<t.hs.length+2:=by
     have:(lC ⟨t.V+1,t.F,TS t h,t.rs⟩ t.hs.length m r).hs.length=t.hs.length+2:=by show (au _ _ _).length=_;rw[cO,hl4]
     omega
    show hG (au _ _ _) j=_
    rw[eM _ _ _ _ hb4,VX hk r hh hj']
    by_cases e1:j∈t.hs.length::m
    ·rw[aC e1]
     have h5:=bI ((cj j).1 e1).2
     generalize hG (kR t r h).hs j=z at h5
     cases z;simp only[] at h5 ⊢;rw[h5]
    ·rw[aA e1]
     have e2:j<t.hs.length:=by
      by_cases e3:j<t.hs.length
      ·exact e3
      ·exfalso;apply e1
       refine(cj j).2 ⟨hj',?_⟩
       by_cases e4:j=t.hs.length
       ·subst e4;unfold fC;rw[rE hk hh];exact aR rfl
       ·have e5:j=t.hs.length+1:=by omega
        subst e5;unfold fC;rw[vQ hk hh];exact aR rfl
     simp only[aC e2]
     rw[lD hk hh e2]
  have hsr:(lC ⟨t.V+1,t.F,TS t h,t.rs⟩ t.hs.length m r).rs=t.rs.set r { rG t.rs r with h:=((t.hs.length:Nat):Int),v:=-1 }:=rfl
  refine YT rfl rfl hse (by rw[hsr,dP];rfl) fun i hi=>?_
  have hil:i<t.rs.length:=hi
  have hP:fC (lC ⟨t.V+1,t.F,TS t h,t.rs⟩ t.hs.length m r) (i:Int)=fC (kR t r h) (i:Int):=by funext k;unfold fC;rw[hse]
  have hm1:0<aw (fC (kR t r h) (r:Int)) (kR t r h).hs.length:=rK.2 ⟨t.hs.length,by rw[tU];omega,by unfold fC;rw[rE hk hh];exact aR rfl⟩
  unfold N4
  rw[hP,hse,hsr,jE hr]
  have hrs:(kR t r h).rs=t.rs:=rfl
  rw[hrs]
  by_cases e:r=i
  ·subst e
   rw[aC rfl]
   have d4:decide (((t.hs.length:Nat):Int)=-1)=false:=aW (by omega)
   simp only[d4,d2,aK]
   unfold Iq
   simp only[aC hm1,c4]
  ·simp only[aA e]
 unfold gS
 have hL1:t.hs++[Hf.mk (hG t.hs h).f 0 0 0,Hf.mk t.V 0 0 0]=ZC t (hG t.hs h).f:=rfl
 have hk1:=wY (V:=t.V+1) (F:=t.F) (rs:=t.rs.map tR) (hs:=ZC t (hG t.hs h).f) (a:=t.hs.length) (b:=t.hs.length+1) (by omega) (by omega)
 have hg2:hG (lk (ZC t (hG t.hs h).f) t.hs.length (t.hs.length+1)) h=hG t.hs h:=by
  rw[bF (by omega) (by omega),aA (by omega),aA (by omega)]
  have:hG (ZC t (hG t.hs h).f) h=hG t.hs h:=fV hh
  rw[this]
 have hk2:=wY (V:=t.V+1) (F:=t.F) (rs:=t.rs.map tR) (hs:=lk (ZC t (hG t.hs h).f) t.hs.length (t.hs.length+1)) (a:=pv t h) (b:=t.hs.length) (by simp only[aG];omega) (by simp only[aG];omega)
 have hk3:=wY (V:=t.V+1) (F:=t.F) (rs:=t.rs.map tR) (hs:=lk (lk (ZC t (hG t.hs h).f) t.hs.length (t.hs.length+1)) (pv t h) t.hs.length) (a:=t.hs.length+1) (b:=h) (by simp only[aG];omega) (by simp only[aG];omega)
 have hL4:lk (lk (lk (ZC t (hG t.hs h).f) t.hs.length (t.hs.length+1)) (pv t h) t.hs.length) (t.hs.length+1) h=TS t h:=rfl
 simp only[bM ht,mH hz,DH hz,hro,fU,bL,bT,hi1,hi2,aH,d1,d2,d3,bD,bH,bW,aN,aK,iK (l:=t.rs) (i:=(r:Int)) (by omega) (by omega),eS (l:=t.hs) (i:=(h:Int)) (by omega) (by omega),zF,FH,jV,sO,aJ,PR,T9,aF (n:=(t.rs.length:Int)) (i:=r) (by omega),aF (n:=(t.hs.length:Int)) (i:=h) (by omega),aY,sF hr,gJ hh,bC,aS,hwV,FL (hs:=t.hs) (by omega),hL1,hk1,aG,hl1,aF (n:=((t.hs.length+2:Nat):Int)) (i:=h) (by omega),gJ (l:=lk (ZC t (hG t.hs h).f) t.hs.length (t.hs.length+1)) (k:=h) (by simp only[aG];omega),hg2,mG,hk.br hh,hk2,hk3,hL4,hset]
 have hls:=FO (V:=t.V+1) (F:=t.F) (hs:=(lC ⟨t.V+1,t.F,TS t h,t.rs⟩ t.hs.length m r).hs) (rs:=(lC ⟨t.V+1,t.F,TS t h,t.rs⟩ t.hs.length m r).rs) (by show (au (TS t h) _ _).length≤_;rw[cO];omega) (by show (t.rs.set _ _).length≤_;rw[dP];omega)
 rw[hls]
 simp only[bD]
 have hfin':lz ⟨t.V+1,t.F,(lC ⟨t.V+1,t.F,TS t h,t.rs⟩ t.hs.length m r).hs,(lC ⟨t.V+1,t.F,TS t h,t.rs⟩ t.hs.length m r).rs⟩=lz (kR t r h):=hfin
 rw[hfin']
 rfl
theorem Q2{R:Type}(a:Option R):P0 a a=a:=by unfold P0;rw[aC rfl]
theorem Mg{hs:List Hf}(hn:hs.length≤1000):eO (hs.map tH,())=some (hs.map tH,()):=by
 have hr:qE [] (hs.map tH) 32=some (hs.map tH):=by rw[rJ (by simp only[dM,wP];omega) (by decide)];rfl
 unfold eO
 simp only[hr,bD]
 cases h:R3 (hs.map tH) with
 | false=>rfl
 | true=>
  have:hs.map tH=[]:=by unfold R3 at h;exact K5.1 h
  rw[this]
  simp only[aN,Q2]
theorem Mh{rs:List Rg}(hn:rs.length≤1000):eP (rs.map tR,())=some (rs.map tR,()):=by
 have hr:qE [] (rs.map tR) 24=some (rs.map tR):=by rw[rJ (by simp only[dM,wP];omega) (by decide)];rfl
 unfold eP
 simp only[hr,bD]
 cases h:R3 (rs.map tR) with
 | false=>rfl
 | true=>
  have:rs.map tR=[]:=by unfold R3 at h;exact K5.1 h
  rw[this]
  simp only[aN,Q2]
theorem oV{t:Tp}(h:Sz t):cZ (t.V,t.F,t.hs.map tH,t.rs.map tR,())=some (t.V,t.F,t.hs.map tH,t.rs.map tR,()):=by
 have h1:=h.n
 have h2:=h.R
 unfold cZ wG
 simp only[Mg (hs:=t.hs) (by omega),Mh (rs:=t.rs) (by omega),bD]
theorem FP{V F:Int}{hs:List Hf}{rs:List T}{x y r s:Int}(hn:hs.length≤1000):
 bS ((),x,y,r,s,V,F,hs.map tH,rs,())=some ((hs.length:Int),((hs.length+1:Nat):Int),V,F,(hs++[Hf.mk x 0 0 r,Hf.mk y 0 0 s]).map tH,rs,()):=by
 have hr:qE (hs.map tH) [tH (Hf.mk x 0 0 r),tH (Hf.mk y 0 0 s)] 32=some ((hs++[Hf.mk x 0 0 r,Hf.mk y 0 0 s]).map tH):=by
  rw[rJ (by simp only[dM,oA,wP];omega) (by decide),DY];rfl
 unfold bS
 simp only[bT,aS,wk (k:=hs.length) (by omega)]
 have e:([T.agg [T.v (Value.int .i64 x),T.v (Value.int .i64 0),T.v (Value.int .i64 0),T.v (Value.int .i64 r)],T.agg [T.v (Value.int .i64 y),T.v (Value.int .i64 0),T.v (Value.int .i64 0),T.v (Value.int .i64 s)]]:List T)=[tH (Hf.mk x 0 0 r),tH (Hf.mk y 0 0 s)]:=rfl
 rw[e,hr]
 rfl
theorem xA{V F:Int}{hs:List Hf}{rs:List T}{a b:Nat}(ha:a<hs.length)(hb:b<hs.length):
 aB ((),(a:Int),(b:Int),V,F,hs.map tH,rs,())=some (V,F,(lk hs a b).map tH,rs,()):=by
 unfold aB
 simp only[bT,aF (n:=(hs.length:Int)) (i:=a) (by omega),bD,aY,gJ ha,bY,YN,BX,dP,aF (n:=(hs.length:Int)) (i:=b) (by omega)]
 have hg:((hs.set a { hG hs a with n:=(b:Int) }).map tH)[b]?=some (tH (hG (sN hs a b) b)):=gJ (by simpa using hb)
 simp only[hg,bD,YO,BX]
 rfl
theorem FQ{t:Tp}(ht:Sz t){a b c d:Nat}(ha:a≤2)(hb:b≤2)(hc:c≤2)(hd:d≤2):cC (t.V,t.F,t.hs.map tH,t.rs.map tR,(a:Int),(b:Int),(c:Int),(d:Int),())=some (gQ t a b d c,()):=by
 have h1:=ht.n
 have h2:=ht.V0
 have h3:=ht.V1
 have h4:=ht.F0
 have h5:=ht.F1
 have h6:=ht.R
 unfold cC gQ
 simp only[bT,bL,aS,gI,fQ (n:=(t.hs.length:Int)+a) (by omega) (by omega),fQ (n:=t.V+b) (by omega) (by omega),fQ (n:=t.F+d) (by omega) (by omega),fQ (n:=(t.rs.length:Int)+c) (by omega) (by omega)]
 cases decide ((t.hs.length:Int)+a≤256) <;> cases decide (t.V+b≤257) <;> cases decide (t.F+d≤257) <;> cases decide ((t.rs.length:Int)+c≤257) <;> rfl
theorem cN(V F:Int)(hs:List Hf)(rs:List T)(h:Int):eQ (V,F,hs.map tH,rs,h,())=some (rD h hs.length,()):=by
 unfold eQ;simp only[bT,bV,bD]
theorem bB(e:Int):aD (e,())=some (0,0,[],[],e,()):=rfl
def rF(x:Nat)(m:List Nat)(k:Nat):Nat:=(x::m).getD k 0
theorem FR{x:Nat}{m:List Nat}{k:Nat}(h:k<(x::m).length):(x::m)[k]=rF x m k:=by
 unfold rF;rw[jY,dH h];rfl
theorem lN{x:Nat}{m:List Nat}{k:Nat}(h:k<(x::m).length):rF x m k∈x::m:=by rw[←FR h];exact OL h
def A0(V F:Int)(hs:List Hf)(rs:List T)(last:Nat)(r:Int)(x:Nat)(m:List Nat)(k:Nat):Unit×Int×Int×Int×Int×Int×List T×List T×Unit:=((),(last:Int),r,(rF x m k:Int),V,F,(au hs ((x::m).take k) r).map tH,rs,())
theorem By(xs:List Nat)(r:Int)(l:List Hf)(j:Nat)(h:∀x∈xs,x<l.length):(hG (au l xs r) j).n=(hG l j).n:=by
 rw[eM xs r l j h]
 by_cases e:j∈xs
 ·rw[aC e]
 ·rw[aA e]
theorem FT{V F:Int}{hs:List Hf}{rs:List T}{r:Int}{x:Nat}{m:List Nat}(hn:(x::m).Nodup)(hb:∀y∈x::m,y<hs.length)(hch:∀k,k<m.length→(hG hs (rF x m k:Nat)).n=(rF x m (k+1):Nat)){last:Nat}(hlast:last=rF x m m.length):
 aV ((),(x:Int),(last:Int),r,V,F,hs.map tH,rs,())=some (V,F,(au hs (x::m) r).map tH,rs,()):=by
 have hstep:∀k,k<(x::m).length→(x::m).take (k+1)=(x::m).take k++[rF x m k]:=fun k hk=>by
  rw[UJ hk,FR hk]
 have hset:∀k,k<(x::m).length→au hs ((x::m).take (k+1)) r=sR (au hs ((x::m).take k) r) (rF x m k) r:=fun k hk=>by
  rw[hstep k hk];unfold au;rw[List.foldl_append];rfl
 have hinj:∀k,k<m.length→rF x m k≠rF x m m.length:=fun k hk e=>by
  have h1:=FR (x:=x) (m:=m) (k:=k) (by simp;omega)
  have h2:=FR (x:=x) (m:=m) (k:=m.length) (by simp)
  have h3:(x::m)[k]?=some (rF x m k):=by rw[dH (by simp;omega),h1]
  have h4:(x::m)[m.length]?=some (rF x m k):=by rw[dH (by simp),h2,e]
  have:=GM hn h3 h4
  omega
 have htake:∀k,∀y∈(x::m).take k,y<hs.length:=fun k y hy=>hb y (H5 hy)
 have hl:=bX (F:=fW) m.length (A0 V F hs rs last r x m) (fun k hk=>by
  have hkl:k<(x::m).length:=by simp;omega
  have hy:=hb _ (lN hkl)
  have hne:=hinj k hk
  have hd:decide (((rF x m k:Nat):Int)=(last:Int))=false:=aW (by rw[hlast];omega)
  have hnx:(hG (sR (au hs ((x::m).take k) r) (rF x m k) r) (rF x m k:Nat)).n=(rF x m (k+1):Nat):=by
   rw[←hset k hkl,By _ _ _ _ (htake _),hch k hk]
  unfold fW A0
  rw[hset k hkl]
  have hl2:(au hs ((x::m).take k) r).length=hs.length:=cO _ _ _
  generalize au hs ((x::m).take k) r=L at *
  have hg1:(L.map tH)[rF x m k]?=some (tH (hG L (rF x m k:Nat))):=gJ (by omega)
  have hsr:L.set (rF x m k) { hG L (rF x m k:Nat) with r:=r }=sR L (rF x m k) r:=rfl
  have hg2:((sR L (rF x m k) r).map tH)[rF x m k]?=some (tH (hG (sR L (rF x m k) r) (rF x m k:Nat))):=gJ (by rw[VU];omega)
  simp only[bT,hl2,aF (n:=(hs.length:Int)) (i:=rF x m k) (by omega),bD,aY,hg1,aH,hd,aK,bY,Hw,BX,hsr,VU,hg2,mY,hnx,aJ])
 have ho:fW (A0 V F hs rs last r x m m.length)=some (.inr (.inl (V,F,(au hs (x::m) r).map tH,rs,()))):=by
  have hkl:m.length<(x::m).length:=by simp
  have hy:=hb _ (lN hkl)
  have hd:decide (((rF x m m.length:Nat):Int)=(last:Int))=true:=aR (by rw[hlast])
  have hfull:au hs (x::m) r=sR (au hs ((x::m).take m.length) r) (rF x m m.length) r:=by
   rw[←hset m.length hkl,H6 (by simp)]
  unfold fW A0
  rw[hfull]
  have hl2:(au hs ((x::m).take m.length) r).length=hs.length:=cO _ _ _
  generalize au hs ((x::m).take m.length) r=L at *
  have hg1:(L.map tH)[rF x m m.length]?=some (tH (hG L (rF x m m.length:Nat))):=gJ (by omega)
  simp only[bT,hl2,aF (n:=(hs.length:Int)) (i:=rF x m m.length) (by omega),bD,aY,hg1,aH,hd,aN,bY,Hw,BX]
  rfl
 have e0:((),(last:Int),r,(x:Int),V,F,hs.map tH,rs,())=A0 V F hs rs last r x m 0:=rfl
 unfold aV
 simp only[]
 rw[e0,hl,bK ho]
 rfl
def Hy(t:Tp)(i:Nat):Rg:=bif decide ((rG t.rs i).v<0) then { rG t.rs i with h:=-1 } else rG t.rs i
def Hz(t:Tp):Nat→List Rg
 | 0=>t.rs
 | r+1=>(Hz t r).set r (Hy t r)
theorem G2(t:Tp)(r:Nat):(Hz t r).length=t.rs.length:=by
 induction r with
 | zero=>rfl
 | succ r ih=>simp[Hz,ih]
theorem VY(t:Tp){r:Nat}(hr:r≤t.rs.length)(i:Nat):rG (Hz t r) i=if i<r then Hy t i else rG t.rs i:=by
 induction r with
 | zero=>simp[Hz]
 | succ r ih=>
  simp only[Hz]
  rw[jE (by rw[G2];omega),ih (by omega)]
  by_cases e:r=i
  ·subst e;rw[aC rfl,aC (by omega)]
  ·rw[aA e]
   by_cases e2:i<r
   ·rw[aC e2,aC (by omega)]
   ·rw[aA e2,aA (by omega)]
def Bz(t:Tp)(k i:Nat):Rg:=bif decide ((Hy t i).h<0)&&decide (0<aw (fC t i) k) then { Hy t i with h:=fi (fC t i) k } else Hy t i
def VZ(t:Tp)(k:Nat):List Rg:=(List.range t.rs.length).map (Bz t k)
theorem sS(t:Tp)(k:Nat):(VZ t k).length=t.rs.length:=by simp[VZ]
theorem DI(t:Tp)(k:Nat){i:Nat}(h:i<t.rs.length):rG (VZ t k) i=Bz t k i:=by
 unfold rG VZ;rw[nO,jY];simp[h]
def dn(t:Tp):Tp:={ t with rs:=VZ t t.hs.length }
theorem Mi{t:Tp}{k r:Nat}(hr:r<t.rs.length)(hk:(hG t.hs k).r=(r:Int))(hh:¬(Bz t k r).h<0):VZ t (k+1)=VZ t k:=by
 refine L5 (by rw[sS,sS]) fun i hi=>?_
 rw[sS] at hi
 rw[DI t _ hi,DI t _ hi]
 by_cases e:i=r
 ·subst e
  have hp:fC t i k=true:=aR hk
  unfold Bz at hh ⊢
  by_cases h0:(Hy t i).h<0
  ·rw[aR h0,fM] at hh ⊢
   have hc:0<aw (fC t i) k:=by
    by_cases h1:0<aw (fC t i) k
    ·exact h1
    ·rw[aW h1,aK] at hh;exact absurd h0 hh
   obtain⟨j,hj1,hj2,hj3⟩:=GY hc
   have hc2:0<aw (fC t i) (k+1):=by simp only[aw];omega
   rw[aR hc,aR hc2,fM,aN,aN]
   have hfi:fi (fC t i) (k+1)=fi (fC t i) k:=by
    simp only[fi,hp,aN,hj2]
    rw[aW (by omega:¬((j:Int)<0)),aK]
   rw[hfi]
  ·rw[aW h0,EX,EX];rfl
 ·have hp:fC t i k=false:=aW (by rw[hk];omega)
  unfold Bz
  have e1:aw (fC t i) (k+1)=aw (fC t i) k:=by simp only[aw,hp,nL,iD,rH]
  have e2:fi (fC t i) (k+1)=fi (fC t i) k:=by simp only[fi,hp,aK]
  rw[e1,e2]
theorem Qh{t:Tp}{k r:Nat}(hr:r<t.rs.length)(hk:(hG t.hs k).r=(r:Int))(hh:(Bz t k r).h<0):VZ t (k+1)=(VZ t k).set r { Bz t k r with h:=(k:Int) }:=by
 refine L5 (by rw[dP,sS,sS]) fun i hi=>?_
 rw[sS] at hi
 rw[jE (by rw[sS];exact hr),DI t _ hi,DI t _ hi]
 by_cases e:r=i
 ·subst e
  rw[aC rfl]
  have hp:fC t r k=true:=aR hk
  unfold Bz at hh ⊢
  have hcz:¬0<aw (fC t r) k∨¬(Hy t r).h<0:=by
   by_cases h1:0<aw (fC t r) k
   ·by_cases h2:(Hy t r).h<0
    ·obtain⟨j,hj1,hj2,hj3⟩:=GY h1
     rw[aR h1,aR h2,fM,aN] at hh
     simp only[hj2] at hh;omega
    ·exact .inr h2
   ·exact .inl h1
  have h2:(Hy t r).h<0:=by
   rcases hcz with h | h
   ·rw[aW h,OZ,aK] at hh;exact hh
   ·rw[aW h,EX,aK] at hh;exact absurd hh h
  have h1:¬0<aw (fC t r) k:=by
   rcases hcz with h | h
   ·exact h
   ·exact absurd h2 h
  have hc2:0<aw (fC t r) (k+1):=by simp only[aw,hp,eY];omega
  rw[aR h2,aR hc2,aW h1,fM,fM,aN,aK]
  have hfi:fi (fC t r) (k+1)=(k:Int):=YQ (by omega) hp fun j hj=>sE.1 (by omega) j hj
  rw[hfi]
 ·rw[aA e]
  have hp:fC t i k=false:=aW (by rw[hk];omega)
  unfold Bz
  have e1:aw (fC t i) (k+1)=aw (fC t i) k:=by simp only[aw,hp,nL,iD,rH]
  have e2:fi (fC t i) (k+1)=fi (fC t i) k:=by simp only[fi,hp,aK]
  rw[e1,e2]
def B0(t:Tp)(r:Nat):Unit×Unit×Int×Int×Int×Int×List T×List T×Int×Int×T×T×Unit:=((),(),(t.rs.length:Int),(r:Int),t.V,t.F,t.hs.map tH,(Hz t r).map tR,0,0,T.v (.slice none 0 0),T.v (.slice none 0 0),())
def B2(t:Tp)(k:Nat):Unit×Unit×List T×Int×Int×Int×Int×List T×List T×Int×Int×T×T×Unit:=((),(),t.hs.map tH,(t.hs.length:Int),(k:Int),t.V,t.F,t.hs.map tH,(VZ t k).map tR,0,0,T.v (.slice none 0 0),T.v (.slice none 0 0),())
theorem Mj{t:Tp}(hn:t.hs.length≤1000)(hR:t.rs.length≤1000)(hr:∀k,k<t.hs.length→0≤(hG t.hs k).r∧(hG t.hs k).r<t.rs.length):
 aQ ((),t.V,t.F,t.hs.map tH,t.rs.map tR,())=some (t.V,t.F,t.hs.map tH,(dn t).rs.map tR,0,t.V,t.F,t.hs.map tH,(dn t).rs.map tR,()):=by
 have l0:=bX (F:=gK) t.rs.length (B0 t) (fun r hr2=>by
  have hlt:decide ((r:Int)<(t.rs.length:Int))=true:=aR (by omega)
  have hg:((Hz t r).map tR)[r]?=some (tR (rG t.rs r)):=by
   rw[sF (by rw[G2];omega),VY t (by omega),aA (by omega)]
  have hl:(Hz t r).length=t.rs.length:=G2 _ _
  have hB:B0 t (r+1)=((),(),(t.rs.length:Int),((r+1:Nat):Int),t.V,t.F,t.hs.map tH,((Hz t r).set r (Hy t r)).map tR,0,0,T.v (.slice none 0 0),T.v (.slice none 0 0),()):=rfl
  rw[hB]
  unfold gK B0 Hy
  simp only[aP,hlt,aN,bL,hl,aF (n:=(t.rs.length:Int)) (i:=r) (by omega),bD,aY,hg,FH,aJ]
  cases decide ((rG t.rs r).v<0) with
  | true=>simp only[aN,bD,bY,NG,wK,bC,aS,wk (k:=r) (by omega)]
  | false=>
   have hsame:(Hz t r).set r (rG t.rs r)=Hz t r:=by
    refine kO ?_
    rw[vN _ _ (by rw[G2];omega),VY t (by omega),aA (by omega)]
   simp only[aK,bD,bC,aS,wk (k:=r) (by omega),hsame])
 have hd0:Hz t t.rs.length=VZ t 0:=by
  refine L5 (by rw[G2,sS]) fun i hi=>?_
  rw[G2] at hi
  rw[VY t (gB _),aC hi,DI t _ hi]
  unfold Bz;simp[aw]
 have o0:gK (B0 t t.rs.length)=some (.inr (.inl ((),(),t.V,t.F,t.hs.map tH,(VZ t 0).map tR,0,0,T.v (.slice none 0 0),T.v (.slice none 0 0),()))):=by
  have hlt:decide ((t.rs.length:Int)<(t.rs.length:Int))=false:=aW (by omega)
  rw[←hd0]
  unfold gK B0
  simp only[aP,hlt,aK]
 have l2:=bX (F:=gL) t.hs.length (B2 t) (fun k hk=>by
  have hlt:decide ((k:Int)<(t.hs.length:Int))=true:=aR (by omega)
  obtain⟨h1,h2⟩:=hr k hk
  obtain⟨r,hrr⟩:∃r:Nat,(hG t.hs k).r=(r:Int):=⟨(hG t.hs k).r.toNat,by omega⟩
  have hrl:r<t.rs.length:=by omega
  have hg:((VZ t k).map tR)[r]?=some (tR (Bz t k r)):=by rw[sF (by rw[sS];omega),DI t _ hrl]
  unfold gL B2
  simp only[aP,hlt,aN,eS (l:=t.hs) (i:=(k:Int)) (by omega) (by omega),bD,jV,gA,hrr,bL,sS,aF (n:=(t.rs.length:Int)) (i:=r) (by omega),aY,hg,zF,aJ]
  by_cases hh:(Bz t k r).h<0
  ·rw[Qh hrl hrr hh]
   simp only[aR hh,aN,bD,bY,NG,wK,bC,aS,wk (k:=k) (by omega)]
  ·rw[Mi hrl hrr hh]
   simp only[aW hh,aK,bD,bC,aS,wk (k:=k) (by omega)])
 have o2:gL (B2 t t.hs.length)=some (.inr (.inl ((),(),t.V,t.F,t.hs.map tH,(VZ t t.hs.length).map tR,0,0,T.v (.slice none 0 0),T.v (.slice none 0 0),()))):=by
  have hlt:decide ((t.hs.length:Int)<(t.hs.length:Int))=false:=aW (by omega)
  unfold gL B2
  simp only[aP,hlt,aK]
 have e0:((),(),(t.rs.length:Int),(0:Int),t.V,t.F,t.hs.map tH,t.rs.map tR,(0:Int),(0:Int),T.v (Value.slice none 0 0),T.v (Value.slice none 0 0),())=B0 t 0:=rfl
 have e2:((),(),t.hs.map tH,(t.hs.length:Int),(0:Int),t.V,t.F,t.hs.map tH,(VZ t 0).map tR,(0:Int),(0:Int),T.v (Value.slice none 0 0),T.v (Value.slice none 0 0),())=B2 t 0:=rfl
 unfold aQ
 simp only[bL]
 rw[e0,l0,bK o0]
 simp only[bD,bC,bT]
 rw[e2,l2,bK o2]
 rfl
def Ml(e l g:Nat):Nat:=if g/2=l then 2*e+g%2 else g
def WQ(e l:Nat)(x:Hf):Hf:={ x with n:=(Ml e l x.n.toNat:Nat),p:=(Ml e l x.p.toNat:Nat) }
def Ca(L:List Hf)(e l:Nat):Nat→List Hf
 | 0=>L
 | k+1=>(Ca L e l k).set k (WQ e l (hG L k))
theorem V2(L:List Hf)(e l k:Nat):(Ca L e l k).length=L.length:=by
 induction k with
 | zero=>rfl
 | succ k ih=>simp[Ca,ih]
theorem V4(L:List Hf)(e l:Nat){k:Nat}(hk:k≤L.length)(i:Nat):hG (Ca L e l k) i=if i<k then WQ e l (hG L i) else hG L i:=by
 induction k with
 | zero=>simp[Ca]
 | succ k ih=>
  simp only[Ca]
  rw[DG (by rw[V2];omega),ih (by omega)]
  by_cases e1:k=i
  ·subst e1;rw[aC rfl,aC (by omega)]
  ·rw[aA e1]
   by_cases e2:i<k
   ·rw[aC e2,aC (by omega)]
   ·rw[aA e2,aA (by omega)]
def RT(hs:List Hf)(h:Nat):List Hf:=((hs.set (2*(h/2)) (hG hs (2*(hs.length/2-1):Nat))).set (2*(h/2)+1) (hG hs (2*(hs.length/2-1)+1:Nat))).take (2*(hs.length/2-1))
def dE(hs:List Hf)(h:Nat):List Hf:=Ca (RT hs h) (h/2) (hs.length/2-1) (RT hs h).length
theorem N7(hs:List Hf)(h:Nat):(RT hs h).length=2*(hs.length/2-1):=by
 unfold RT;rw[nM,dP,dP];omega
theorem oW(hs:List Hf)(h:Nat):(dE hs h).length=2*(hs.length/2-1):=by unfold dE;rw[V2,N7]
theorem Qi{l:List Hf}{k j:Nat}(h:j<k):hG (l.take k) j=hG l j:=by
 unfold hG;rw[nO,jY,jY,List.getElem?_take_of_lt h]
theorem El{hs:List Hf}(he:hs.length%2=0){h:Nat}(hh:h<hs.length){j:Nat}(hj:j<2*(hs.length/2-1)):hG (RT hs h) j=if j/2=h/2 then hG hs ((2*(hs.length/2-1)+j%2:Nat):Int) else hG hs j:=by
 unfold RT
 rw[Qi hj,DG (by rw[dP];omega),DG (by omega)]
 by_cases e1:2*(h/2)+1=j
 ·rw[aC e1,aC (by omega)]
  have:j%2=1:=by omega
  rw[this]
 ·rw[aA e1]
  by_cases e2:2*(h/2)=j
  ·rw[aC e2,aC (by omega)]
   have:j%2=0:=by omega
   rw[this];rfl
  ·rw[aA e2,aA (by omega)]
theorem Tw(x:Hf)(a b c d:Int):T.ax 4 (tH x) 0 [tI a,tI b,tI c,tI d]=tH ⟨a,b,c,d⟩:=by unfold T.ax;rfl
theorem M5(a:Nat):((a:Int)).tdiv 2=((a/2:Nat):Int):=rfl
theorem Em(a:Nat):((a:Int)).tmod 2=((a%2:Nat):Int):=rfl
def N0(V F:Int)(rs:List T)(L:List Hf)(e l:Nat)(k:Nat):Unit×Unit×Int×Int×Int×Int×List T×List T×Int×Int×Unit:=((),(),(L.length:Int),(k:Int),V,F,(Ca L e l k).map tH,rs,(l:Int),(e:Int),())
theorem Qj{V F:Int}{rs:List T}{L:List Hf}{e l:Nat}(hn:L.length≤1000)(he:e≤1000)(hl:l≤1000)(hr:∀k:Nat,k<L.length→0≤(hG L k).n∧(hG L k).n≤1000∧0≤(hG L k).p∧(hG L k).p≤1000){k:Nat}(hk:k<L.length):
 eD (N0 V F rs L e l k)=some (.inl (N0 V F rs L e l (k+1))):=by
 have hlt:decide ((k:Int)<(L.length:Int))=true:=aR (by omega)
 obtain⟨h1,h2,h3,h4⟩:=hr k hk
 obtain⟨a,ha⟩:∃a:Nat,(hG L k).n=(a:Int):=⟨(hG L k).n.toNat,by omega⟩
 obtain⟨b,hb⟩:∃b:Nat,(hG L k).p=(b:Int):=⟨(hG L k).p.toNat,by omega⟩
 have hlen:(Ca L e l k).length=L.length:=V2 _ _ _ _
 have hx:hG (Ca L e l k) k=hG L k:=by rw[V4 L e l (by omega),aA (by omega)]
 have hg:((Ca L e l k).map tH)[k]?=some (tH (hG L k)):=by rw[gJ (by omega),hx]
 have hg2:∀z:Hf,(((Ca L e l k).set k z).map tH)[k]?=some (tH z):=fun z=>by rw[fF,iJ (by omega)];rfl
 have wa:wr .i64 ((a:Int).tdiv 2)=((a/2:Nat):Int):=by rw[M5,fQ (by omega) (by omega)]
 have wb:wr .i64 ((b:Int).tdiv 2)=((b/2:Nat):Int):=by rw[M5,fQ (by omega) (by omega)]
 have we:wr .i64 (2*(e:Int))=2*(e:Int):=fQ (by omega) (by omega)
 have wa2:wr .i64 (2*(e:Int)+(a:Int).tmod 2)=((2*e+a%2:Nat):Int):=by rw[Em,fQ (by omega) (by omega)];push_cast;rfl
 have wb2:wr .i64 (2*(e:Int)+(b:Int).tmod 2)=((2*e+b%2:Nat):Int):=by rw[Em,fQ (by omega) (by omega)];push_cast;rfl
 have ga:decide ((0:Int)≤(a:Int))=true:=aR (by omega)
 have gb:decide ((0:Int)≤(b:Int))=true:=aR (by omega)
 have hN:N0 V F rs L e l (k+1)=((),(),(L.length:Int),((k+1:Nat):Int),V,F,((Ca L e l k).set k (WQ e l (hG L k))).map tH,rs,(l:Int),(e:Int),()):=rfl
 rw[hN]
 unfold WQ
 rw[ha,hb,nO,nO]
 unfold eD N0 Ml
 have hcast:∀x y:Nat,x=y→decide ((x:Int)=(y:Int))=true:=fun x y h=>aR (by omega)
 have hcast':∀x y:Nat,x≠y→decide ((x:Int)=(y:Int))=false:=fun x y h=>aW (by omega)
 by_cases e1:a/2=l
 ·by_cases e2:b/2=l
  ·simp only[aP,hlt,aN,bT,hlen,aF (n:=(L.length:Int)) (i:=k) (by omega),bD,aY,hg,mY,mG,ha,hb,aJ,vJ,wa,wb,aH,hcast _ _ e1,hcast _ _ e2,gI,ga,gb,vI,we,qG,aS,wa2,wb2,bY,YN,YO,BX,dP,hg2,DZ,wk (k:=k) (by omega),aC e1,aC e2]
  ·simp only[aP,hlt,aN,aK,bT,hlen,aF (n:=(L.length:Int)) (i:=k) (by omega),bD,aY,hg,mY,mG,ha,hb,aJ,vJ,wa,wb,aH,hcast _ _ e1,hcast' _ _ e2,gI,ga,gb,vI,we,qG,aS,wa2,wb2,bY,YN,YO,BX,dP,hg2,DZ,wk (k:=k) (by omega),aC e1,aA e2]
 ·by_cases e2:b/2=l
  ·simp only[aP,hlt,aN,aK,bT,hlen,aF (n:=(L.length:Int)) (i:=k) (by omega),bD,aY,hg,mY,mG,ha,hb,aJ,vJ,wa,wb,aH,hcast' _ _ e1,hcast _ _ e2,gI,ga,gb,vI,we,qG,aS,wa2,wb2,bY,YN,YO,BX,dP,hg2,DZ,wk (k:=k) (by omega),aA e1,aC e2]
  ·have hsame:(Ca L e l k).set k { hG L k with n:=(a:Int),p:=(b:Int) }=Ca L e l k:=by
    refine kO ?_
    rw[sD _ _ (by omega),hx,←ha,←hb]
   simp only[aP,hlt,aN,aK,bT,hlen,aF (n:=(L.length:Int)) (i:=k) (by omega),bD,aY,hg,mY,mG,ha,hb,aJ,vJ,wa,wb,aH,hcast' _ _ e1,hcast' _ _ e2,aS,wk (k:=k) (by omega),aA e1,aA e2,hsame]
theorem DJ{V F:Int}{rs:List T}{hs:List Hf}(hn:hs.length≤1000)(he:hs.length%2=0){h:Nat}(hh:h<hs.length)(hr:∀k:Nat,k<hs.length→0≤(hG hs k).n∧(hG hs k).n≤1000∧0≤(hG hs k).p∧(hG hs k).p≤1000):
 cD ((),(h:Int),V,F,hs.map tH,rs,())=some (V,F,(dE hs h).map tH,rs,()):=by
 obtain⟨l,hl⟩:∃l,l=hs.length/2-1:=⟨_,rfl⟩
 obtain⟨e,hee⟩:∃e,e=h/2:=⟨_,rfl⟩
 have hlen:=N7 hs h
 have hrd:∀k:Nat,k<(RT hs h).length→0≤(hG (RT hs h) k).n∧(hG (RT hs h) k).n≤1000∧0≤(hG (RT hs h) k).p∧(hG (RT hs h) k).p≤1000:=fun k hk=>by
  rw[El he hh (by omega)]
  by_cases e1:k/2=h/2
  ·rw[aC e1];exact hr _ (by omega)
  ·rw[aA e1];exact hr _ (by omega)
 have hlp:=bX (F:=eD) (RT hs h).length (N0 V F rs (RT hs h) (h/2) (hs.length/2-1)) (fun k hk=>Qj (by omega) (by omega) (by omega) hrd hk)
 have ho:eD (N0 V F rs (RT hs h) (h/2) (hs.length/2-1) (RT hs h).length)=some (.inr (.inl (V,F,(dE hs h).map tH,rs,()))):=by
  have hlt:decide (((RT hs h).length:Int)<((RT hs h).length:Int))=false:=aW (by omega)
  unfold eD N0
  simp only[aP,hlt,aK]
  rfl
 have w1:wr .i64 ((hs.length:Int).tdiv 2)=((hs.length/2:Nat):Int):=by rw[M5,fQ (by omega) (by omega)]
 have w2:wr .i64 (((hs.length/2:Nat):Int)-1)=((hs.length/2-1:Nat):Int):=by rw[fQ (by omega) (by omega)];omega
 have w3:wr .i64 (2*((hs.length/2-1:Nat):Int))=((2*(hs.length/2-1):Nat):Int):=by rw[fQ (by omega) (by omega)];push_cast;rfl
 have w4:wr .i64 (((2*(hs.length/2-1):Nat):Int)+1)=((2*(hs.length/2-1)+1:Nat):Int):=by rw[fQ (by omega) (by omega)];push_cast;rfl
 have w5:wr .i64 ((h:Int).tdiv 2)=((h/2:Nat):Int):=by rw[M5,fQ (by omega) (by omega)]
 have w6:wr .i64 (2*((h/2:Nat):Int))=((2*(h/2):Nat):Int):=by rw[fQ (by omega) (by omega)];push_cast;rfl
 have w7:wr .i64 (((2*(h/2):Nat):Int)+1)=((2*(h/2)+1:Nat):Int):=by rw[fQ (by omega) (by omega)];push_cast;rfl
 have hg1:(hs.map tH)[2*(hs.length/2-1)]?=some (tH (hG hs (2*(hs.length/2-1):Nat))):=gJ (by omega)
 have hg2:(hs.map tH)[2*(hs.length/2-1)+1]?=some (tH (hG hs (2*(hs.length/2-1)+1:Nat))):=gJ (by omega)
 have hg3:(hs.map tH)[2*(h/2)]?=some (tH (hG hs (2*(h/2):Nat))):=gJ (by omega)
 have heta:∀z:Hf,(⟨z.f,z.n,z.p,z.r⟩:Hf)=z:=fun z=>rfl
 have hg4:((hs.set (2*(h/2)) (hG hs (2*(hs.length/2-1):Nat))).map tH)[2*(h/2)+1]?=some (tH (hG (hs.set (2*(h/2)) (hG hs (2*(hs.length/2-1):Nat))) (2*(h/2)+1:Nat))):=gJ (by rw[dP];omega)
 have hcut:JH (hs.length:Int) 0 ((2*(hs.length/2-1):Nat):Int)=some (0,2*(hs.length/2-1)):=by
  unfold JH;rw[aC ⟨by omega,by omega,by omega⟩,Int.sub_zero,nO];rfl
 have hnat:US (2*(hs.length/2-1))=((RT hs h).length:Int):=by unfold US;rw[hlen]
 have hcn:∀M:List Hf,oC (M.map tH) 0 (2*(hs.length/2-1))=(M.take (2*(hs.length/2-1))).map tH:=fun M=>by unfold oC;rw[T4,K9]
 have hdp:((hs.set (2*(h/2)) (hG hs (2*(hs.length/2-1):Nat))).set (2*(h/2)+1) (hG hs (2*(hs.length/2-1)+1:Nat))).take (2*(hs.length/2-1))=RT hs h:=rfl
 unfold cD
 simp only[bT,vJ,w1,nI,w2,vI,w3,aS,w4,w5,w6,w7,aF (n:=(hs.length:Int)) (i:=2*(hs.length/2-1)) (by omega),aF (n:=(hs.length:Int)) (i:=2*(hs.length/2-1)+1) (by omega),aF (n:=(hs.length:Int)) (i:=2*(h/2)) (by omega),aF (n:=(hs.length:Int)) (i:=2*(h/2)+1) (by omega),bD,aY,hg1,hg2,hg3,sO,mY,mG,jV,aJ,bY,Tw,heta,BX,dP,hg4,hcut,hnat,hcn,hdp]
 have e0:((),(),((RT hs h).length:Int),(0:Int),V,F,(RT hs h).map tH,rs,((hs.length/2-1:Nat):Int),((h/2:Nat):Int),())=N0 V F rs (RT hs h) (h/2) (hs.length/2-1) 0:=rfl
 rw[e0,hlp,bK ho]
 rfl
theorem IX{l m:List Nat}{k:Nat}(h:k<l.length):(l++m).getD k 0=l.getD k 0:=by
 rw[jY,jY,zX h]
theorem Cb{l:List Nat}{x:Nat}:(l++[x]).getD l.length 0=x:=by simp
theorem nU{f:Nat→Nat}{x z a:Nat}{m:List Nat}(h:Path f x (a::m) z):f (rF a m m.length)=z:=by
 have:=(FG h).2 m.length (by simp)
 rw[IX (by simp)] at this
 have e:(a::m++[z]).getD (m.length+1) 0=z:=by
  have:=Cb (l:=a::m) (x:=z)
  simp
 rw[e] at this;exact this
theorem G3{f:Nat→Nat}{x z a:Nat}{m:List Nat}(h:Path f x (a::m) z){k:Nat}(hk:k<m.length):f (rF a m k)=rF a m (k+1):=by
 have:=(FG h).2 k (by simp;omega)
 rw[IX (by simp;omega),IX (by simp;omega)] at this;exact this
def CU(t:Tp)(h:Nat)(A B:List Nat):List Hf:=
 match A,B with
 | [],[]=>t.hs
 | [],_::_=>lk t.hs (pv t h) (nx t (mt h))
 | _::_,[]=>au (lk t.hs (pv t (mt h)) (nx t h)) A t.rs.length
 | _::_,_::_=>lk (au (lk t.hs (pv t (mt h)) (nx t h)) A t.rs.length) (pv t h) (nx t (mt h))
def Cc(t:Tp)(h r:Nat)(A B:List Nat):List Rg:=
 match A,B with
 | [],[]=>(t.rs.set r { rG t.rs r with h:=-1,v:=(hG t.hs h).f })++[⟨-1,(hG t.hs (mt h:Nat)).f,(rG t.rs r).c⟩]
 | [],_::_=>t.rs++[⟨-1,(hG t.hs (mt h:Nat)).f,(rG t.rs r).c⟩]
 | _::_,[]=>(t.rs.set r { rG t.rs r with h:=-1,v:=(hG t.hs h).f })++[⟨-1,-1,(rG t.rs r).c⟩]
 | _::_,_::_=>t.rs++[⟨-1,-1,(rG t.rs r).c⟩]
def RU(t:Tp)(h r:Nat)(A B:List Nat):Tp:=⟨t.V,t.F,dE (CU t h A B) h,Cc t h r A B⟩
theorem BC(t:Tp)(h:Nat)(A B:List Nat):(CU t h A B).length=t.hs.length:=by
 unfold CU
 split
 ·rfl
 ·rw[aG]
 ·rw[cO,aG]
 ·rw[aG,cO,aG]
theorem V6(t:Tp)(h r:Nat)(A B:List Nat):(Cc t h r A B).length=t.rs.length+1:=by
 unfold Cc
 split <;> simp
theorem Qk{t:Tp}{h r:Nat}{A B:List Nat}:(RU t h r A B).hs.length=2*(t.hs.length/2-1):=by
 show (dE _ _).length=_
 rw[oW,BC]
def dr(l:List Hf):Prop:=∀k:Nat,k<l.length→0≤(hG l k).n∧(hG l k).n≤1000∧0≤(hG l k).p∧(hG l k).p≤1000
theorem dr.lk{l:List Hf}(h:dr l){a b:Nat}(ha:a<l.length)(hb:b<l.length)(hl:l.length≤1000):dr (lk l a b):=fun k hk=>by
 rw[aG] at hk
 obtain⟨h1,h2,h3,h4⟩:=h k hk
 rw[bF ha hb]
 refine⟨?_,?_,?_,?_⟩
 ·by_cases e:a=k
  ·simp only[aC e];omega
  ·simp only[aA e];exact h1
 ·by_cases e:a=k
  ·simp only[aC e];omega
  ·simp only[aA e];exact h2
 ·by_cases e:b=k
  ·simp only[aC e];omega
  ·simp only[aA e];exact h3
 ·by_cases e:b=k
  ·simp only[aC e];omega
  ·simp only[aA e];exact h4
theorem dr.au{l:List Hf}(h:dr l){xs:List Nat}(hx:∀x∈xs,x<l.length)(r:Int):dr (au l xs r):=fun k hk=>by
 rw[cO] at hk
 have:=h k hk
 rw[eM xs r l k hx]
 by_cases e:k∈xs
 ·rw[aC e];exact this
 ·rw[aA e];exact this
theorem Hok.kz{t:Tp}(h:Hok t):dr t.hs:=fun k hk=>by
 obtain⟨_,h1,h2,_⟩:=iS.1 (h.b1 k hk)
 have:=h.n
 omega
def ei(l:List Hf)(n:Nat):Prop:=∀k:Nat,k<l.length→0≤(hG l k).r∧(hG l k).r<n
theorem Hok.kg{t:Tp}(h:Hok t):ei t.hs t.rs.length:=fun k hk=>(iS.1 (h.b1 k hk)).2.2.2
theorem ei.mono{l:List Hf}{n m:Nat}(h:ei l n)(hm:n≤m):ei l m:=fun k hk=>by have:=h k hk;omega
theorem ei.lk{l:List Hf}{n:Nat}(h:ei l n){a b:Nat}(ha:a<l.length)(hb:b<l.length):ei (lk l a b) n:=fun k hk=>by
 rw[aG] at hk
 rw[bF ha hb];exact h k hk
theorem ei.au{l:List Hf}{n:Nat}(h:ei l n){xs:List Nat}(hx:∀x∈xs,x<l.length){r:Nat}(hr:r<n):ei (au l xs r) n:=fun k hk=>by
 rw[cO] at hk
 have:=h k hk
 rw[eM xs r l k hx]
 by_cases e:k∈xs
 ·rw[aC e];show 0≤(r:Int)∧(r:Int)<n;omega
 ·rw[aA e];exact this
theorem Mm{hs:List Hf}(he:hs.length%2=0){h:Nat}(hh:h<hs.length){j:Nat}(hj:j<2*(hs.length/2-1)):hG (dE hs h) j=WQ (h/2) (hs.length/2-1) (if j/2=h/2 then hG hs ((2*(hs.length/2-1)+j%2:Nat):Int) else hG hs j):=by
 unfold dE
 rw[V4 _ _ _ (gB _),aC (by rw[N7];exact hj),El he hh hj]
theorem ei.dE{hs:List Hf}{n:Nat}(h0:ei hs n)(he:hs.length%2=0){h:Nat}(hh:h<hs.length):ei (dE hs h) n:=fun k hk=>by
 rw[oW] at hk
 rw[Mm he hh hk]
 by_cases e:k/2=h/2
 ·rw[aC e];exact h0 _ (by omega)
 ·rw[aA e];exact h0 _ (by omega)
theorem Tx{t:Tp}(ht:CKP t){h r:Nat}{A B:List Nat}(hh:h<t.hs.length)(hr:r<t.rs.length)(cn:fC t r h=true)(hrm:fC t r (mt h)=true)(hc:bz (nx t) h (A++mt h::B))(hb:∀y∈h::(A++mt h::B),y<t.hs.length)(hR:t.rs.length+1≤257):
 gM (t.V,t.F,t.hs.map tH,t.rs.map tR,(h:Int),())=some (yE (dn (RU t h r A B)) 0):=by
 have hk:=ht.toHok
 have hz:=hk.toSz
 have hn:=ht.n
 have he:=ht.e
 have hV1:=ht.V1
 have hF1:=ht.F1
 have hm:=kQ he hh
 have hpm:=hk.aj hm
 have hph:=hk.aj hh
 have hnm:=hk.bf hm
 have hnh:=hk.bf hh
 have hro:gQ t 0 0 0 1=true:=by
  unfold gQ;simp only[cS,bE];omega
 have hroom:=FQ hz (a:=0) (b:=0) (c:=1) (d:=0) (by decide) (by decide) (by decide) (by decide)
 have hroom':cC (t.V,t.F,t.hs.map tH,t.rs.map tR,(0:Int),(0:Int),(1:Int),(0:Int),())=some (true,()):=by rw[←hro];exact hroom
 have hi2:rD (h:Int) (t.hs.length:Int)=true:=bZ.2 ⟨by omega,by omega⟩
 have hr1:(hG t.hs h).r=(r:Int):=bI cn
 have hr2:(hG t.hs (mt h:Nat)).r=(r:Int):=bI hrm
 obtain⟨hP1,hP2⟩:=hJ.1 hc.1
 have hnd:((h::A)++(mt h::B)).Nodup:=hc.2
 have hrr:qE (t.rs.map tR) [tR ⟨-1,-1,(rG t.rs r).c⟩] 24=some ((t.rs++[(⟨-1,-1,(rG t.rs r).c⟩:Rg)]).map tR):=by
  rw[rJ (by simp only[dM,oA,wP];omega) (by decide),DY];rfl
 have hfold:T.agg [tI (-1),tI (-1),tI (rG t.rs r).c]=tR ⟨-1,-1,(rG t.rs r).c⟩:=rfl
 have hsm:=hk.kz
 have hrg:=hk.kg.mono (m:=t.rs.length+1) (by omega)
 have hbA:∀y∈A,y<t.hs.length:=fun y hy=>hb y (dY _ (yU _ hy))
 have fin:∀(hs2:List Hf) (WR:List Rg),hs2.length=t.hs.length→dr hs2→ei hs2 (t.rs.length+1)→WR.length=t.rs.length+1 →
  (ob (cD ((),(h:Int),t.V,t.F,hs2.map tH,WR.map tR,())) fun x58=>ob (aQ ((),x58.1,x58.2.1,x58.2.2.1,x58.2.2.2.1,())) fun x59=>some (x59.1,x59.2.1,x59.2.2.1,x59.2.2.2.1,x59.2.2.2.2.1,()))=some (yE (dn ⟨t.V,t.F,dE hs2 h,WR⟩) 0):=fun hs2 WR h1 h2 h3 h4=>by
  rw[DJ (by omega) (by omega) (by omega) h2]
  simp only[bD]
  have:=Mj (t:=⟨t.V,t.F,dE hs2 h,WR⟩) (by show (dE hs2 h).length≤_;rw[oW];omega) (by show WR.length≤_;omega) (by
   show ei (dE hs2 h) WR.length
   rw[h4];exact h3.dE (by omega) (by omega))
  simp only[] at this
  rw[this]
  rfl
 have hlenq:∀z:Rg,(t.rs++[z]).length=t.rs.length+1:=fun z=>by simp
 have hgR:∀z:Rg,((t.rs++[z]).map tR)[t.rs.length]?=some (tR z):=fun z=>by
  rw[DY,HD (by simp)];simp
 have hsetR:∀z w:Rg,(t.rs++[z]).set t.rs.length w=t.rs++[w]:=fun z w=>by
  rw[JB];simp
 have hgr:∀z:Rg,((t.rs++[z]).map tR)[r]?=some (tR (rG t.rs r)):=fun z=>by
  rw[DY,zX (by simpa using hr)];exact sF hr
 have hsetr:∀z w:Rg,(t.rs++[z]).set r w=t.rs.set r w++[z]:=fun z w=>by
  rw[JB,aC hr]
 have hgr2:∀z w:Rg,((t.rs.set r w++[z]).map tR)[r]?=some (tR w):=fun z w=>by
  rw[DY,zX (by simpa using hr),fF,iJ hr];rfl
 have hsetr2:∀z w w':Rg,(t.rs.set r w++[z]).set r w'=t.rs.set r w'++[z]:=fun z w w'=>by
  rw[JB,aC (by simpa using hr),DZ]
 have hlenr:∀z w:Rg,(t.rs.set r w++[z]).length=t.rs.length+1:=fun z w=>by simp
 have lkh:∀(l:List Hf) (R:List T),l.length=t.hs.length→∀a b:Nat,a<t.hs.length→b<t.hs.length→aB ((),(a:Int),(b:Int),t.V,t.F,l.map tH,R,())=some (t.V,t.F,(lk l a b).map tH,R,()):=fun l R h1 a b h2 h3=>xA (by omega) (by omega)
 unfold gM
 cases A with
 | nil=>
  have hfm:nx t h=mt h:=hP1
  have d1:decide ((nx t h:Int)=(mt h:Int))=true:=aR (by omega)
  cases B with
  | nil=>
   have hbh:nx t (mt h)=h:=hP2
   have d2:decide ((nx t (mt h):Int)=(h:Int))=true:=aR (by omega)
   simp only[bN ht,cN,hi2,hroom',rC (k:=h) (by omega),oV hz,bT,bL,eS (l:=t.hs) (i:=(h:Int)) (by omega) (by omega),eS (l:=t.hs) (i:=((mt h:Nat):Int)) (by omega) (by omega),aF (n:=(t.hs.length:Int)) (i:=h) (by omega),aF (n:=(t.hs.length:Int)) (i:=mt h) (by omega),aF (n:=(t.rs.length:Int)) (i:=r) (by omega),bD,aY,gJ hh,gJ hm,sF hr,sO,mY,mG,jV,fN,aJ,gA,hr1,hr2,hk.bg hh,hk.br hh,hk.bg hm,hk.br hm,aH,cK,bH,aK,aN,bY,hfold,hrr,d1,d2,hlenq,hlenr,aF (n:=((t.rs.length+1:Nat):Int)) (i:=t.rs.length) (by omega),aF (n:=((t.rs.length+1:Nat):Int)) (i:=r) (by omega),hgR,FK,NG,wK,hsetR,bC,hgr,hsetr,hgr2,hsetr2]
   exact fin _ _ rfl hsm hrg (by simp)
  | cons b0 B'=>
   have hbh:nx t (mt h)=b0:=hP2.1
   have hne:b0≠h:=fun e=>by
    have h1:=dC.1 hc.2
    exact h1.1 (by rw[←e];simp)
   have d2:decide ((nx t (mt h):Int)=(h:Int))=false:=aW (by omega)
   simp only[bN ht,cN,hi2,hroom',rC (k:=h) (by omega),oV hz,bT,bL,eS (l:=t.hs) (i:=(h:Int)) (by omega) (by omega),eS (l:=t.hs) (i:=((mt h:Nat):Int)) (by omega) (by omega),aF (n:=(t.hs.length:Int)) (i:=h) (by omega),aF (n:=(t.hs.length:Int)) (i:=mt h) (by omega),aF (n:=(t.rs.length:Int)) (i:=r) (by omega),bD,aY,gJ hh,gJ hm,sF hr,sO,mY,mG,jV,fN,aJ,gA,hr1,hr2,hk.bg hh,hk.br hh,hk.bg hm,hk.br hm,aH,cK,bH,aK,aN,bY,hfold,hrr,d1,d2,hlenq,aF (n:=((t.rs.length+1:Nat):Int)) (i:=t.rs.length) (by omega),hgR,FK,wK,hsetR,bC,lkh t.hs _ rfl _ _ hph hnm]
   exact fin _ _ (by rw[aG]) (hsm.lk hph hnm (by omega)) (hrg.lk hph hnm) (by simp)
 | cons a A'=>
  have hfa:nx t h=a:=hP1.1
  have hne1:a≠mt h:=fun e=>by
   have:=(pU.1 hnd).2.2 a (by simp) (mt h) (by simp)
   exact this e
  have d1:decide ((nx t h:Int)=(mt h:Int))=false:=aW (by omega)
  have hlast:pv t (mt h)=rF a A' A'.length:=by
   have h1:=nU hP1
   have h2:=hbA _ (lN (x:=a) (m:=A') (k:=A'.length) (by simp))
   rw[←h1,hk.pn h2]
  have hlk:(lk t.hs (pv t (mt h)) (nx t h)).length=t.hs.length:=by rw[aG]
  have hasg:=FT (V:=t.V) (F:=t.F) (hs:=lk t.hs (pv t (mt h)) (nx t h)) (rs:=(t.rs++[(⟨-1,-1,(rG t.rs r).c⟩:Rg)]).map tR) (r:=(t.rs.length:Int)) (x:=a) (m:=A') (by
   have:=(pU.1 hnd).1
   exact(dC.1 this).2) (fun y hy=>by rw[hlk];exact hbA y hy) (fun k hk2=>by
   have hyl:=hbA _ (lN (x:=a) (m:=A') (k:=k) (by simp;omega))
   rw[bF hpm hnh]
   have hne:pv t (mt h)≠rF a A' k:=fun e=>by
    rw[hlast] at e
    have hndA:(a::A').Nodup:=(dC.1 (pU.1 hnd).1).2
    have i1:(a::A')[A'.length]?=some (rF a A' A'.length):=by rw[dH (by simp),FR]
    have i2:(a::A')[k]?=some (rF a A' A'.length):=by rw[dH (by simp;omega),FR,e]
    have:=GM hndA i1 i2
    omega
   simp only[aA hne]
   rw[hk.bg hyl,G3 hP1 hk2]) hlast
  rw[←hfa] at hasg
  have hbA2:∀y∈a::A',y<(lk t.hs (pv t (mt h)) (nx t h)).length:=fun y hy=>by rw[hlk];exact hbA y hy
  have hsm2:dr (au (lk t.hs (pv t (mt h)) (nx t h)) (a::A') t.rs.length):=(hsm.lk hpm hnh (by omega)).au hbA2 _
  have hrg2:ei (au (lk t.hs (pv t (mt h)) (nx t h)) (a::A') t.rs.length) (t.rs.length+1):=(hrg.lk hpm hnh).au hbA2 (by omega)
  have hl2:(au (lk t.hs (pv t (mt h)) (nx t h)) (a::A') (t.rs.length:Int)).length=t.hs.length:=by rw[cO,aG]
  rw[hfa] at hasg
  have hasg':aV ((),(nx t h:Int),(pv t (mt h):Int),(t.rs.length:Int),t.V,t.F,(lk t.hs (pv t (mt h)) (nx t h)).map tH,(t.rs++[(⟨-1,-1,(rG t.rs r).c⟩:Rg)]).map tR,())=some (t.V,t.F,(au (lk t.hs (pv t (mt h)) (nx t h)) (a::A') (t.rs.length:Int)).map tH,(t.rs++[(⟨-1,-1,(rG t.rs r).c⟩:Rg)]).map tR,()):=by
   rw[hfa];exact hasg
  cases B with
  | nil=>
   have hbh:nx t (mt h)=h:=hP2
   have d2:decide ((nx t (mt h):Int)=(h:Int))=true:=aR (by omega)
   generalize hG2:au (lk t.hs (pv t (mt h)) (nx t h)) (a::A') (t.rs.length:Int)=L2 at *
   have hgf:(L2.map tH)[h]?=some (tH (hG L2 h)):=gJ (by omega)
   have hff:(hG L2 h).f=(hG t.hs h).f:=by
    rw[←hG2,eM _ _ _ _ hbA2]
    by_cases e:h∈a::A'
    ·rw[aC e,bF hpm hnh]
    ·rw[aA e,bF hpm hnh]
   simp only[bN ht,cN,hi2,hroom',rC (k:=h) (by omega),oV hz,bT,bL,eS (l:=t.hs) (i:=(h:Int)) (by omega) (by omega),eS (l:=t.hs) (i:=((mt h:Nat):Int)) (by omega) (by omega),aF (n:=(t.hs.length:Int)) (i:=h) (by omega),aF (n:=(t.hs.length:Int)) (i:=mt h) (by omega),aF (n:=(t.rs.length:Int)) (i:=r) (by omega),bD,aY,gJ hh,gJ hm,sF hr,sO,mY,mG,jV,fN,aJ,gA,hr1,hr2,hk.bg hh,hk.br hh,hk.bg hm,hk.br hm,aH,cK,bH,aK,aN,bY,hfold,hrr,d1,d2,hlenq,hlenr,lkh t.hs _ rfl _ _ hpm hnh,hasg',bC,hl2,hgf,hff,aF (n:=((t.rs.length+1:Nat):Int)) (i:=r) (by omega),FK,NG,wK,hgr,hsetr,hgr2,hsetr2]
   have:=fin L2 (t.rs.set r { rG t.rs r with h:=-1,v:=(hG t.hs h).f }++[(⟨-1,-1,(rG t.rs r).c⟩:Rg)]) hl2 hsm2 hrg2 (by simp)
   rw[this]
   unfold RU CU Cc
   simp only[hG2]
  | cons b0 B'=>
   have hbh:nx t (mt h)=b0:=hP2.1
   have hne:b0≠h:=fun e=>by
    have h1:=dC.1 hc.2
    exact h1.1 (by rw[←e];simp)
   have d2:decide ((nx t (mt h):Int)=(h:Int))=false:=aW (by omega)
   generalize hG2:au (lk t.hs (pv t (mt h)) (nx t h)) (a::A') (t.rs.length:Int)=L2 at *
   simp only[bN ht,cN,hi2,hroom',rC (k:=h) (by omega),oV hz,bT,bL,eS (l:=t.hs) (i:=(h:Int)) (by omega) (by omega),eS (l:=t.hs) (i:=((mt h:Nat):Int)) (by omega) (by omega),aF (n:=(t.hs.length:Int)) (i:=h) (by omega),aF (n:=(t.hs.length:Int)) (i:=mt h) (by omega),aF (n:=(t.rs.length:Int)) (i:=r) (by omega),bD,aY,gJ hh,gJ hm,sF hr,sO,mY,mG,jV,fN,aJ,gA,hr1,hr2,hk.bg hh,hk.br hh,hk.bg hm,hk.br hm,aH,cK,bH,aK,bY,hfold,hrr,d1,d2,hlenq,lkh t.hs _ rfl _ _ hpm hnh,hasg',bC,lkh L2 _ hl2 _ _ hph hnm]
   have:=fin (lk L2 (pv t h) (nx t (mt h))) (t.rs++[(⟨-1,-1,(rG t.rs r).c⟩:Rg)]) (by rw[aG,hl2]) (hsm2.lk (by omega) (by omega) (by omega)) (hrg2.lk (by omega) (by omega)) (by simp)
   rw[this]
   unfold RU CU Cc
   simp only[hG2]
theorem L7{X Y:Tp}(hV:X.V=Y.V)(hF:X.F=Y.F)(hh:X.hs=Y.hs)(hl:X.rs.length=Y.rs.length)
 (h:∀i:Nat,i<Y.rs.length→(rG X.rs i).c=(rG Y.rs i).c∧(rG X.rs i).v=(rG Y.rs i).v∧(((∃k,k<Y.hs.length∧fC Y i k=true)∧(rG X.rs i).h≠-1∧(rG Y.rs i).v<0)∨((∀k,k<Y.hs.length→fC Y i k=false)∧(rG X.rs i).h=-1∧((rG Y.rs i).v<0∨(rG Y.rs i).h=-1)))):lz X=dn Y:=by
 have hr:(lz X).rs=(dn Y).rs:=by
  refine L5 (by rw[oU,hl];exact(sS Y _).symm) fun i hi=>?_
  rw[oU] at hi
  rw[IW X hi]
  have e1:rG (dn Y).rs i=Bz Y Y.hs.length i:=DI Y _ (by omega)
  rw[e1]
  have hP:fC X (i:Int)=fC Y (i:Int):=by funext k;unfold fC;rw[hh]
  obtain⟨h1,h2,h3⟩:=h i (by omega)
  rcases h3 with⟨⟨k,hk,hp⟩,h4,h5⟩ | ⟨h3,h4,h5⟩
  ·have hc:0<aw (fC Y i) Y.hs.length:=rK.2 ⟨k,hk,hp⟩
   unfold N4 Bz Hy Iq
   rw[hP,hh,aW h4,aK,aC hc,aR h5]
   simp only[aN,aR hc,OG]
   have d:decide ((-1:Int)<0)=true:=rfl
   rw[d]
   simp only[aN,h1,h2]
  ·have hc:¬0<aw (fC Y i) Y.hs.length:=by rw[sE.2 h3];omega
   unfold N4 Bz
   rw[aR h4,aN,aW hc,OZ,aK]
   unfold Hy
   have e2:∀z:Rg,rG X.rs i=z↔(rG X.rs i).h=z.h∧(rG X.rs i).v=z.v∧(rG X.rs i).c=z.c:=fun z=>by
    generalize rG X.rs i=w;cases w;cases z;simp
   rw[e2]
   cases hd:decide ((rG Y.rs i).v<0) with
   | true=>simp only[aN];exact⟨h4,h2,h1⟩
   | false=>
    simp only[aK]
    have:=rS hd
    rcases h5 with h5 | h5
    ·omega
    ·exact⟨h4.trans h5.symm,h2,h1⟩
 have e1:lz X=⟨X.V,X.F,X.hs,(lz X).rs⟩:=rfl
 have e2:dn Y=⟨Y.V,Y.F,Y.hs,(dn Y).rs⟩:=rfl
 rw[e1,e2,hV,hF,hh,hr]
theorem CKP.two{t:Tp}(ht:CKP t){i:Nat}(hi:i<t.rs.length):((∃k,k<t.hs.length∧fC t i k=true)∧(rG t.rs i).h≠-1∧(rG t.rs i).v=-1)∨((∀k,k<t.hs.length→fC t i k=false)∧(rG t.rs i).h=-1∧0≤(rG t.rs i).v):=by
 rcases ht.rr i hi with⟨h1,h2,h3,h4⟩ | ⟨h1,h2,h3,h4,h5⟩
 ·exact .inr ⟨h4,h1,h2⟩
 ·obtain⟨k,hk⟩:∃k:Nat,(rG t.rs i).h=(k:Int):=⟨(rG t.rs i).h.toNat,by omega⟩
  exact .inl ⟨⟨k,by omega,by unfold fC;rw[←hk];exact aR h3⟩,by omega,h4⟩
theorem CKP.gn{t:Tp}(ht:CKP t):Tl.lz t=dn t:=L7 rfl rfl rfl rfl fun i hi=>⟨rfl,rfl,by
 rcases ht.two hi with⟨h1,h2,h3⟩ | ⟨h1,h2,h3⟩
 ·exact .inl ⟨h1,h2,by omega⟩
 ·exact .inr ⟨h1,h2,.inr h2⟩⟩
theorem BD{V F:Int}{hs:List Hf}{rs:List Rg}(hn:hs.length≤1000)(hR:rs.length≤1000)(hr:ei hs rs.length):
 aQ ((),V,F,hs.map tH,rs.map tR,())=some (V,F,hs.map tH,(dn ⟨V,F,hs,rs⟩).rs.map tR,0,V,F,hs.map tH,(dn ⟨V,F,hs,rs⟩).rs.map tR,()):=Mj (t:=⟨V,F,hs,rs⟩) hn hR hr
def Z:Tp:=⟨0,0,[],[]⟩
def RO(X:Tp)(e:Int):Prop:=X.rs.length≤1000∧(e=0→0<X.rs.length)∧-1≤X.V∧X.V≤2000
theorem RO.of{t X:Tp}{e:Int}(ht:Sz t)(hV:X.V=t.V∨X.V=t.V+1∨X.V=t.V-1)(h:0<X.rs.length∧X.rs.length≤1000):RO X e:=by
 have:=ht.V0
 have:=ht.V1
 exact⟨h.2,fun _=>h.1,by omega,by omega⟩
theorem sZ{e:Int}(h:e≠0:=by decide):Z.hs.length≤1000∧RO Z e:=⟨HE _,HE _,fun x=>absurd x h,by decide,by decide⟩
theorem Ty{t:Tp}(ht:Hok t){r h:Nat}(hh:h<t.hs.length){y:Nat}(hy:y<t.hs.length+2):hG (lk (lk (lk (t.hs++[Hf.mk (hG t.hs h).f 0 0 r,Hf.mk t.V 0 0 r]) (pv t h) t.hs.length) t.hs.length (t.hs.length+1)) (t.hs.length+1) h) y=hG (kR t r h).hs y:=by
 have hp:=ht.aj hh
 have hl:(t.hs++[Hf.mk (hG t.hs h).f 0 0 r,Hf.mk t.V 0 0 r]).length=t.hs.length+2:=by simp
 rw[bF (by simp only[aG,hl];omega) (by simp only[aG,hl];omega),bF (by simp only[aG,hl];omega) (by simp only[aG,hl];omega),bF (by omega) (by omega)]
 by_cases e1:y<t.hs.length
 ·rw[fV e1,lD ht hh e1]
  simp only[aA (show ¬t.hs.length+1=y by omega),aA (show ¬t.hs.length=y by omega)]
 ·by_cases e2:y=t.hs.length
  ·subst e2
   rw[oH,rE ht hh]
   simp only[aA (show ¬t.hs.length+1=t.hs.length by omega),aA (show ¬pv t h=t.hs.length by omega),aA (show ¬h=t.hs.length by omega),eY]
  ·have e3:y=t.hs.length+1:=by omega
   subst e3
   rw[oJ,vQ ht hh]
   simp only[aA (show ¬t.hs.length=t.hs.length+1 by omega),aA (show ¬pv t h=t.hs.length+1 by omega),aA (show ¬h=t.hs.length+1 by omega),eY]
theorem DK{t:Tp}(ht:Sz t):cC (t.V,t.F,t.hs.map tH,t.rs.map tR,(2:Int),(1:Int),(0:Int),(0:Int),())=some (gQ t 2 1 0 0,()):=FQ ht (by decide) (by decide) (by decide) (by decide)
theorem qL{t:Tp}{r h:Nat}(hr:r<t.rs.length)(hh:h<t.hs.length)(h0:0≤(rG t.rs r).h):cW (t.V,t.F,t.hs.map tH,t.rs.map tR,(r:Int),(h:Int),())=some (fC t r h,()):=by
 have d1:decide ((rG t.rs r).h<0)=false:=aW (by omega)
 have d2:decide ((0:Int)≤(h:Int))=true:=aR (by omega)
 unfold cW
 simp only[iK (l:=t.rs) (i:=(r:Int)) (by omega) (by omega),bD,zF,aJ,aP,d1,aK,gI,d2,aN,eS (l:=t.hs) (i:=(h:Int)) (by omega) (by omega),jV,aH]
 rfl
theorem qM{t:Tp}{r:Nat}{h:Int}(hr:r<t.rs.length)(h0:(rG t.rs r).h=-1):cW (t.V,t.F,t.hs.map tH,t.rs.map tR,(r:Int),h,())=some (decide (h=-1),()):=by
 have d1:decide ((-1:Int)<0)=true:=rfl
 unfold cW
 simp only[iK (l:=t.rs) (i:=(r:Int)) (by omega) (by omega),bD,zF,h0,aJ,aP,d1,aN,aH]
theorem DL{t:Tp}{r:Nat}(hr:r<t.rs.length)(h0:0≤(rG t.rs r).h):cW (t.V,t.F,t.hs.map tH,t.rs.map tR,(r:Int),(-1:Int),())=some (false,()):=by
 have d1:decide ((rG t.rs r).h<0)=false:=aW (by omega)
 have d2:decide ((0:Int)≤(-1:Int))=false:=rfl
 unfold cW
 simp only[iK (l:=t.rs) (i:=(r:Int)) (by omega) (by omega),bD,zF,aJ,aP,d1,aK,gI,d2]
theorem En{t:Tp}(ht:CKP t){r h:Nat}(hr:r<t.rs.length)(hh:h<t.hs.length)(cn:fC t r h=true)(hn:t.hs.length+2≤256)(hV:t.V+1≤257):
 cM (t.V,t.F,t.hs.map tH,t.rs.map tR,(r:Int),(h:Int),())=some (yE (lz (kR t r h)) 0):=by
 have hk:=ht.toHok
 have hz:=hk.toSz
 have hV0:=ht.V0
 have hF1:=ht.F1
 have hR:=ht.R
 have hp:=hk.aj hh
 obtain⟨c1,c2,c3,c4,ho⟩:=L6 ht hr hh cn
 have hro:gQ t 2 1 0 0=true:=by
  unfold gQ;simp only[cS,bE];omega
 have hi1:rD (r:Int) (t.rs.length:Int)=true:=bZ.2 ⟨by omega,by omega⟩
 have hi2:rD (h:Int) (t.hs.length:Int)=true:=bZ.2 ⟨by omega,by omega⟩
 have d1:decide ((h:Int)=-1)=false:=aW (by omega)
 have d3:decide ((h:Int)<0)=false:=aW (by omega)
 have hwV:wr .i64 (t.V+1)=t.V+1:=fQ (by omega) (by omega)
 have hl1:(t.hs++[Hf.mk (hG t.hs h).f 0 0 r,Hf.mk t.V 0 0 r]).length=t.hs.length+2:=by simp
 have hL:lk (lk (lk (t.hs++[Hf.mk (hG t.hs h).f 0 0 r,Hf.mk t.V 0 0 r]) (pv t h) t.hs.length) t.hs.length (t.hs.length+1)) (t.hs.length+1) h=(kR t r h).hs:=
  AO (by simp only[aG,hl1,tU]) fun j hj=>Ty hk hh (by simp only[aG,hl1] at hj;exact hj)
 have hmk:=Q1 ht hh cn hr hn hV
 have k1:=xA (V:=t.V+1) (F:=t.F) (rs:=t.rs.map tR) (hs:=t.hs++[Hf.mk (hG t.hs h).f 0 0 r,Hf.mk t.V 0 0 r]) (a:=pv t h) (b:=t.hs.length) (by omega) (by omega)
 have k2:=xA (V:=t.V+1) (F:=t.F) (rs:=t.rs.map tR) (hs:=lk (t.hs++[Hf.mk (hG t.hs h).f 0 0 r,Hf.mk t.V 0 0 r]) (pv t h) t.hs.length) (a:=t.hs.length) (b:=t.hs.length+1) (by simp only[aG];omega) (by simp only[aG];omega)
 have k3:=xA (V:=t.V+1) (F:=t.F) (rs:=t.rs.map tR) (hs:=lk (lk (t.hs++[Hf.mk (hG t.hs h).f 0 0 r,Hf.mk t.V 0 0 r]) (pv t h) t.hs.length) t.hs.length (t.hs.length+1)) (a:=t.hs.length+1) (b:=h) (by simp only[aG];omega) (by simp only[aG];omega)
 have hd:=BD (V:=t.V+1) (F:=t.F) (hs:=(kR t r h).hs) (rs:=t.rs) (by rw[tU];omega) (by omega) hmk.toHok.kg
 unfold cM
 simp only[bN ht,bV,cN,DK hz,hro,bL,bT,hi1,hi2,aH,aP,d1,d3,bD,bH,bW,aN,aK,qL hr hh c1,cn,oV hz,aF (n:=(t.hs.length:Int)) (i:=h) (by omega),aY,gJ hh,sO,mG,hk.br hh,aJ,aS,hwV,FP (hs:=t.hs) (by omega),k1,k2,k3,hL,hd]
 rw[hmk.gn]
 rfl
def iP(t:Tp)(r:Nat):Tp:=⟨t.V+1,t.F,t.hs++[Hf.mk (rG t.rs r).v ((t.hs.length+1:Nat):Int) ((t.hs.length+1:Nat):Int) (r:Int),Hf.mk t.V (t.hs.length:Int) (t.hs.length:Int) (r:Int)],t.rs.set r { rG t.rs r with h:=(t.hs.length:Int),v:=-1 }⟩
theorem nB(t:Tp)(r:Nat):(iP t r).hs.length=t.hs.length+2:=by simp[iP]
theorem uB{t:Tp}{r j:Nat}(hj:j<t.hs.length):hG (iP t r).hs j=hG t.hs j:=fV hj
theorem vR(t:Tp)(r:Nat):hG (iP t r).hs (t.hs.length:Nat)=⟨(rG t.rs r).v,((t.hs.length+1:Nat):Int),((t.hs.length+1:Nat):Int),(r:Int)⟩:=oH
theorem xB(t:Tp)(r:Nat):hG (iP t r).hs ((t.hs.length+1:Nat):Int)=⟨t.V,(t.hs.length:Int),(t.hs.length:Int),(r:Int)⟩:=oJ
theorem Mn(V F:Int)(n:Nat)(l:List Hf)(rs:List Rg)(h0:(hG l (n:Nat)).n=((n+1:Nat):Int))(h1:(hG l ((n+1:Nat):Int)).n=(n:Int)):bz (nx ⟨V,F,l,rs⟩) n [n+1]:=by
 refine⟨⟨?_,?_⟩,by simp⟩
 ·show ((hG l (n:Nat)).n).toNat=n+1
  rw[h0];rfl
 ·show ((hG l ((n+1:Nat):Int)).n).toNat=n
  rw[h1];rfl
theorem Mo{t:Tp}(ht:CKP t){r:Nat}(hr:r<t.rs.length):lz (iP t r)=dn { iP t r with rs:=t.rs.set r { rG t.rs r with v:=-1 } }:=by
 refine L7 rfl rfl rfl (by simp[iP]) fun i hi=>?_
 have hil:i<t.rs.length:=by simpa using hi
 have e1:(iP t r).rs=t.rs.set r { rG t.rs r with h:=(t.hs.length:Int),v:=-1 }:=rfl
 have e3:∀k,fC { iP t r with rs:=t.rs.set r { rG t.rs r with v:=-1 } } (i:Int) k=fC (iP t r) (i:Int) k:=fun k=>rfl
 have e4:({ iP t r with rs:=t.rs.set r { rG t.rs r with v:=-1 } }:Tp).hs=(iP t r).hs:=rfl
 rw[e1]
 simp only[e3,jE hr]
 by_cases e:r=i
 ·subst e
  simp only[eY]
  refine⟨trivial,trivial,.inl ⟨⟨t.hs.length,by rw[nB];omega,by unfold fC;rw[vR];exact aR rfl⟩,by omega,by decide⟩⟩
 ·simp only[aA e]
  refine⟨trivial,trivial,?_⟩
  rcases ht.two hil with⟨⟨k,hk,hp⟩,h2,h3⟩ | ⟨h1,h2,h3⟩
  ·exact .inl ⟨⟨k,by rw[nB];omega,by unfold fC at *;rw[uB hk];exact hp⟩,h2,by omega⟩
  ·refine .inr ⟨fun k hk=>?_,h2,.inr h2⟩
   rw[nB] at hk
   by_cases a1:k<t.hs.length
   ·have:=h1 k a1;unfold fC at *;rw[uB a1];exact this
   ·by_cases a2:k=t.hs.length
    ·subst a2;unfold fC;rw[vR];exact aW (by show ¬(r:Int)=(i:Int);omega)
    ·have a3:k=t.hs.length+1:=by omega
     subst a3;unfold fC;rw[xB];exact aW (by show ¬(r:Int)=(i:Int);omega)
theorem FU{t:Tp}(ht:CKP t){r:Nat}(hr:r<t.rs.length)(h:(rG t.rs r).h=-1):0≤(rG t.rs r).v∧(rG t.rs r).v<t.V∧∀k,k<t.hs.length→fC t r k=false:=by
 rcases ht.rr r hr with⟨_,h2,h3,h4⟩ | ⟨h1,_⟩
 ·exact⟨h2,h3,h4⟩
 ·omega
theorem Mq{t:Tp}(ht:CKP t){r:Nat}(hr:r<t.rs.length)(hs:(rG t.rs r).h=-1)(hn:t.hs.length+2≤256)(hV:t.V+1≤257):
 gS (t.V,t.F,t.hs.map tH,t.rs.map tR,(r:Int),(-1:Int),())=some (yE (lz (iP t r)) 0):=by
 have hk:=ht.toHok
 have hz:=hk.toSz
 have hV0:=ht.V0
 have hF1:=ht.F1
 have hR:=ht.R
 have hro:gQ t 2 1 0 0=true:=by
  unfold gQ;simp only[cS,bE];omega
 have hi1:rD (r:Int) (t.rs.length:Int)=true:=bZ.2 ⟨by omega,by omega⟩
 have d1:decide ((-1:Int)=-1)=true:=rfl
 have hwV:wr .i64 (t.V+1)=t.V+1:=fQ (by omega) (by omega)
 obtain⟨L1,hL1⟩:∃L1,L1=t.hs++[Hf.mk (rG t.rs r).v 0 0 0,Hf.mk t.V 0 0 0]:=⟨_,rfl⟩
 have hl1:L1.length=t.hs.length+2:=by rw[hL1];simp
 obtain⟨L2,hL2⟩:∃L2,L2=lk (lk L1 t.hs.length (t.hs.length+1)) (t.hs.length+1) t.hs.length:=⟨_,rfl⟩
 have hl2:L2.length=t.hs.length+2:=by rw[hL2,aG,aG,hl1]
 have g2:∀y,y<t.hs.length+2→hG L2 y={ hG (iP t r).hs y with r:=if y<t.hs.length then (hG t.hs y).r else 0 }:=fun y hy=>by
  rw[hL2,bF (by simp only[aG,hl1];omega) (by simp only[aG,hl1];omega),bF (by omega) (by omega),hL1]
  by_cases a1:y<t.hs.length
  ·rw[fV a1,uB a1]
   simp only[aC a1,aA (show ¬t.hs.length+1=y by omega),aA (show ¬t.hs.length=y by omega)]
  ·by_cases a2:y=t.hs.length
   ·subst a2
    rw[oH,vR]
    simp only[aA a1,aA (show ¬t.hs.length+1=t.hs.length by omega),eY]
   ·have a3:y=t.hs.length+1:=by omega
    subst a3
    rw[oJ,xB]
    simp only[aA a1,aA (show ¬t.hs.length=t.hs.length+1 by omega),eY]
 have k1:=wY (V:=t.V+1) (F:=t.F) (rs:=t.rs.map tR) (hs:=L1) (a:=t.hs.length) (b:=t.hs.length+1) (by omega) (by omega)
 have k2:=wY (V:=t.V+1) (F:=t.F) (rs:=t.rs.map tR) (hs:=lk L1 t.hs.length (t.hs.length+1)) (a:=t.hs.length+1) (b:=t.hs.length) (by simp only[aG];omega) (by simp only[aG];omega)
 have hcy:bz (nx ⟨t.V+1,t.F,L2,t.rs⟩) t.hs.length [t.hs.length+1]:=Mn _ _ _ _ _ (by rw[g2 _ (by omega),vR]) (by rw[g2 _ (by omega),xB])
 have hb:∀y∈t.hs.length::[t.hs.length+1],y<L2.length:=fun y hy=>by
  rw[hl2]
  simp only[cJ,JC,EY] at hy
  omega
 have hset:=wZ (V:=t.V+1) (F:=t.F) (rs:=t.rs) (by omega) hcy hb (fun y hy=>by
  simp only[cJ,JC,EY] at hy
  rcases hy with e | e
  ·subst e;show _=(((hG L2 (t.hs.length:Nat)).n).toNat:Int);rw[g2 _ (by omega),vR];rfl
  ·subst e;show _=(((hG L2 ((t.hs.length+1:Nat):Int)).n).toNat:Int);rw[g2 _ (by omega),xB];rfl) hr
 have hst:lC ⟨t.V+1,t.F,L2,t.rs⟩ t.hs.length [t.hs.length+1] r=iP t r:=by
  have h1:au L2 (t.hs.length::[t.hs.length+1]) (r:Int)=(iP t r).hs:=by
   refine AO (by rw[cO,hl2,nB]) fun j hj=>?_
   rw[cO,hl2] at hj
   rw[eM _ _ _ _ hb,g2 j hj]
   by_cases a1:j<t.hs.length
   ·have hnm:j∉t.hs.length::[t.hs.length+1]:=by
     simp only[cJ,JC,EY];omega
    rw[aA hnm,uB a1]
    simp only[aC a1]
   ·have hm:j∈t.hs.length::[t.hs.length+1]:=by
     simp only[cJ,JC,EY];omega
    rw[aC hm]
    by_cases a2:j=t.hs.length
    ·subst a2;rw[vR]
    ·have a3:j=t.hs.length+1:=by omega
     subst a3;rw[xB]
  unfold lC
  simp only[h1]
  rfl
 rw[hst] at hset
 have hls:=FO (V:=t.V+1) (F:=t.F) (hs:=(iP t r).hs) (rs:=(iP t r).rs) (by rw[nB];omega) (by show (t.rs.set _ _).length≤_;rw[dP];omega)
 have hms:(⟨t.V+1,t.F,(iP t r).hs,(iP t r).rs⟩:Tp)=iP t r:=rfl
 unfold gS
 simp only[bM ht,mH hz,DH hz,hro,fU,bL,bT,hi1,aH,cK,bD,bH,aN,aK,iK (l:=t.rs) (i:=(r:Int)) (by omega) (by omega),zF,FH,hs,aJ,PR,T9,aF (n:=(t.rs.length:Int)) (i:=r) (by omega),aY,sF hr,bC,aS,hwV,FL (hs:=t.hs) (by omega),←hL1,k1,k2,←hL2,hset,hls,hms]
 rfl
theorem Eo{t:Tp}(ht:CKP t){r:Nat}(hr:r<t.rs.length)(hs:(rG t.rs r).h=-1)(hn:t.hs.length+2≤256)(hV:t.V+1≤257):
 cM (t.V,t.F,t.hs.map tH,t.rs.map tR,(r:Int),(-1:Int),())=some (yE (lz (iP t r)) 0):=by
 have hk:=ht.toHok
 have hz:=hk.toSz
 have hV0:=ht.V0
 have hF1:=ht.F1
 have hR:=ht.R
 have hro:gQ t 2 1 0 0=true:=by
  unfold gQ;simp only[cS,bE];omega
 have hi1:rD (r:Int) (t.rs.length:Int)=true:=bZ.2 ⟨by omega,by omega⟩
 have d1:decide ((-1:Int)=-1)=true:=rfl
 have d3:decide ((-1:Int)<0)=true:=rfl
 have hwV:wr .i64 (t.V+1)=t.V+1:=fQ (by omega) (by omega)
 obtain⟨L1,hL1⟩:∃L1,L1=t.hs++[Hf.mk (rG t.rs r).v 0 0 (r:Int),Hf.mk t.V 0 0 (r:Int)]:=⟨_,rfl⟩
 have hl1:L1.length=t.hs.length+2:=by rw[hL1];simp
 have hL2:lk (lk L1 t.hs.length (t.hs.length+1)) (t.hs.length+1) t.hs.length=(iP t r).hs:=by
  refine AO (by rw[aG,aG,hl1,nB]) fun y hy=>?_
  rw[aG,aG,hl1] at hy
  rw[bF (by simp only[aG,hl1];omega) (by simp only[aG,hl1];omega),bF (by omega) (by omega),hL1]
  by_cases a1:y<t.hs.length
  ·rw[fV a1,uB a1]
   simp only[aA (show ¬t.hs.length+1=y by omega),aA (show ¬t.hs.length=y by omega)]
  ·by_cases a2:y=t.hs.length
   ·subst a2
    rw[oH,vR]
    simp only[aA (show ¬t.hs.length+1=t.hs.length by omega),eY]
   ·have a3:y=t.hs.length+1:=by omega
    subst a3
    rw[oJ,xB]
    simp only[aA (show ¬t.hs.length=t.hs.length+1 by omega),eY]
 have k1:=xA (V:=t.V+1) (F:=t.F) (rs:=t.rs.map tR) (hs:=L1) (a:=t.hs.length) (b:=t.hs.length+1) (by omega) (by omega)
 have k2:=xA (V:=t.V+1) (F:=t.F) (rs:=t.rs.map tR) (hs:=lk L1 t.hs.length (t.hs.length+1)) (a:=t.hs.length+1) (b:=t.hs.length) (by simp only[aG];omega) (by simp only[aG];omega)
 have hrg:ei (iP t r).hs t.rs.length:=fun k hk2=>by
  rw[nB] at hk2
  by_cases a1:k<t.hs.length
  ·rw[uB a1];exact hk.kg k a1
  ·by_cases a2:k=t.hs.length
   ·subst a2;rw[vR];show 0≤(r:Int)∧(r:Int)<_;omega
   ·have a3:k=t.hs.length+1:=by omega
    subst a3;rw[xB];show 0≤(r:Int)∧(r:Int)<_;omega
 have hd:=BD (V:=t.V+1) (F:=t.F) (hs:=(iP t r).hs) (rs:=t.rs.set r { rG t.rs r with v:=-1 }) (by rw[nB];omega) (by rw[dP];omega) (by rw[dP];exact hrg)
 unfold cM
 simp only[bN ht,bV,cN,DK hz,hro,bL,hi1,aH,aP,d3,cK,bD,bH,aN,aK,qM hr hs,oV hz,aF (n:=(t.rs.length:Int)) (i:=r) (by omega),aY,sF hr,FH,aJ,aS,hwV,FP (hs:=t.hs) (by omega),←hL1,k1,k2,hL2,bY,FK,wK,hd]
 rw[Mo ht hr]
 rfl
theorem vS{t:Tp}(h:¬CKP t):eX (t.V,t.F,t.hs.map tH,t.rs.map tR,())=some (false,())∧cE (t.V,t.F,t.hs.map tH,t.rs.map tR,())=some (false,()):=by
 have hf:Tt t=false:=UH.2 fun h2=>h (G1.1 h2)
 have h1:=QZ t
 have h2:=J3 t
 rw[hf] at h1 h2
 exact⟨h1,h2⟩
def mk{α:Type}(g:α→α)(l:List α)(k:Nat):List α:=(l.take k).map g++l.drop k
theorem AP{α:Type}(g:α→α)(l:List α)(k:Nat):(mk g l k).length=l.length:=by unfold mk;simp;omega
theorem vT{α:Type}(g:α→α)(l:List α):mk g l 0=l:=by simp[mk]
theorem AQ{α:Type}(g:α→α)(l:List α):mk g l l.length=l.map g:=by simp[mk]
theorem xC{α:Type}(g:α→α)(l:List α){k:Nat}(h:k<l.length):(mk g l k)[k]?=l[k]?:=by
 unfold mk
 rw[HD (by simp;omega),dM,nM,OQ (by omega),UE,tO]
 rfl
theorem yN{α:Type}(g:α→α){l:List α}{k:Nat}{x:α}(h:l[k]?=some x):(mk g l k).set k (g x)=mk g l (k+1):=by
 obtain⟨hk,hx⟩:=dL.1 h
 unfold mk
 rw[JB,aA (by simp;omega),dM,nM,OQ (by omega),UE,UJ hk,DY,I7]
 congr 1
 rw[ZJ hk,hx]
 rfl
theorem xQ{α:Type}(g:α→α){l:List α}{k:Nat}{x:α}(h:l[k]?=some x)(hg:g x=x):mk g l (k+1)=mk g l k:=by
 rw[←yN g h,hg]
 exact kO (by rw[xC g l (dL.1 h).1];exact h)
theorem vU{l:List Hf}(g:Hf→Hf){j:Nat}(h:j<l.length):hG (l.map g) j=g (hG l j):=by
 have h1:(l.map g)[j]?=some (hG (l.map g) j):=sD _ _ (by simpa using h)
 rw[fF,sD _ _ h] at h1
 exact(OR h1).symm
theorem BY{l:List Rg}(g:Rg→Rg){j:Nat}(h:j<l.length):rG (l.map g) j=g (rG l j):=by
 have h1:(l.map g)[j]?=some (rG (l.map g) j):=vN _ _ (by simpa using h)
 rw[fF,vN _ _ h] at h1
 exact(OR h1).symm
theorem Ql{l:List Rg}{k j:Nat}(h:j<k):rG (l.take k) j=rG l j:=by
 unfold rG;rw[nO,jY,jY,List.getElem?_take_of_lt h]
def gF(a b:Int)(x:Hf):Hf:=if x.f=a then { x with f:=b } else x
def gR(a b:Int)(x:Hf):Hf:=if x.r=a then { x with r:=b } else x
def gV(a b:Int)(x:Rg):Rg:=if x.v=a then { x with v:=b } else x
def gC(a b:Int)(x:Rg):Rg:=if x.c=a then { x with c:=b } else x
def dV(t:Tp)(v:Int):Tp:=⟨t.V-1,t.F,t.hs.map (gF (t.V-1) v),t.rs.map (gV (t.V-1) v)⟩
def dF(t:Tp)(f:Int):Tp:=⟨t.V,t.F-1,t.hs,t.rs.map (gC (t.F-1) f)⟩
def dR(t:Tp)(r:Nat):Tp:=⟨t.V,t.F,t.hs.map (gR ((t.rs.length-1:Nat):Int) (r:Int)),(t.rs.set r (rG t.rs (t.rs.length-1:Nat))).take (t.rs.length-1)⟩
theorem Q3{V F:Int}{hs:List Hf}{rs:List Rg}(h:1<rs.length∧rs.length≤1000)(b:Nat):0<(dR ⟨V,F,hs,rs⟩ b).rs.length∧(dR ⟨V,F,hs,rs⟩ b).rs.length≤1000:=by
 show 0<(List.take _ (List.set _ _ _)).length∧(List.take _ (List.set _ _ _)).length≤_
 rw[nM,dP]
 exact⟨Nat.lt_min.2 ⟨by show 0<rs.length-1;omega,by show 0<rs.length;omega⟩,H7 (Nat.min_le_right _ _) h.2⟩
theorem Vw{V F:Int}{rs:List T}{l:List Hf}(hn:l.length≤1000)(v:Int):bU kC ((),v,0,V,F,l.map tH,rs,())=some (.inl ((),v,V,F,(l.map (gF V v)).map tH,rs,())):=by
 have h1:=bX (F:=kC) l.length (fun k=>((),v,(k:Int),V,F,(mk (gF V v) l k).map tH,rs,())) (fun k hk=>by
  have hlt:decide ((k:Int)<(l.length:Int))=true:=aR (by omega)
  have hx:=sD l k hk
  have hlen:(mk (gF V v) l k).length=l.length:=AP _ _ _
  have hg:((mk (gF V v) l k).map tH)[k]?=some (tH (hG l k)):=by rw[fF,xC _ _ hk,hx];rfl
  unfold kC
  simp only[aP,bT,hlen,hlt,aN,aF (n:=(l.length:Int)) (i:=k) (by omega),bD,aY,hg,sO,aJ,aH]
  by_cases e:(hG l k).f=V
  ·have hgx:gF V v (hG l k)={ hG l k with f:=v }:=aC e
   rw[←yN (gF V v) hx,hgx]
   simp only[aR e,aN,bD,bY,Vv,BX,bC,aS,wk (k:=k) (by omega)]
  ·rw[xQ (gF V v) hx (aA e)]
   simp only[aW e,aK,bD,bC,aS,wk (k:=k) (by omega)])
 have e0:((),v,(0:Int),V,F,l.map tH,rs,())=((),v,((0:Nat):Int),V,F,(mk (gF V v) l 0).map tH,rs,()):=by rw[vT];rfl
 rw[e0,h1]
 refine bK ?_
 have hlt:decide ((l.length:Int)<(l.length:Int))=false:=aW (by omega)
 unfold kC
 simp only[aP,AQ,bT,dM,hlt,aK]
theorem Vx{V F:Int}{hs:List T}{l:List Rg}(hn:l.length≤1000)(v:Int):bU kD ((),v,0,V,F,hs,l.map tR,())=some (.inl (V,F,hs,(l.map (gV V v)).map tR,())):=by
 have h1:=bX (F:=kD) l.length (fun k=>((),v,(k:Int),V,F,hs,(mk (gV V v) l k).map tR,())) (fun k hk=>by
  have hlt:decide ((k:Int)<(l.length:Int))=true:=aR (by omega)
  have hx:=vN l k hk
  have hlen:(mk (gV V v) l k).length=l.length:=AP _ _ _
  have hg:((mk (gV V v) l k).map tR)[k]?=some (tR (rG l k)):=by rw[fF,xC _ _ hk,hx];rfl
  unfold kD
  simp only[aP,bL,hlen,hlt,aN,aF (n:=(l.length:Int)) (i:=k) (by omega),bD,aY,hg,FH,aJ,aH]
  by_cases e:(rG l k).v=V
  ·have hgx:gV V v (rG l k)={ rG l k with v:=v }:=aC e
   rw[←yN (gV V v) hx,hgx]
   simp only[aR e,aN,bD,bY,FK,wK,bC,aS,wk (k:=k) (by omega)]
  ·rw[xQ (gV V v) hx (aA e)]
   simp only[aW e,aK,bD,bC,aS,wk (k:=k) (by omega)])
 have e0:((),v,(0:Int),V,F,hs,l.map tR,())=((),v,((0:Nat):Int),V,F,hs,(mk (gV V v) l 0).map tR,()):=by rw[vT];rfl
 rw[e0,h1]
 refine bK ?_
 have hlt:decide ((l.length:Int)<(l.length:Int))=false:=aW (by omega)
 unfold kD
 simp only[aP,AQ,bL,dM,hlt,aK]
theorem V7{t:Tp}(hn:t.hs.length≤1000)(hR:t.rs.length≤1000)(hV:0≤t.V∧t.V≤1000)(v:Int):qN ((),v,t.V,t.F,t.hs.map tH,t.rs.map tR,())=some (oF (dV t v)):=by
 have hw:wr .i64 (t.V-1)=t.V-1:=fQ (by omega) (by omega)
 unfold qN
 simp only[nI,hw,Vw hn,bD,bC,Vx hR]
 rfl
theorem Vy{V F:Int}{hs:List T}{l:List Rg}(hn:l.length≤1000)(f:Int):bU lV ((),f,0,V,F,hs,l.map tR,())=some (.inl (V,F,hs,(l.map (gC F f)).map tR,())):=by
 have h1:=bX (F:=lV) l.length (fun k=>((),f,(k:Int),V,F,hs,(mk (gC F f) l k).map tR,())) (fun k hk=>by
  have hlt:decide ((k:Int)<(l.length:Int))=true:=aR (by omega)
  have hx:=vN l k hk
  have hlen:(mk (gC F f) l k).length=l.length:=AP _ _ _
  have hg:((mk (gC F f) l k).map tR)[k]?=some (tR (rG l k)):=by rw[fF,xC _ _ hk,hx];rfl
  unfold lV
  simp only[aP,bL,hlen,hlt,aN,aF (n:=(l.length:Int)) (i:=k) (by omega),bD,aY,hg,fN,aJ,aH]
  by_cases e:(rG l k).c=F
  ·have hgx:gC F f (rG l k)={ rG l k with c:=f }:=aC e
   rw[←yN (gC F f) hx,hgx]
   simp only[aR e,aN,bD,bY,Hx,wK,bC,aS,wk (k:=k) (by omega)]
  ·rw[xQ (gC F f) hx (aA e)]
   simp only[aW e,aK,bD,bC,aS,wk (k:=k) (by omega)])
 have e0:((),f,(0:Int),V,F,hs,l.map tR,())=((),f,((0:Nat):Int),V,F,hs,(mk (gC F f) l 0).map tR,()):=by rw[vT];rfl
 rw[e0,h1]
 refine bK ?_
 have hlt:decide ((l.length:Int)<(l.length:Int))=false:=aW (by omega)
 unfold lV
 simp only[aP,AQ,bL,dM,hlt,aK]
theorem Cd{t:Tp}(hR:t.rs.length≤1000)(hF:0≤t.F∧t.F≤1000)(f:Int):kH ((),f,t.V,t.F,t.hs.map tH,t.rs.map tR,())=some (oF (dF t f)):=by
 have hw:wr .i64 (t.F-1)=t.F-1:=fQ (by omega) (by omega)
 unfold kH
 simp only[nI,hw,Vy hR,bD,bC]
 rfl
theorem Vz{V F:Int}{rs:List T}{l:List Hf}(hn:l.length≤1000)(r q:Int):bU lW ((),r,q,0,V,F,l.map tH,rs,())=some (.inl (V,F,(l.map (gR q r)).map tH,rs,())):=by
 have h1:=bX (F:=lW) l.length (fun k=>((),r,q,(k:Int),V,F,(mk (gR q r) l k).map tH,rs,())) (fun k hk=>by
  have hlt:decide ((k:Int)<(l.length:Int))=true:=aR (by omega)
  have hx:=sD l k hk
  have hlen:(mk (gR q r) l k).length=l.length:=AP _ _ _
  have hg:((mk (gR q r) l k).map tH)[k]?=some (tH (hG l k)):=by rw[fF,xC _ _ hk,hx];rfl
  unfold lW
  simp only[aP,bT,hlen,hlt,aN,aF (n:=(l.length:Int)) (i:=k) (by omega),bD,aY,hg,jV,aJ,aH]
  by_cases e:(hG l k).r=q
  ·have hgx:gR q r (hG l k)={ hG l k with r:=r }:=aC e
   rw[←yN (gR q r) hx,hgx]
   simp only[aR e,aN,bD,bY,Hw,BX,bC,aS,wk (k:=k) (by omega)]
  ·rw[xQ (gR q r) hx (aA e)]
   simp only[aW e,aK,bD,bC,aS,wk (k:=k) (by omega)])
 have e0:((),r,q,(0:Int),V,F,l.map tH,rs,())=((),r,q,((0:Nat):Int),V,F,(mk (gR q r) l 0).map tH,rs,()):=by rw[vT];rfl
 rw[e0,h1]
 refine bK ?_
 have hlt:decide ((l.length:Int)<(l.length:Int))=false:=aW (by omega)
 unfold lW
 simp only[aP,AQ,bT,dM,hlt,aK]
theorem Wa(x:Rg)(a b c:Int):T.ax 3 (tR x) 0 [tI a,tI b,tI c]=tR ⟨a,b,c⟩:=by unfold T.ax;rfl
theorem Mr{n m:Nat}(h:m≤n):JH (n:Int) 0 (m:Int)=some (0,m):=by
 unfold JH;rw[aC ⟨by omega,by omega,by omega⟩,Int.sub_zero,nO];rfl
theorem Ms{α:Type}(l:List α)(m:Nat):oC l 0 m=l.take m:=by unfold oC;rw[T4]
theorem Q4{t:Tp}(hn:t.hs.length≤1000)(hR:t.rs.length≤1000){r:Nat}(hr:r<t.rs.length):gO ((),(r:Int),t.V,t.F,t.hs.map tH,t.rs.map tR,())=some (oF (dR t r)):=by
 have hw:wr .i64 ((t.rs.length:Int)-1)=((t.rs.length-1:Nat):Int):=by rw[fQ (by omega) (by omega)];omega
 have heta:∀z:Rg,(⟨z.h,z.v,z.c⟩:Rg)=z:=fun z=>rfl
 unfold gO
 simp only[bL,nI,hw,aF (n:=(t.rs.length:Int)) (i:=t.rs.length-1) (by omega),aF (n:=(t.rs.length:Int)) (i:=r) (by omega),bD,aY,sF (l:=t.rs) (k:=t.rs.length-1) (by omega),sF hr,zF,FH,fN,aJ,bY,Wa,heta,wK,dP,Mr (n:=t.rs.length) (m:=t.rs.length-1) (by omega),Ms,Vz hn,bC]
 unfold oF dR
 simp only[K9]
theorem Wb{V F:Int}{rs:List T}{l:List Hf}(hn:l.length≤1000)(v:Int):bU eV ((),v,(l.length:Int),0,V,F,l.map tH,rs,())=some (.inl ((),v,V,F,(l.map (gF V v)).map tH,rs,())):=by
 have h1:=bX (F:=eV) l.length (fun k=>((),v,(l.length:Int),(k:Int),V,F,(mk (gF V v) l k).map tH,rs,())) (fun k hk=>by
  have hlt:decide ((k:Int)<(l.length:Int))=true:=aR (by omega)
  have hx:=sD l k hk
  have hlen:(mk (gF V v) l k).length=l.length:=AP _ _ _
  have hg:((mk (gF V v) l k).map tH)[k]?=some (tH (hG l k)):=by rw[fF,xC _ _ hk,hx];rfl
  unfold eV
  simp only[aP,bT,hlen,hlt,aN,aF (n:=(l.length:Int)) (i:=k) (by omega),bD,aY,hg,sO,aJ,aH]
  by_cases e:(hG l k).f=V
  ·have hgx:gF V v (hG l k)={ hG l k with f:=v }:=aC e
   rw[←yN (gF V v) hx,hgx]
   simp only[aR e,aN,bD,bY,Vv,BX,bC,aS,wk (k:=k) (by omega)]
  ·rw[xQ (gF V v) hx (aA e)]
   simp only[aW e,aK,bD,bC,aS,wk (k:=k) (by omega)])
 have e0:((),v,(l.length:Int),(0:Int),V,F,l.map tH,rs,())=((),v,(l.length:Int),((0:Nat):Int),V,F,(mk (gF V v) l 0).map tH,rs,()):=by rw[vT];rfl
 rw[e0,h1]
 refine bK ?_
 have hlt:decide ((l.length:Int)<(l.length:Int))=false:=aW (by omega)
 unfold eV
 simp only[aP,AQ,hlt,aK]
theorem Wc{V F:Int}{hs:List T}{l:List Rg}(hn:l.length≤1000)(v:Int):bU eW ((),v,(l.length:Int),0,V,F,hs,l.map tR,())=some (.inl (V,F,hs,(l.map (gV V v)).map tR,())):=by
 have h1:=bX (F:=eW) l.length (fun k=>((),v,(l.length:Int),(k:Int),V,F,hs,(mk (gV V v) l k).map tR,())) (fun k hk=>by
  have hlt:decide ((k:Int)<(l.length:Int))=true:=aR (by omega)
  have hx:=vN l k hk
  have hlen:(mk (gV V v) l k).length=l.length:=AP _ _ _
  have hg:((mk (gV V v) l k).map tR)[k]?=some (tR (rG l k)):=by rw[fF,xC _ _ hk,hx];rfl
  unfold eW
  simp only[aP,bL,hlen,hlt,aN,aF (n:=(l.length:Int)) (i:=k) (by omega),bD,aY,hg,FH,aJ,aH]
  by_cases e:(rG l k).v=V
  ·have hgx:gV V v (rG l k)={ rG l k with v:=v }:=aC e
   rw[←yN (gV V v) hx,hgx]
   simp only[aR e,aN,bD,bY,FK,wK,bC,aS,wk (k:=k) (by omega)]
  ·rw[xQ (gV V v) hx (aA e)]
   simp only[aW e,aK,bD,bC,aS,wk (k:=k) (by omega)])
 have e0:((),v,(l.length:Int),(0:Int),V,F,hs,l.map tR,())=((),v,(l.length:Int),((0:Nat):Int),V,F,hs,(mk (gV V v) l 0).map tR,()):=by rw[vT];rfl
 rw[e0,h1]
 refine bK ?_
 have hlt:decide ((l.length:Int)<(l.length:Int))=false:=aW (by omega)
 unfold eW
 simp only[aP,AQ,hlt,aK]
theorem V8{t:Tp}(hn:t.hs.length≤1000)(hR:t.rs.length≤1000)(hV:0≤t.V∧t.V≤1000)(v:Int):gZ ((),v,t.V,t.F,t.hs.map tH,t.rs.map tR,())=some (oF (dV t v)):=by
 have hw:wr .i64 (t.V-1)=t.V-1:=fQ (by omega) (by omega)
 unfold gZ
 simp only[bT,bL,nI,hw,Wb hn,bD,bC,Wc hR]
 rfl
theorem Wd{V F:Int}{hs:List T}{l:List Rg}(hn:l.length≤1000)(f:Int):bU fH ((),f,(l.length:Int),0,V,F,hs,l.map tR,())=some (.inl (V,F,hs,(l.map (gC F f)).map tR,())):=by
 have h1:=bX (F:=fH) l.length (fun k=>((),f,(l.length:Int),(k:Int),V,F,hs,(mk (gC F f) l k).map tR,())) (fun k hk=>by
  have hlt:decide ((k:Int)<(l.length:Int))=true:=aR (by omega)
  have hx:=vN l k hk
  have hlen:(mk (gC F f) l k).length=l.length:=AP _ _ _
  have hg:((mk (gC F f) l k).map tR)[k]?=some (tR (rG l k)):=by rw[fF,xC _ _ hk,hx];rfl
  unfold fH
  simp only[aP,bL,hlen,hlt,aN,aF (n:=(l.length:Int)) (i:=k) (by omega),bD,aY,hg,fN,aJ,aH]
  by_cases e:(rG l k).c=F
  ·have hgx:gC F f (rG l k)={ rG l k with c:=f }:=aC e
   rw[←yN (gC F f) hx,hgx]
   simp only[aR e,aN,bD,bY,Hx,wK,bC,aS,wk (k:=k) (by omega)]
  ·rw[xQ (gC F f) hx (aA e)]
   simp only[aW e,aK,bD,bC,aS,wk (k:=k) (by omega)])
 have e0:((),f,(l.length:Int),(0:Int),V,F,hs,l.map tR,())=((),f,(l.length:Int),((0:Nat):Int),V,F,hs,(mk (gC F f) l 0).map tR,()):=by rw[vT];rfl
 rw[e0,h1]
 refine bK ?_
 have hlt:decide ((l.length:Int)<(l.length:Int))=false:=aW (by omega)
 unfold fH
 simp only[aP,AQ,hlt,aK]
theorem Q5{t:Tp}(hR:t.rs.length≤1000)(hF:0≤t.F∧t.F≤1000)(f:Int):dU ((),f,t.V,t.F,t.hs.map tH,t.rs.map tR,())=some (oF (dF t f)):=by
 have hw:wr .i64 (t.F-1)=t.F-1:=fQ (by omega) (by omega)
 unfold dU
 simp only[bL,nI,hw,Wd hR,bD,bC]
 rfl
theorem We{V F:Int}{rs:List T}{l:List Hf}(hn:l.length≤1000)(r q:Int):bU fI ((),r,q,(l.length:Int),0,V,F,l.map tH,rs,())=some (.inl (V,F,(l.map (gR q r)).map tH,rs,())):=by
 have h1:=bX (F:=fI) l.length (fun k=>((),r,q,(l.length:Int),(k:Int),V,F,(mk (gR q r) l k).map tH,rs,())) (fun k hk=>by
  have hlt:decide ((k:Int)<(l.length:Int))=true:=aR (by omega)
  have hx:=sD l k hk
  have hlen:(mk (gR q r) l k).length=l.length:=AP _ _ _
  have hg:((mk (gR q r) l k).map tH)[k]?=some (tH (hG l k)):=by rw[fF,xC _ _ hk,hx];rfl
  unfold fI
  simp only[aP,bT,hlen,hlt,aN,aF (n:=(l.length:Int)) (i:=k) (by omega),bD,aY,hg,jV,aJ,aH]
  by_cases e:(hG l k).r=q
  ·have hgx:gR q r (hG l k)={ hG l k with r:=r }:=aC e
   rw[←yN (gR q r) hx,hgx]
   simp only[aR e,aN,bD,bY,Hw,BX,bC,aS,wk (k:=k) (by omega)]
  ·rw[xQ (gR q r) hx (aA e)]
   simp only[aW e,aK,bD,bC,aS,wk (k:=k) (by omega)])
 have e0:((),r,q,(l.length:Int),(0:Int),V,F,l.map tH,rs,())=((),r,q,(l.length:Int),((0:Nat):Int),V,F,(mk (gR q r) l 0).map tH,rs,()):=by rw[vT];rfl
 rw[e0,h1]
 refine bK ?_
 have hlt:decide ((l.length:Int)<(l.length:Int))=false:=aW (by omega)
 unfold fI
 simp only[aP,AQ,hlt,aK]
theorem Q6{t:Tp}(hn:t.hs.length≤1000)(hR:t.rs.length≤1000){r:Nat}(hr:r<t.rs.length):bR ((),(r:Int),t.V,t.F,t.hs.map tH,t.rs.map tR,())=some (oF (dR t r)):=by
 have hw:wr .i64 ((t.rs.length:Int)-1)=((t.rs.length-1:Nat):Int):=by rw[fQ (by omega) (by omega)];omega
 have heta:∀z:Rg,(⟨z.h,z.v,z.c⟩:Rg)=z:=fun z=>rfl
 unfold bR
 simp only[bL,bT,nI,hw,aF (n:=(t.rs.length:Int)) (i:=t.rs.length-1) (by omega),aF (n:=(t.rs.length:Int)) (i:=r) (by omega),bD,aY,sF (l:=t.rs) (k:=t.rs.length-1) (by omega),sF hr,zF,FH,fN,aJ,bY,Wa,heta,wK,dP,Mr (n:=t.rs.length) (m:=t.rs.length-1) (by omega),Ms,We hn,bC]
 unfold oF dR
 simp only[K9]
def Of(hs:List Hf)(h:Nat):List Hf:=(hs.set (2*(h/2)) (hG hs (2*(hs.length/2-1):Nat))).set (2*(h/2)+1) (hG hs (2*(hs.length/2-1)+1:Nat))
theorem G4(hs:List Hf)(h:Nat):(Of hs h).length=hs.length:=by simp[Of]
theorem Qm{V F:Int}{rs:List T}{hs:List Hf}(hn:hs.length≤1000)(he:hs.length%2=0){h:Nat}(hh:h<hs.length):
 bU jW ((),((h/2:Nat):Int),((hs.length/2-1:Nat):Int),0,V,F,hs.map tH,rs,())=some (.inl ((),((h/2:Nat):Int),((hs.length/2-1:Nat):Int),V,F,(Of hs h).map tH,rs,())):=by
 have heta:∀z:Hf,(⟨z.f,z.n,z.p,z.r⟩:Hf)=z:=fun z=>rfl
 by_cases hl:h/2=hs.length/2-1
 ·have hc:Of hs h=hs:=by
   unfold Of
   rw[hl]
   rw[kO (l:=hs) (sD hs _ (by omega))]
   exact kO (sD hs _ (by omega))
  rw[hc]
  refine bK ?_
  have d1:decide ((0:Int)<2)=true:=rfl
  have d2:decide (((h/2:Nat):Int)=((hs.length/2-1:Nat):Int))=true:=aR (by omega)
  unfold jW
  simp only[aP,d1,aH,d2,aN,bH,aK]
 ·have d2:decide (((h/2:Nat):Int)=((hs.length/2-1:Nat):Int))=false:=aW (by omega)
  have w3:wr .i64 (2*((hs.length/2-1:Nat):Int))=((2*(hs.length/2-1):Nat):Int):=by rw[fQ (by omega) (by omega)];push_cast;rfl
  have w6:wr .i64 (2*((h/2:Nat):Int))=((2*(h/2):Nat):Int):=by rw[fQ (by omega) (by omega)];push_cast;rfl
  have s0:jW ((),((h/2:Nat):Int),((hs.length/2-1:Nat):Int),0,V,F,hs.map tH,rs,())=some (.inl ((),((h/2:Nat):Int),((hs.length/2-1:Nat):Int),1,V,F,(hs.set (2*(h/2)) (hG hs (2*(hs.length/2-1):Nat))).map tH,rs,())):=by
   have d1:decide ((0:Int)<2)=true:=rfl
   have w4:wr .i64 (((2*(hs.length/2-1):Nat):Int)+0)=((2*(hs.length/2-1):Nat):Int):=by rw[fQ (by omega) (by omega)];omega
   have w7:wr .i64 (((2*(h/2):Nat):Int)+0)=((2*(h/2):Nat):Int):=by rw[fQ (by omega) (by omega)];omega
   have w1:wr .i64 ((0:Int)+1)=1:=fQ (by omega) (by omega)
   unfold jW
   simp only[aP,d1,aH,d2,aN,bW,bT,vI,w3,w6,aS,w4,w7,w1,aF (n:=(hs.length:Int)) (i:=2*(hs.length/2-1)) (by omega),aF (n:=(hs.length:Int)) (i:=2*(h/2)) (by omega),bD,aY,gJ (l:=hs) (k:=2*(hs.length/2-1)) (by omega),gJ (l:=hs) (k:=2*(h/2)) (by omega),sO,mY,mG,jV,aJ,bY,Tw,heta,BX]
  have s1:jW ((),((h/2:Nat):Int),((hs.length/2-1:Nat):Int),1,V,F,(hs.set (2*(h/2)) (hG hs (2*(hs.length/2-1):Nat))).map tH,rs,())=some (.inl ((),((h/2:Nat):Int),((hs.length/2-1:Nat):Int),2,V,F,(Of hs h).map tH,rs,())):=by
   have d1:decide ((1:Int)<2)=true:=rfl
   have w4:wr .i64 (((2*(hs.length/2-1):Nat):Int)+1)=((2*(hs.length/2-1)+1:Nat):Int):=by rw[fQ (by omega) (by omega)];push_cast;rfl
   have w7:wr .i64 (((2*(h/2):Nat):Int)+1)=((2*(h/2)+1:Nat):Int):=by rw[fQ (by omega) (by omega)];push_cast;rfl
   have w1:wr .i64 ((1:Int)+1)=2:=fQ (by omega) (by omega)
   have hx:hG (hs.set (2*(h/2)) (hG hs (2*(hs.length/2-1):Nat))) (2*(hs.length/2-1)+1:Nat)=hG hs (2*(hs.length/2-1)+1:Nat):=by rw[DG (by omega),aA (by omega)]
   unfold jW
   simp only[aP,d1,aH,d2,aN,bW,bT,dP,vI,w3,w6,aS,w4,w7,w1,aF (n:=(hs.length:Int)) (i:=2*(hs.length/2-1)+1) (by omega),aF (n:=(hs.length:Int)) (i:=2*(h/2)+1) (by omega),bD,aY,gJ (l:=hs.set (2*(h/2)) (hG hs (2*(hs.length/2-1):Nat))) (k:=2*(hs.length/2-1)+1) (by rw[dP];omega),gJ (l:=hs.set (2*(h/2)) (hG hs (2*(hs.length/2-1):Nat))) (k:=2*(h/2)+1) (by rw[dP];omega),hx,sO,mY,mG,jV,aJ,bY,Tw,heta,BX]
   rfl
  rw[xY s0,xY s1]
  refine bK ?_
  have d1:decide ((2:Int)<2)=false:=rfl
  unfold jW
  simp only[aP,d1,aK]
theorem Qn{V F:Int}{rs:List T}{L:List Hf}{e l:Nat}(hn:L.length≤1000)(he:e≤1000)(hl:l≤1000)(hr:dr L):
 bU qU ((),(e:Int),(l:Int),0,V,F,L.map tH,rs,())=some (.inl ((),(l:Int),V,F,(L.map (WQ e l)).map tH,rs,())):=by
 have h1:=bX (F:=qU) L.length (fun k=>((),(e:Int),(l:Int),(k:Int),V,F,(mk (WQ e l) L k).map tH,rs,())) (fun k hk=>by
  have hlt:decide ((k:Int)<(L.length:Int))=true:=aR (by omega)
  obtain⟨h1,h2,h3,h4⟩:=hr k hk
  obtain⟨a,ha⟩:∃a:Nat,(hG L k).n=(a:Int):=⟨(hG L k).n.toNat,by omega⟩
  obtain⟨b,hb⟩:∃b:Nat,(hG L k).p=(b:Int):=⟨(hG L k).p.toNat,by omega⟩
  have hx:=sD L k hk
  have hlen:(mk (WQ e l) L k).length=L.length:=AP _ _ _
  have hg:((mk (WQ e l) L k).map tH)[k]?=some (tH (hG L k)):=by rw[fF,xC _ _ hk,hx];rfl
  have hg2:∀z:Hf,(((mk (WQ e l) L k).set k z).map tH)[k]?=some (tH z):=fun z=>by rw[fF,iJ (by omega)];rfl
  have wa:wr .i64 ((a:Int).tdiv 2)=((a/2:Nat):Int):=by rw[M5,fQ (by omega) (by omega)]
  have wb:wr .i64 ((b:Int).tdiv 2)=((b/2:Nat):Int):=by rw[M5,fQ (by omega) (by omega)]
  have we:wr .i64 (2*(e:Int))=2*(e:Int):=fQ (by omega) (by omega)
  have wa2:wr .i64 (2*(e:Int)+(a:Int).tmod 2)=((2*e+a%2:Nat):Int):=by rw[Em,fQ (by omega) (by omega)];push_cast;rfl
  have wb2:wr .i64 (2*(e:Int)+(b:Int).tmod 2)=((2*e+b%2:Nat):Int):=by rw[Em,fQ (by omega) (by omega)];push_cast;rfl
  have hcast:∀x y:Nat,x=y→decide ((x:Int)=(y:Int))=true:=fun x y h=>aR (by omega)
  have hcast':∀x y:Nat,x≠y→decide ((x:Int)=(y:Int))=false:=fun x y h=>aW (by omega)
  rw[←yN (WQ e l) hx]
  have hsame:(mk (WQ e l) L k).set k { hG L k with n:=(a:Int),p:=(b:Int) }=mk (WQ e l) L k:=by
   refine kO ?_
   rw[xC _ _ hk,hx,←ha,←hb]
  generalize mk (WQ e l) L k=M at *
  unfold WQ
  rw[ha,hb,nO,nO]
  unfold qU Ml
  by_cases e1:a/2=l
  ·by_cases e2:b/2=l
   ·simp only[aP,hlt,aN,bT,hlen,aF (n:=(L.length:Int)) (i:=k) (by omega),bD,aY,hg,mY,mG,ha,hb,aJ,vJ,wa,wb,aH,hcast _ _ e1,hcast _ _ e2,vI,we,qG,aS,wa2,wb2,bY,YN,YO,BX,hg2,DZ,wk (k:=k) (by omega),aC e1,aC e2]
   ·simp only[aP,hlt,aN,aK,bT,hlen,aF (n:=(L.length:Int)) (i:=k) (by omega),bD,aY,hg,mY,mG,ha,hb,aJ,vJ,wa,wb,aH,hcast _ _ e1,hcast' _ _ e2,vI,we,qG,aS,wa2,wb2,bY,YN,YO,BX,hg2,DZ,wk (k:=k) (by omega),aC e1,aA e2]
  ·by_cases e2:b/2=l
   ·simp only[aP,hlt,aN,aK,bT,hlen,aF (n:=(L.length:Int)) (i:=k) (by omega),bD,aY,hg,mY,mG,ha,hb,aJ,vJ,wa,wb,aH,hcast' _ _ e1,hcast _ _ e2,vI,we,qG,aS,wa2,wb2,bY,YN,YO,BX,hg2,DZ,wk (k:=k) (by omega),aA e1,aC e2]
   ·simp only[aP,hlt,aN,aK,bT,hlen,aF (n:=(L.length:Int)) (i:=k) (by omega),bD,aY,hg,mY,mG,ha,hb,aJ,vJ,wa,wb,aH,hcast' _ _ e1,hcast' _ _ e2,aS,wk (k:=k) (by omega),aA e1,aA e2,hsame])
 have e0:((),(e:Int),(l:Int),(0:Int),V,F,L.map tH,rs,())=((),(e:Int),(l:Int),((0:Nat):Int),V,F,(mk (WQ e l) L 0).map tH,rs,()):=by rw[vT];rfl
 rw[e0,h1]
 refine bK ?_
 have hlt:decide ((L.length:Int)<(L.length:Int))=false:=aW (by omega)
 unfold qU
 simp only[aP,AQ,bT,dM,hlt,aK]
theorem dr.cp{hs:List Hf}(h0:dr hs)(he:hs.length%2=0){h:Nat}(hh:h<hs.length):dr (Of hs h):=fun k hk=>by
 rw[G4] at hk
 unfold Of
 rw[DG (by rw[dP];omega),DG (by omega)]
 by_cases e1:2*(h/2)+1=k
 ·rw[aC e1];exact h0 _ (by omega)
 ·rw[aA e1]
  by_cases e2:2*(h/2)=k
  ·rw[aC e2];exact h0 _ (by omega)
  ·rw[aA e2];exact h0 _ hk
theorem V9{V F:Int}{rs:List T}{hs:List Hf}(hn:hs.length≤1000)(he:hs.length%2=0){h:Nat}(hh:h<hs.length)(hr:dr hs):
 mK ((),(h:Int),V,F,hs.map tH,rs,())=some (V,F,(dE hs h).map tH,rs,()):=by
 have w1:wr .i64 ((hs.length:Int).tdiv 2)=((hs.length/2:Nat):Int):=by rw[M5,fQ (by omega) (by omega)]
 have w2:wr .i64 (((hs.length/2:Nat):Int)-1)=((hs.length/2-1:Nat):Int):=by rw[fQ (by omega) (by omega)];omega
 have w3:wr .i64 (2*((hs.length/2-1:Nat):Int))=((2*(hs.length/2-1):Nat):Int):=by rw[fQ (by omega) (by omega)];push_cast;rfl
 have w5:wr .i64 ((h:Int).tdiv 2)=((h/2:Nat):Int):=by rw[M5,fQ (by omega) (by omega)]
 have hde:(((Of hs h).map (WQ (h/2) (hs.length/2-1))).map tH).take (2*(hs.length/2-1))=(dE hs h).map tH:=by
  rw[←K9,←K9]
  congr 1
  refine AO (by rw[oW,dM,nM,G4];omega) fun j hj=>?_
  rw[dM,nM,G4] at hj
  rw[vU _ (by rw[nM,G4];exact hj)]
  unfold dE
  rw[V4 _ _ _ (gB _),aC (by rw[N7];omega)]
  rfl
 unfold mK
 simp only[bT,vJ,w1,w5,nI,w2,Qm hn he hh,bD,bC,Qn (L:=Of hs h) (e:=h/2) (l:=hs.length/2-1) (by rw[G4];exact hn) (by omega) (by omega) (hr.cp he hh),vI,w3,dM,G4,Mr (n:=hs.length) (m:=2*(hs.length/2-1)) (by omega),Ms,hde]
def Q7(n h j:Nat):Nat:=if j/2=h/2 then 2*(n/2-1)+j%2 else j
theorem N8{n h j:Nat}(he:n%2=0)(hh:h<n)(hj:j<2*(n/2-1)):Q7 n h j<n∧Q7 n h j/2≠h/2:=by
 unfold Q7
 by_cases e:j/2=h/2
 ·rw[aC e];omega
 ·rw[aA e];exact⟨by omega,e⟩
theorem Mt{n h y:Nat}(he:n%2=0)(hh:h<n)(hy:y<n)(hne:y/2≠h/2):∃j,j<2*(n/2-1)∧Q7 n h j=y:=by
 by_cases e:y/2=n/2-1
 ·refine⟨2*(h/2)+y%2,by omega,?_⟩
  unfold Q7
  rw[aC (by omega)];omega
 ·refine⟨y,by omega,?_⟩
  unfold Q7
  rw[aA hne]
theorem DM{hs:List Hf}(he:hs.length%2=0){h:Nat}(hh:h<hs.length){j:Nat}(hj:j<2*(hs.length/2-1)):hG (dE hs h) j=WQ (h/2) (hs.length/2-1) (hG hs (Q7 hs.length h j:Nat)):=by
 rw[Mm he hh hj]
 unfold Q7
 by_cases e:j/2=h/2
 ·rw[aC e,aC e]
 ·rw[aA e,aA e]
theorem Ce{hs:List Hf}(he:hs.length%2=0){h:Nat}(hh:h<hs.length)(i:Int):(∃k,k<(dE hs h).length∧(hG (dE hs h) (k:Nat)).r=i)↔∃y,y<hs.length∧y/2≠h/2∧(hG hs (y:Nat)).r=i:=by
 rw[oW]
 constructor
 ·rintro ⟨k,hk,hr⟩
  have h1:=N8 he hh hk
  rw[DM he hh hk] at hr
  exact⟨_,h1.1,h1.2,hr⟩
 ·rintro ⟨y,hy,hne,hr⟩
  obtain⟨j,hj,e⟩:=Mt he hh hy hne
  refine⟨j,hj,?_⟩
  rw[DM he hh hj,e];exact hr
theorem gn{X:Tp}(h:∀i:Nat,i<X.rs.length→((∃k,k<X.hs.length∧(hG X.hs (k:Nat)).r=(i:Int))∧(rG X.rs i).h≠-1∧(rG X.rs i).v<0)∨((¬∃k,k<X.hs.length∧(hG X.hs (k:Nat)).r=(i:Int))∧(rG X.rs i).h=-1)):lz X=dn X:=
 L7 rfl rfl rfl rfl fun i hi=>⟨rfl,rfl,by
  rcases h i hi with⟨⟨k,hk,hr⟩,h2,h3⟩ | ⟨h1,h2⟩
  ·exact .inl ⟨⟨k,hk,aR hr⟩,h2,h3⟩
  ·refine .inr ⟨fun k hk=>?_,h2,.inr h2⟩
   unfold fC
   exact aW fun e=>h1 ⟨k,hk,e⟩⟩
theorem CKP.ew{t:Tp}(ht:CKP t){i:Nat}(hi:i<t.rs.length):((∃k,k<t.hs.length∧(hG t.hs (k:Nat)).r=(i:Int))∧(rG t.rs i).h≠-1∧(rG t.rs i).v=-1)∨((¬∃k,k<t.hs.length∧(hG t.hs (k:Nat)).r=(i:Int))∧(rG t.rs i).h=-1∧0≤(rG t.rs i).v):=by
 rcases ht.two hi with⟨⟨k,hk,hp⟩,h2,h3⟩ | ⟨h1,h2,h3⟩
 ·exact .inl ⟨⟨k,hk,bI hp⟩,h2,h3⟩
 ·refine .inr ⟨?_,h2,h3⟩
  rintro ⟨k,hk,hr⟩
  have:=h1 k hk
  unfold fC at this
  rw[aR hr] at this;cases this
theorem J4{X:Tp}(hn:X.hs.length≤1000)(hR:X.rs.length≤1000):cQ (X.V,X.F,X.hs.map tH,X.rs.map tR,())=some (oF (lz X)):=Eg hn hR
def HU(t:Tp)(h:Nat):List Hf:=if nx t (mt h)=h then t.hs else lk t.hs (pv t h) (nx t (mt h))
def Q8(t:Tp)(h r:Nat):List Rg:=if nx t (mt h)=h then t.rs.set r { rG t.rs r with h:=-1,v:=(hG t.hs h).f } else t.rs
def I3(t:Tp)(h r:Nat):Tp:=dV ⟨t.V,t.F,dE (HU t h) h,Q8 t h r⟩ (hG t.hs (mt h:Nat)).f
theorem jB(t:Tp)(h:Nat):(HU t h).length=t.hs.length:=by
 unfold HU;by_cases e:nx t (mt h)=h
 ·rw[aC e]
 ·rw[aA e,aG]
theorem J5(t:Tp)(h r:Nat):(Q8 t h r).length=t.rs.length:=by
 unfold Q8;by_cases e:nx t (mt h)=h
 ·rw[aC e,dP]
 ·rw[aA e]
theorem Mu{t:Tp}(ht:Hok t){h:Nat}(hh:h<t.hs.length)(y:Nat):(hG (HU t h) y).r=(hG t.hs y).r:=by
 unfold HU;by_cases e:nx t (mt h)=h
 ·rw[aC e]
 ·rw[aA e,bF (ht.aj hh) (ht.bf (kQ ht.e hh))]
theorem WA{t:Tp}(ht:Hok t){h:Nat}(hh:h<t.hs.length):dr (HU t h):=by
 have:=ht.n
 unfold HU;by_cases e:nx t (mt h)=h
 ·rw[aC e];exact ht.kz
 ·rw[aA e];exact ht.kz.lk (ht.aj hh) (ht.bf (kQ ht.e hh)) (by omega)
theorem Wf(a b:Int)(x:Rg):(gV a b x).h=x.h:=by unfold gV;split <;> rfl
theorem Cf(a b:Int)(x:Rg):(gC a b x).h=x.h:=by unfold gC;split <;> rfl
theorem Cg(a b:Int)(x:Rg):(gC a b x).v=x.v:=by unfold gC;split <;> rfl
theorem Tz(a b:Int)(x:Hf):(gF a b x).r=x.r:=by unfold gF;split <;> rfl
theorem Mv{a b:Int}(ha:0≤a){x:Rg}(hx:x.v=-1):(gV a b x).v=-1:=by
 unfold gV;rw[aA (by omega)];exact hx
theorem WB(h:Nat):mt h/2=h/2:=kP h
theorem sG{h y:Nat}(e:y/2=h/2):y=h∨y=mt h:=by have:=kP h;have:=mZ h;omega
theorem Qo{t:Tp}(ht:CKP t){h r:Nat}(hh:h<t.hs.length)(hr:r<t.rs.length)(cn:fC t r h=true)(hnx:nx t h=mt h):lz (I3 t h r)=dn (I3 t h r):=by
 have hk:=ht.toHok
 have hm:=kQ ht.e hh
 have hV0:=ht.V0
 have hr1:(hG t.hs h).r=(r:Int):=bI cn
 have hr2:(hG t.hs (mt h:Nat)).r=(r:Int):=by rw[←hnx,hk.rg hh];exact hr1
 have hmem:∀i:Int,(∃k,k<(I3 t h r).hs.length∧(hG (I3 t h r).hs (k:Nat)).r=i)↔∃y,y<t.hs.length∧y/2≠h/2∧(hG t.hs (y:Nat)).r=i:=fun i=>by
  have h1:=Ce (hs:=HU t h) (by rw[jB];exact ht.e) (h:=h) (by rw[jB];exact hh) i
  have h2:(∃k,k<(I3 t h r).hs.length∧(hG (I3 t h r).hs (k:Nat)).r=i)↔∃k,k<(dE (HU t h) h).length∧(hG (dE (HU t h) h) (k:Nat)).r=i:=by
   have e:(I3 t h r).hs=(dE (HU t h) h).map (gF (t.V-1) (hG t.hs (mt h:Nat)).f):=rfl
   rw[e,dM]
   constructor
   ·rintro ⟨k,hk2,h3⟩;rw[vU _ hk2,Tz] at h3;exact⟨k,hk2,h3⟩
   ·rintro ⟨k,hk2,h3⟩;exact⟨k,hk2,by rw[vU _ hk2,Tz];exact h3⟩
  rw[h2,h1]
  constructor
  ·rintro ⟨y,a,b,c⟩;rw[jB] at a;rw[Mu hk hh] at c;exact⟨y,a,b,c⟩
  ·rintro ⟨y,a,b,c⟩;exact⟨y,by rw[jB];exact a,b,by rw[Mu hk hh];exact c⟩
 refine gn fun i hi=>?_
 have hi':i<t.rs.length:=by
  have:(I3 t h r).rs.length=t.rs.length:=by show ((Q8 t h r).map _).length=_;rw[dM,J5]
  omega
 have hg:rG (I3 t h r).rs i=gV (t.V-1) (hG t.hs (mt h:Nat)).f (rG (Q8 t h r) i):=BY _ (by rw[J5];exact hi')
 rw[hmem,hg,Wf]
 by_cases e:r=i
 ·subst e
  by_cases e2:nx t (mt h)=h
  ·refine .inr ⟨?_,?_⟩
   ·rintro ⟨y,a,b,c⟩
    rcases ht.rr r hr with⟨_,_,_,h4⟩ | ⟨_,_,_,_,ho⟩
    ·rw[h4 h hh] at cn;cases cn
    ·obtain⟨l,hl,hlm⟩:=ho.at hh cn
     have hc:bz (nx t) h [mt h]:=⟨⟨hnx,e2⟩,by simp[(rL h).symm]⟩
     have:=hl.uniq hc
     subst this
     have h5:=(hlm y).2 ⟨a,aR c⟩
     simp only[cJ,JC,EY] at h5
     rcases h5 with h5 | h5
     ·exact b (by rw[h5])
     ·exact b (by rw[h5,WB])
   ·unfold Q8;rw[aC e2,jE hr,aC rfl]
  ·have hx:=hk.bf hm
   refine .inl ⟨⟨nx t (mt h),hx,fun e3=>?_,by rw[hk.rg hm];exact hr2⟩,?_⟩
   ·rcases sG e3 with h5 | h5
    ·exact e2 h5
    ·have:h=mt h:=hk.fl hh hm (by rw[hnx,h5])
     exact rL h this.symm
   ·unfold Q8;rw[aA e2]
    rcases ht.ew hr with⟨_,h2,h3⟩ | ⟨h1,_⟩
    ·exact⟨h2,by rw[Mv (by omega) h3];decide⟩
    ·exact absurd ⟨h,hh,hr1⟩ h1
 ·have hg2:rG (Q8 t h r) i=rG t.rs i:=by
   unfold Q8;by_cases e2:nx t (mt h)=h
   ·rw[aC e2,jE hr,aA e]
   ·rw[aA e2]
  rw[hg2]
  rcases ht.ew hi' with⟨⟨k,hk2,h1⟩,h2,h3⟩ | ⟨h1,h2,_⟩
  ·refine .inl ⟨⟨k,hk2,fun e3=>?_,h1⟩,h2,by rw[Mv (by omega) h3];decide⟩
   rcases sG e3 with h5 | h5
   ·subst h5;rw[hr1] at h1;omega
   ·subst h5;rw[hr2] at h1;omega
  ·exact .inr ⟨fun⟨y,a,_,c⟩=>h1 ⟨y,a,c⟩,h2⟩
theorem WC(t:Tp)(h r:Nat):(I3 t h r).hs.length=2*(t.hs.length/2-1)∧(I3 t h r).rs.length=t.rs.length:=by
 constructor
 ·show ((dE (HU t h) h).map _).length=_
  rw[dM,oW,jB]
 ·show ((Q8 t h r).map _).length=_
  rw[dM,J5]
theorem Ua{t:Tp}(ht:Hok t){h r:Nat}(hh:h<t.hs.length):ei (I3 t h r).hs (I3 t h r).rs.length:=fun k hk=>by
 have hl:=WC t h r
 rw[hl.1] at hk
 have e:(I3 t h r).hs=(dE (HU t h) h).map (gF (t.V-1) (hG t.hs (mt h:Nat)).f):=rfl
 rw[e,vU _ (by rw[oW,jB];exact hk),Tz,hl.2]
 have h2:ei (HU t h) t.rs.length:=fun k hk=>by rw[Mu ht hh];exact ht.kg k (by rw[jB] at hk;exact hk)
 exact h2.dE (by rw[jB];exact ht.e) (by rw[jB];exact hh) k (by rw[oW,jB];exact hk)
theorem oK{f g:Nat→Nat}{w:Nat}:∀{m:List Nat} {x z:Nat},Path f x m z→(x::m).Nodup→(∀y∈x::m,y≠rF x m m.length→g y=f y)→g (rF x m m.length)=w→Path g x m w
 | [],x,z,_,_,_,hl=>hl
 | y::m,x,z,hp,hn,he,hl=>by
  have hlast:rF x (y::m) (y::m).length=rF y m m.length:=rfl
  rw[hlast] at he hl
  have hmem:rF y m m.length∈y::m:=lN (by simp)
  have hx:x≠rF y m m.length:=fun e=>(dC.1 hn).1 (by rw[e];exact hmem)
  exact⟨by rw[he x (by simp) hx];exact hp.1,oK hp.2 (dC.1 hn).2 (fun u hu hne=>he u (dY _ hu) hne) hl⟩
theorem kA{l:List Rg}{z:Rg}{i:Nat}(h:i<l.length):rG (l++[z]) i=rG l i:=by
 unfold rG;rw[nO,jY,jY,zX h]
theorem My{l:List Rg}{z:Rg}:rG (l++[z]) (l.length:Nat)=z:=by
 unfold rG;rw[nO,jY,HD (by omega)];simp
theorem nW{l:List Rg}{z:Rg}{n:Nat}(h:n=l.length):rG (l++[z]) n=z:=by subst h;exact My
def uT(t:Tp)(h r:Nat)(A B:List Nat):List Rg:=
 t.rs.set r (match B with
  | []=>{ rG t.rs r with h:=-1,v:=(hG t.hs h).f }
  | b::_=>{ rG t.rs r with h:=(b:Int),v:=-1 })++[match A with
  | []=>⟨-1,(hG t.hs (mt h:Nat)).f,(rG t.rs r).c⟩
  | a::_=>⟨(a:Int),-1,(rG t.rs r).c⟩]
theorem J7(t:Tp)(h r:Nat)(A B:List Nat):(uT t h r A B).length=t.rs.length+1:=by unfold uT;simp
structure Km (t:Tp) (h r:Nat) (A B:List Nat):Prop where
 ht:CKP t
 hh:h<t.hs.length
 hr:r<t.rs.length
 cn:fC t r h=true
 hc:bz (nx t) h (A++mt h::B)
 hm:∀y,y∈h::(A++mt h::B)↔y<t.hs.length∧fC t r y=true
namespace Km
variable {t:Tp} {h r:Nat} {A B:List Nat}
theorem nd(k:Km t h r A B):((h::A)++(mt h::B)).Nodup:=k.hc.2
theorem pc(k:Km t h r A B):A.Nodup:=(dC.1 (pU.1 k.nd).1).2
theorem pt(k:Km t h r A B):B.Nodup:=(dC.1 (pU.1 k.nd).2.1).2
theorem fm(k:Km t h r A B){y:Nat}(hy:y∈A):y<t.hs.length∧fC t r y=true:=(k.hm y).1 (dY _ (yU _ hy))
theorem jh(k:Km t h r A B){y:Nat}(hy:y∈B):y<t.hs.length∧fC t r y=true:=(k.hm y).1 (dY _ (JA _ (dY _ hy)))
theorem fo(k:Km t h r A B):mt h<t.hs.length∧fC t r (mt h)=true:=(k.hm _).1 (dY _ (JA _ (by simp)))
theorem ah(k:Km t h r A B){y:Nat}(hy:y∈A):y≠h:=fun e=>(dC.1 (pU.1 k.nd).1).1 (e▸hy)
theorem am(k:Km t h r A B){y:Nat}(hy:y∈A):y≠mt h:=fun e=>(pU.1 k.nd).2.2 y (dY _ hy) (mt h) (by simp) e
theorem bm(k:Km t h r A B){y:Nat}(hy:y∈B):y≠mt h:=fun e=>(dC.1 (pU.1 k.nd).2.1).1 (e▸hy)
theorem bh(k:Km t h r A B){y:Nat}(hy:y∈B):y≠h:=fun e=>(pU.1 k.nd).2.2 h (by simp) y (dY _ hy) e.symm
theorem ab(k:Km t h r A B){y:Nat}(hy:y∈A)(hb:y∈B):False:=(pU.1 k.nd).2.2 y (dY _ hy) y (dY _ hb) rfl
theorem p1(k:Km t h r A B):Path (nx t) h A (mt h):=(hJ.1 k.hc.1).1
theorem p2(k:Km t h r A B):Path (nx t) (mt h) B h:=(hJ.1 k.hc.1).2
theorem r1(k:Km t h r A B):(hG t.hs h).r=(r:Int):=bI k.cn
theorem r2(k:Km t h r A B):(hG t.hs (mt h:Nat)).r=(r:Int):=bI k.fo.2
theorem ring(k:Km t h r A B){y:Nat}:(hG (CU t h A B) y).r=if y∈A then (t.rs.length:Int) else (hG t.hs y).r:=by
 have hk:=k.ht.toHok
 have hm:=k.fo.1
 have hpm:=hk.aj hm
 have hph:=hk.aj k.hh
 have hnm:=hk.bf hm
 have hnh:=hk.bf k.hh
 have hb:∀a A',A=a::A'→∀x∈a::A',x<(lk t.hs (pv t (mt h)) (nx t h)).length:=fun a A' e x hx=>by rw[aG];exact(k.fm (e▸hx)).1
 unfold CU
 split
 ·simp
 ·rw[bF hph hnm];simp
 ·rename_i a A'
  rw[eM _ _ _ _ (hb a A' rfl)]
  by_cases e:y∈a::A'
  ·rw[aC e,aC e]
  ·rw[aA e,aA e,bF hpm hnh]
 ·rename_i a A' b B'
  rw[bF (by rw[cO,aG];exact hph) (by rw[cO,aG];exact hnm),eM _ _ _ _ (hb a A' rfl)]
  by_cases e:y∈a::A'
  ·rw[aC e,aC e]
  ·rw[aA e,aA e,bF hpm hnh]
theorem mem(k:Km t h r A B)(i:Int):(∃j,j<(RU t h r A B).hs.length∧(hG (RU t h r A B).hs (j:Nat)).r=i)↔∃y,y<t.hs.length∧y/2≠h/2∧(if y∈A then (t.rs.length:Int) else (hG t.hs y).r)=i:=by
 have h1:=Ce (hs:=CU t h A B) (by rw[BC];exact k.ht.e) (h:=h) (by rw[BC];exact k.hh) i
 rw[BC] at h1
 have e:(RU t h r A B).hs=dE (CU t h A B) h:=rfl
 rw[e,h1]
 constructor
 ·rintro ⟨y,a,b,c⟩;rw[k.ring] at c;exact⟨y,a,b,c⟩
 ·rintro ⟨y,a,b,c⟩;exact⟨y,a,b,by rw[k.ring];exact c⟩
theorem fin(k:Km t h r A B):lz ⟨t.V,t.F,dE (CU t h A B) h,uT t h r A B⟩=dn (RU t h r A B):=by
 have hk:=k.ht.toHok
 have hr:=k.hr
 have hv:(rG t.rs r).v=-1:=by
  rcases k.ht.ew hr with⟨_,_,h3⟩ | ⟨h1,_⟩
  ·exact h3
  ·exact absurd ⟨h,k.hh,k.r1⟩ h1
 have hrg:=hk.kg
 have gX:∀i,i<t.rs.length→r≠i→rG (uT t h r A B) i=rG t.rs i:=fun i hi e=>by
  unfold uT;rw[kA (by simpa using hi),jE hr,aA e]
 have gY:∀i,i<t.rs.length→r≠i→rG (Cc t h r A B) i=rG t.rs i:=fun i hi e=>by
  unfold Cc;split
  ·rw[kA (by simpa using hi),jE hr,aA e]
  ·rw[kA hi]
  ·rw[kA (by simpa using hi),jE hr,aA e]
  ·rw[kA hi]
 have fq:∀i:Nat,i<(RU t h r A B).rs.length→(rG (uT t h r A B) i).c=(rG (RU t h r A B).rs i).c∧(rG (uT t h r A B) i).v=(rG (RU t h r A B).rs i).v ∧
  (((∃j,j<(RU t h r A B).hs.length∧(hG (RU t h r A B).hs (j:Nat)).r=(i:Int))∧(rG (uT t h r A B) i).h≠-1∧(rG (RU t h r A B).rs i).v<0)∨((¬∃j,j<(RU t h r A B).hs.length∧(hG (RU t h r A B).hs (j:Nat)).r=(i:Int))∧(rG (uT t h r A B) i).h=-1∧((rG (RU t h r A B).rs i).v<0∨(rG (RU t h r A B).rs i).h=-1))):=by
  intro i hi
  have e0:(RU t h r A B).rs=Cc t h r A B:=rfl
  rw[e0,V6] at hi
  rw[k.mem,e0]
  by_cases e1:i=t.rs.length
  ·-- the new ring
   subst e1
   cases A with
   | nil=>
    have x1:rG (uT t h r [] B) (t.rs.length:Nat)=⟨-1,(hG t.hs (mt h:Nat)).f,(rG t.rs r).c⟩:=by unfold uT;exact nW (by simp)
    have y1:rG (Cc t h r [] B) (t.rs.length:Nat)=⟨-1,(hG t.hs (mt h:Nat)).f,(rG t.rs r).c⟩:=by
     cases B with
     | nil=>exact nW (by simp)
     | cons b B=>exact nW rfl
    rw[x1,y1]
    refine⟨rfl,rfl,.inr ⟨?_,rfl,.inr rfl⟩⟩
    rintro ⟨y,ha,_,hc⟩
    rw[aA (by simp)] at hc
    have:=(hrg y ha).2;omega
   | cons a A'=>
    have x1:rG (uT t h r (a::A') B) (t.rs.length:Nat)=⟨(a:Int),-1,(rG t.rs r).c⟩:=by unfold uT;exact nW (by simp)
    have y1:rG (Cc t h r (a::A') B) (t.rs.length:Nat)=⟨-1,-1,(rG t.rs r).c⟩:=by
     cases B with
     | nil=>exact nW (by simp)
     | cons b B=>exact nW rfl
    rw[x1,y1]
    have ham:a∈a::A':=by simp
    refine⟨rfl,rfl,.inl ⟨⟨a,(k.fm ham).1,fun e=>?_,by rw[aC ham]⟩,by show (a:Int)≠-1;omega,by show (-1:Int)<0;decide⟩⟩
    rcases sG e with e | e
    ·exact k.ah ham e
    ·exact k.am ham e
  ·have hil:i<t.rs.length:=by omega
   by_cases e2:r=i
   ·subst e2
    cases B with
    | nil=>
     have x1:rG (uT t h r A []) r={ rG t.rs r with h:=-1,v:=(hG t.hs h).f }:=by unfold uT;rw[kA (by simpa using hr),jE hr,aC rfl]
     have y1:rG (Cc t h r A []) r={ rG t.rs r with h:=-1,v:=(hG t.hs h).f }:=by
      cases A with
      | nil=>exact(kA (by simpa using hr)).trans (by rw[jE hr,aC rfl])
      | cons a A'=>exact(kA (by simpa using hr)).trans (by rw[jE hr,aC rfl])
     rw[x1,y1]
     refine⟨rfl,rfl,.inr ⟨?_,rfl,.inr rfl⟩⟩
     rintro ⟨y,ha,hb,hc⟩
     by_cases e3:y∈A
     ·rw[aC e3] at hc;omega
     ·rw[aA e3] at hc
      have h5:=(k.hm y).2 ⟨ha,aR hc⟩
      simp only[cJ,fL,JC,EY] at h5
      rcases h5 with h5 | h5 | h5
      ·exact hb (by rw[h5])
      ·exact e3 h5
      ·exact hb (by rw[h5,WB])
    | cons b B'=>
     have x1:rG (uT t h r A (b::B')) r={ rG t.rs r with h:=(b:Int),v:=-1 }:=by unfold uT;rw[kA (by simpa using hr),jE hr,aC rfl]
     have y1:rG (Cc t h r A (b::B')) r=rG t.rs r:=by
      cases A with
      | nil=>exact kA hr
      | cons a A'=>exact kA hr
     rw[x1,y1]
     have hbm:b∈b::B':=by simp
     refine⟨rfl,hv.symm,.inl ⟨⟨b,(k.jh hbm).1,fun e=>?_,?_⟩,by show (b:Int)≠-1;omega,by omega⟩⟩
     ·rcases sG e with e | e
      ·exact k.bh hbm e
      ·exact k.bm hbm e
     ·rw[aA fun e=>k.ab e hbm];exact bI (k.jh hbm).2
   ·rw[gX i hil e2,gY i hil e2]
    refine⟨rfl,rfl,?_⟩
    rcases k.ht.ew hil with⟨⟨j,hj,h1⟩,h2,h3⟩ | ⟨h1,h2,_⟩
    ·refine .inl ⟨⟨j,hj,fun e=>?_,?_⟩,h2,by omega⟩
     ·rcases sG e with e | e
      ·subst e;rw[k.r1] at h1;omega
      ·subst e;rw[k.r2] at h1;omega
     ·rw[aA]
      ·exact h1
      ·intro e
       have:=bI (k.fm e).2
       omega
    ·refine .inr ⟨?_,h2,.inr h2⟩
     rintro ⟨y,ha,_,hc⟩
     by_cases e3:y∈A
     ·rw[aC e3] at hc;omega
     ·rw[aA e3] at hc;exact h1 ⟨y,ha,hc⟩
 refine L7 rfl rfl rfl (by show (uT t h r A B).length=(Cc t h r A B).length;rw[J7,V6]) fun i hi=>?_
 obtain⟨q1,q2,q3⟩:=fq i hi
 refine⟨q1,q2,?_⟩
 rcases q3 with⟨⟨j,hj,h1⟩,h2,h3⟩ | ⟨h1,h2,h3⟩
 ·exact .inl ⟨⟨j,hj,aR h1⟩,h2,h3⟩
 ·refine .inr ⟨fun j hj=>?_,h2,h3⟩
  unfold fC
  exact aW fun e=>h1 ⟨j,hj,e⟩
theorem om{a:Nat}{A':List Nat}(k:Km t h r (a::A') B)(V F:Int)(rs:List Rg):bz (nx ⟨V,F,lk t.hs (pv t (mt h)) (nx t h),rs⟩) a A'∧nx t h=a:=by
 have hk:=k.ht.toHok
 have hm:=k.fo.1
 have hpm:=hk.aj hm
 have hnh:=hk.bf k.hh
 have hfa:nx t h=a:=k.p1.1
 have hlast:pv t (mt h)=rF a A' A'.length:=by
  have h1:=nU k.p1
  have h2:=(k.fm (lN (x:=a) (m:=A') (k:=A'.length) (by simp))).1
  rw[←h1,hk.pn h2]
 refine⟨⟨oK (f:=nx t) (z:=mt h) k.p1.2 k.pc ?_ ?_,k.pc⟩,hfa⟩
 ·intro y hy hne
  show ((hG (lk t.hs (pv t (mt h)) (nx t h)) y).n).toNat=nx t y
  rw[bF hpm hnh]
  simp only[aA (show ¬pv t (mt h)=y from fun e=>hne (by rw[←e,hlast]))]
  rfl
 ·show ((hG (lk t.hs (pv t (mt h)) (nx t h)) (rF a A' A'.length:Nat)).n).toNat=a
  rw[bF hpm hnh]
  simp only[aC hlast]
  rw[hfa];rfl
theorem oo{b:Nat}{B':List Nat}(k:Km t h r A (b::B'))(V F:Int)(rs:List Rg){L:List Hf}(hL:L.length=t.hs.length)(hLn:∀y,y∈b::B'→(hG L y).n=(hG t.hs y).n):bz (nx ⟨V,F,lk L (pv t h) (nx t (mt h)),rs⟩) b B'∧nx t (mt h)=b:=by
 have hk:=k.ht.toHok
 have hm:=k.fo.1
 have hph:=hk.aj k.hh
 have hnm:=hk.bf hm
 have hfb:nx t (mt h)=b:=k.p2.1
 have hlast:pv t h=rF b B' B'.length:=by
  have h1:=nU k.p2
  have h2:=(k.jh (lN (x:=b) (m:=B') (k:=B'.length) (by simp))).1
  rw[←h1,hk.pn h2]
 refine⟨⟨oK (f:=nx t) (z:=h) k.p2.2 k.pt ?_ ?_,k.pt⟩,hfb⟩
 ·intro y hy hne
  show ((hG (lk L (pv t h) (nx t (mt h))) y).n).toNat=nx t y
  rw[bF (by omega) (by omega)]
  simp only[aA (show ¬pv t h=y from fun e=>hne (by rw[←e,hlast])),hLn y hy]
  rfl
 ·show ((hG (lk L (pv t h) (nx t (mt h))) (rF b B' B'.length:Nat)).n).toNat=b
  rw[bF (by omega) (by omega)]
  simp only[aC hlast]
  rw[hfb];rfl
end Km
theorem Er{l:List Hf}{xs:List Nat}{r:Int}(hb:∀x∈xs,x<l.length)(hr:∀x∈xs,(hG l x).r=r):au l xs r=l:=by
 refine AO (cO _ _ _) fun j hj=>?_
 rw[eM _ _ _ _ hb]
 by_cases e:j∈xs
 ·rw[aC e]
  have:=hr j e
  generalize hG l j=z at this
  cases z;simp only at this ⊢;rw[this]
 ·rw[aA e]
theorem dr.mf{l:List Hf}(h:dr l){V F:Int}{rs:List Rg}{y:Nat}(hy:y<l.length):(hG l y).n=(nx ⟨V,F,l,rs⟩ y:Int):=by
 have:=h y hy
 show _=(((hG l y).n).toNat:Int)
 omega
theorem Ud{t:Tp}{h r:Nat}{A B:List Nat}(k:Km t h r A B)(hR:t.rs.length+1≤257):
 jP (t.V,t.F,t.hs.map tH,t.rs.map tR,(h:Int),())=some (yE (dn (RU t h r A B)) 0):=by
 have ht:=k.ht
 have hh:=k.hh
 have hr:=k.hr
 have hk:=ht.toHok
 have hz:=hk.toSz
 have hn:=ht.n
 have he:=ht.e
 have hV1:=ht.V1
 have hF1:=ht.F1
 have hm:=k.fo.1
 have hpm:=hk.aj hm
 have hph:=hk.aj hh
 have hnm:=hk.bf hm
 have hnh:=hk.bf hh
 have hro:gQ t 0 0 0 1=true:=by
  unfold gQ;simp only[cS,bE];omega
 have hroom:=FM hz (a:=0) (b:=0) (c:=0) (d:=1) (by decide) (by decide) (by decide) (by decide)
 have hroom':dO (t.V,t.F,t.hs.map tH,t.rs.map tR,(0:Int),(0:Int),(0:Int),(1:Int),())=some (true,()):=by rw[←hro];exact hroom
 have hi2:rD (h:Int) (t.hs.length:Int)=true:=bZ.2 ⟨by omega,by omega⟩
 have hr1:=k.r1
 have hr2:=k.r2
 have hsm:=hk.kz
 have hrr:qE (t.rs.map tR) [tR ⟨-1,(hG t.hs (mt h:Nat)).f,(rG t.rs r).c⟩] 24=some ((t.rs++[(⟨-1,(hG t.hs (mt h:Nat)).f,(rG t.rs r).c⟩:Rg)]).map tR):=by
  rw[rJ (by simp only[dM,oA,wP];omega) (by decide),DY];rfl
 have hfold:T.agg [tI (-1),tI (hG t.hs (mt h:Nat)).f,tI (rG t.rs r).c]=tR ⟨-1,(hG t.hs (mt h:Nat)).f,(rG t.rs r).c⟩:=rfl
 have fin:∀(hs2:List Hf) (WR:List Rg),hs2=CU t h A B→WR=uT t h r A B→dr hs2 →
  (ob (mK ((),(h:Int),t.V,t.F,hs2.map tH,WR.map tR,())) fun x51=>ob (cQ (x51.1,x51.2.1,x51.2.2.1,x51.2.2.2.1,())) fun x52=>some (x52.1,x52.2.1,x52.2.2.1,x52.2.2.2.1,(0:Int),()))=some (yE (dn (RU t h r A B)) 0):=fun hs2 WR e1 e2 h2=>by
  have hl2:hs2.length=t.hs.length:=by rw[e1,BC]
  have hl3:WR.length=t.rs.length+1:=by rw[e2,J7]
  rw[V9 (by omega) (by omega) (by omega) h2]
  simp only[bD]
  have:=FO (V:=t.V) (F:=t.F) (hs:=dE hs2 h) (rs:=WR) (by rw[oW];omega) (by omega)
  rw[this,e1,e2,k.fin]
  rfl
 have hlenq:∀z w:Rg,(t.rs.set r w++[z]).length=t.rs.length+1:=fun z w=>by simp
 have hlenq0:∀z:Rg,(t.rs++[z]).length=t.rs.length+1:=fun z=>by simp
 have hgr:∀z:Rg,((t.rs++[z]).map tR)[r]?=some (tR (rG t.rs r)):=fun z=>by
  rw[DY,zX (by simpa using hr)];exact sF hr
 have hsetr:∀z w:Rg,(t.rs++[z]).set r w=t.rs.set r w++[z]:=fun z w=>by
  rw[JB,aC hr]
 have hgr2:∀z w:Rg,((t.rs.set r w++[z]).map tR)[r]?=some (tR w):=fun z w=>by
  rw[DY,zX (by simpa using hr),fF,iJ hr];rfl
 have hsetr2:∀z w w':Rg,(t.rs.set r w++[z]).set r w'=t.rs.set r w'++[z]:=fun z w w'=>by
  rw[JB,aC (by simpa using hr),DZ]
 have hsetR:∀z w w':Rg,(t.rs.set r w++[z]).set t.rs.length w'=t.rs.set r w++[w']:=fun z w w'=>by
  rw[JB];simp
 have lkr:∀(l:List Hf) (R:List T),l.length=t.hs.length→∀a b:Nat,a<t.hs.length→b<t.hs.length→aL (t.V,t.F,l.map tH,R,(a:Int),(b:Int),())=some ((lk l a b).map tH,R,()):=fun l R h1 a b h2 h3=>wY (by omega) (by omega)
 have stB:∀(L:List Hf) (W:Rg) (b:Nat) (B':List Nat),B=b::B'→L.length=t.hs.length→dr L→(∀y∈b::B',(hG L y).n=(hG t.hs y).n)→(∀y∈b::B',(hG L y).r=(r:Int)) →
  cP (t.V,t.F,(lk L (pv t h) (nx t (mt h))).map tH,(t.rs.set r { rG t.rs r with h:=-1,v:=(hG t.hs h).f }++[W]).map tR,(nx t (mt h):Int),(r:Int),())=some ((lk L (pv t h) (nx t (mt h))).map tH,(t.rs.set r { rG t.rs r with h:=(b:Int),v:=-1 }++[W]).map tR,()):=fun L W b B' eB h1 h2 h3 h4=>by
  have kB:Km t h r A (b::B'):=eB▸k
  obtain⟨hc,hfb⟩:=kB.oo t.V t.F (t.rs.set r { rG t.rs r with h:=-1,v:=(hG t.hs h).f }++[W]) h1 h3
  have hb:∀y∈b::B',y<(lk L (pv t h) (nx t (mt h))).length:=fun y hy=>by rw[aG,h1];exact(kB.jh hy).1
  have hs2:dr (lk L (pv t h) (nx t (mt h))):=h2.lk (by omega) (by omega) (by omega)
  have:=wZ (V:=t.V) (F:=t.F) (hs:=lk L (pv t h) (nx t (mt h))) (rs:=t.rs.set r { rG t.rs r with h:=-1,v:=(hG t.hs h).f }++[W]) (by rw[aG];omega) (r:=r) hc hb (fun y hy=>hs2.mf (hb y hy)) (by simp;omega)
  have e1:au (lk L (pv t h) (nx t (mt h))) (b::B') (r:Int)=lk L (pv t h) (nx t (mt h)):=Er hb fun y hy=>by rw[bF (by omega) (by omega)];exact h4 y hy
  have e2:rG (t.rs.set r { rG t.rs r with h:=-1,v:=(hG t.hs h).f }++[W]) r={ rG t.rs r with h:=-1,v:=(hG t.hs h).f }:=by
   rw[kA (by simpa using hr),jE hr,aC rfl]
  unfold lC at this
  simp only[e1,e2,hsetr2] at this
  rw[hfb] at this ⊢
  exact this
 unfold jP
 cases A with
 | nil=>
  have hfm:nx t h=mt h:=k.p1
  have d1:decide ((nx t h:Int)=(mt h:Int))=true:=aR (by omega)
  cases B with
  | nil=>
   have hbh:nx t (mt h)=h:=k.p2
   have d2:decide ((nx t (mt h):Int)=(h:Int))=true:=aR (by omega)
   simp only[bM ht,fU,hi2,hroom',qK (k:=h) (by omega),mH hz,bT,bL,eS (l:=t.hs) (i:=(h:Int)) (by omega) (by omega),eS (l:=t.hs) (i:=((mt h:Nat):Int)) (by omega) (by omega),aF (n:=(t.hs.length:Int)) (i:=h) (by omega),aF (n:=(t.hs.length:Int)) (i:=mt h) (by omega),aF (n:=(t.rs.length:Int)) (i:=r) (by omega),bD,aY,gJ hh,gJ hm,sF hr,sO,mY,mG,jV,fN,aJ,gA,hr1,hr2,hk.bg hh,hk.br hh,hk.bg hm,aH,cK,bH,aK,bY,hfold,hrr,d1,d2,hlenq,hlenq0,aF (n:=((t.rs.length+1:Nat):Int)) (i:=r) (by omega),FK,NG,wK,bC,hgr,hsetr,hgr2,hsetr2]
   exact fin _ _ rfl rfl hsm
  | cons b B'=>
   have hbh:nx t (mt h)=b:=k.p2.1
   have hne:b≠h:=k.bh (by simp)
   have d2:decide ((nx t (mt h):Int)=(h:Int))=false:=aW (by omega)
   simp only[bM ht,fU,hi2,hroom',qK (k:=h) (by omega),mH hz,bT,bL,eS (l:=t.hs) (i:=(h:Int)) (by omega) (by omega),eS (l:=t.hs) (i:=((mt h:Nat):Int)) (by omega) (by omega),aF (n:=(t.hs.length:Int)) (i:=h) (by omega),aF (n:=(t.hs.length:Int)) (i:=mt h) (by omega),aF (n:=(t.rs.length:Int)) (i:=r) (by omega),bD,aY,gJ hh,gJ hm,sF hr,sO,mY,mG,jV,fN,aJ,gA,hr1,hr2,hk.bg hh,hk.br hh,hk.bg hm,aH,cK,bH,bW,aK,aN,bY,hfold,hrr,d1,d2,hlenq,hlenq0,aF (n:=((t.rs.length+1:Nat):Int)) (i:=r) (by omega),FK,NG,wK,bC,hgr,hsetr,hgr2,hsetr2,lkr t.hs _ rfl _ _ hph hnm,stB t.hs _ b B' rfl rfl hsm (fun _ _=>rfl) (fun y hy=>bI (k.jh hy).2)]
   exact fin _ _ rfl rfl (hsm.lk hph hnm (by omega))
 | cons a A'=>
  obtain⟨hcA,hfa⟩:=k.om t.V t.F (t.rs.set r { rG t.rs r with h:=-1,v:=(hG t.hs h).f }++[(⟨-1,(hG t.hs (mt h:Nat)).f,(rG t.rs r).c⟩:Rg)])
  have hne1:a≠mt h:=k.am (by simp)
  have d1:decide ((nx t h:Int)=(mt h:Int))=false:=aW (by omega)
  have hbA:∀y∈a::A',y<(lk t.hs (pv t (mt h)) (nx t h)).length:=fun y hy=>by rw[aG];exact(k.fm hy).1
  have hsm1:dr (lk t.hs (pv t (mt h)) (nx t h)):=hsm.lk hpm hnh (by omega)
  have hst:=wZ (V:=t.V) (F:=t.F) (hs:=lk t.hs (pv t (mt h)) (nx t h)) (rs:=t.rs.set r { rG t.rs r with h:=-1,v:=(hG t.hs h).f }++[(⟨-1,(hG t.hs (mt h:Nat)).f,(rG t.rs r).c⟩:Rg)]) (by rw[aG];omega) (r:=t.rs.length) hcA hbA (fun y hy=>hsm1.mf (hbA y hy)) (by simp)
  have hst':cP (t.V,t.F,(lk t.hs (pv t (mt h)) (nx t h)).map tH,(t.rs.set r { rG t.rs r with h:=-1,v:=(hG t.hs h).f }++[(⟨-1,(hG t.hs (mt h:Nat)).f,(rG t.rs r).c⟩:Rg)]).map tR,(nx t h:Int),(t.rs.length:Int),())=some ((au (lk t.hs (pv t (mt h)) (nx t h)) (a::A') (t.rs.length:Int)).map tH,(t.rs.set r { rG t.rs r with h:=-1,v:=(hG t.hs h).f }++[(⟨(a:Int),-1,(rG t.rs r).c⟩:Rg)]).map tR,()):=by
   rw[hfa] at hst ⊢
   rw[hst]
   have e2:rG (t.rs.set r { rG t.rs r with h:=-1,v:=(hG t.hs h).f }++[(⟨-1,(hG t.hs (mt h:Nat)).f,(rG t.rs r).c⟩:Rg)]) (t.rs.length:Nat)=⟨-1,(hG t.hs (mt h:Nat)).f,(rG t.rs r).c⟩:=nW (by simp)
   unfold lC
   simp only[e2,hsetR]
  have hl2:(au (lk t.hs (pv t (mt h)) (nx t h)) (a::A') (t.rs.length:Int)).length=t.hs.length:=by rw[cO,aG]
  have hsm2:dr (au (lk t.hs (pv t (mt h)) (nx t h)) (a::A') (t.rs.length:Int)):=hsm1.au hbA _
  cases B with
  | nil=>
   have hbh:nx t (mt h)=h:=k.p2
   have d2:decide ((nx t (mt h):Int)=(h:Int))=true:=aR (by omega)
   simp only[bM ht,fU,hi2,hroom',qK (k:=h) (by omega),mH hz,bT,bL,eS (l:=t.hs) (i:=(h:Int)) (by omega) (by omega),eS (l:=t.hs) (i:=((mt h:Nat):Int)) (by omega) (by omega),aF (n:=(t.hs.length:Int)) (i:=h) (by omega),aF (n:=(t.hs.length:Int)) (i:=mt h) (by omega),aF (n:=(t.rs.length:Int)) (i:=r) (by omega),bD,aY,gJ hh,gJ hm,sF hr,sO,mY,mG,jV,fN,aJ,gA,hr1,hr2,hk.bg hh,hk.br hh,hk.bg hm,hk.br hm,aH,cK,bH,bW,aK,aN,bY,hfold,hrr,d1,d2,hlenq,hlenq0,aF (n:=((t.rs.length+1:Nat):Int)) (i:=r) (by omega),FK,NG,wK,bC,hgr,hsetr,hgr2,hsetr2,lkr t.hs _ rfl _ _ hpm hnh,hst']
   exact fin _ _ rfl rfl hsm2
  | cons b B'=>
   have hbh:nx t (mt h)=b:=k.p2.1
   have hne:b≠h:=k.bh (by simp)
   have d2:decide ((nx t (mt h):Int)=(h:Int))=false:=aW (by omega)
   have hnB:∀y∈b::B',(hG (au (lk t.hs (pv t (mt h)) (nx t h)) (a::A') (t.rs.length:Int)) y).n=(hG t.hs y).n:=fun y hy=>by
    rw[By _ _ _ _ hbA,bF hpm hnh]
    have hne2:pv t (mt h)≠y:=fun e=>by
     have hlast:pv t (mt h)=rF a A' A'.length:=by
      have h1:=nU k.p1
      have h2:=(k.fm (lN (x:=a) (m:=A') (k:=A'.length) (by simp))).1
      rw[←h1,hk.pn h2]
     have hA:y∈a::A':=by rw[←e,hlast];exact lN (by simp)
     exact k.ab hA hy
    simp only[aA hne2]
   have hrB:∀y∈b::B',(hG (au (lk t.hs (pv t (mt h)) (nx t h)) (a::A') (t.rs.length:Int)) y).r=(r:Int):=fun y hy=>by
    rw[eM _ _ _ _ hbA,aA fun e=>k.ab e hy,bF hpm hnh]
    exact bI (k.jh hy).2
   have hs2:=stB (au (lk t.hs (pv t (mt h)) (nx t h)) (a::A') (t.rs.length:Int)) ⟨(a:Int),-1,(rG t.rs r).c⟩ b B' rfl hl2 hsm2 hnB hrB
   simp only[bM ht,fU,hi2,hroom',qK (k:=h) (by omega),mH hz,bT,bL,eS (l:=t.hs) (i:=(h:Int)) (by omega) (by omega),eS (l:=t.hs) (i:=((mt h:Nat):Int)) (by omega) (by omega),aF (n:=(t.hs.length:Int)) (i:=h) (by omega),aF (n:=(t.hs.length:Int)) (i:=mt h) (by omega),aF (n:=(t.rs.length:Int)) (i:=r) (by omega),bD,aY,gJ hh,gJ hm,sF hr,sO,mY,mG,jV,fN,aJ,gA,hr1,hr2,hk.bg hh,hk.br hh,hk.bg hm,hk.br hm,aH,cK,bH,bW,aK,aN,bY,hfold,hrr,d1,d2,hlenq,hlenq0,aF (n:=((t.rs.length+1:Nat):Int)) (i:=r) (by omega),FK,NG,wK,bC,hgr,hsetr,hgr2,hsetr2,lkr t.hs _ rfl _ _ hpm hnh,hst',lkr _ _ hl2 _ _ hph hnm,hs2]
   exact fin _ _ rfl rfl (hsm2.lk (by omega) (by omega) (by omega))
def vV(t:Tp)(f:Int)(r:Nat):Bool:=decide ((rG t.rs r).c=f)
theorem zG{t:Tp}(hR:t.rs.length≤1000)(f:Int):qY (t.V,t.F,t.hs.map tH,t.rs.map tR,f,())=some ((aw (vV t f) t.rs.length:Int),()):=by
 have hl:=bX (F:=pM) t.rs.length (fun k=>(f,(),(aw (vV t f) k:Int),(k:Int),t.V,t.F,t.hs.map tH,t.rs.map tR,())) (fun k hk=>by
  have hlt:decide ((k:Int)<(t.rs.length:Int))=true:=aR (by omega)
  have hc:=yM (vV t f) k
  unfold pM
  simp only[aP,bL,hlt,aN,iK (l:=t.rs) (i:=(k:Int)) (by omega) (by omega),bD,fN,aJ,aH,aw]
  cases h:decide ((rG t.rs k).c=f) with
  | true=>
   have hi:vV t f k=true:=h
   simp only[aN,bD,bC,aS,wk (k:=k) (by omega),wk (k:=aw (vV t f) k) (by omega),hi,eY]
  | false=>
   have hi:vV t f k=false:=h
   simp only[aK,bD,bC,aS,wk (k:=k) (by omega),hi,nL,iD,rH])
 unfold qY
 have e0:(f,(),(0:Int),(0:Int),t.V,t.F,t.hs.map tH,t.rs.map tR,())=(f,(),(aw (vV t f) 0:Int),((0:Nat):Int),t.V,t.F,t.hs.map tH,t.rs.map tR,()):=rfl
 simp only[]
 rw[e0,hl]
 have hlt:decide ((t.rs.length:Int)<(t.rs.length:Int))=false:=aW (by omega)
 have ho:pM (f,(),(aw (vV t f) t.rs.length:Int),(t.rs.length:Int),t.V,t.F,t.hs.map tH,t.rs.map tR,())=some (.inr (.inl ((aw (vV t f) t.rs.length:Int),()))):=by
  unfold pM;simp only[aP,bL,hlt,aK]
 rw[bK ho];rfl
theorem AR{t:Tp}(hR:t.rs.length≤1000){r:Nat}(hr:r<t.rs.length):oP (t.V,t.F,t.hs.map tH,t.rs.map tR,(r:Int),())=some ((aw (vV t (rG t.rs r).c) t.rs.length:Int)-1,()):=by
 have hl:=bX (F:=kT) t.rs.length (fun k=>((r:Int),(),(aw (vV t (rG t.rs r).c) k:Int)-1,t.rs.map tR,(t.rs.length:Int),(k:Int),t.V,t.F,t.hs.map tH,t.rs.map tR,())) (fun k hk=>by
  have hlt:decide ((k:Int)<(t.rs.length:Int))=true:=aR (by omega)
  have hc:=yM (vV t (rG t.rs r).c) k
  have hw:wr .i64 ((aw (vV t (rG t.rs r).c) k:Int)-1+1)=((aw (vV t (rG t.rs r).c) k+1:Nat):Int)-1:=by rw[fQ (by omega) (by omega)];push_cast;omega
  unfold kT
  simp only[aP,hlt,aN,iK (l:=t.rs) (i:=(k:Int)) (by omega) (by omega),iK (l:=t.rs) (i:=(r:Int)) (by omega) (by omega),bD,fN,aJ,aH,aw]
  cases h:decide ((rG t.rs k).c=(rG t.rs r).c) with
  | true=>
   have hi:vV t (rG t.rs r).c k=true:=h
   simp only[aN,bD,bC,aS,wk (k:=k) (by omega),hw,hi,eY]
  | false=>
   have hi:vV t (rG t.rs r).c k=false:=h
   simp only[aK,bD,bC,aS,wk (k:=k) (by omega),hi,nL,iD,rH])
 unfold oP
 have e0:((r:Int),(),(-1:Int),t.rs.map tR,(t.rs.length:Int),(0:Int),t.V,t.F,t.hs.map tH,t.rs.map tR,())=((r:Int),(),(aw (vV t (rG t.rs r).c) 0:Int)-1,t.rs.map tR,(t.rs.length:Int),((0:Nat):Int),t.V,t.F,t.hs.map tH,t.rs.map tR,()):=rfl
 simp only[bL]
 rw[e0,hl]
 have hlt:decide ((t.rs.length:Int)<(t.rs.length:Int))=false:=aW (by omega)
 have ho:kT ((r:Int),(),(aw (vV t (rG t.rs r).c) t.rs.length:Int)-1,t.rs.map tR,(t.rs.length:Int),(t.rs.length:Int),t.V,t.F,t.hs.map tH,t.rs.map tR,())=some (.inr (.inl ((aw (vV t (rG t.rs r).c) t.rs.length:Int)-1,()))):=by
  unfold kT;simp only[aP,hlt,aK]
 rw[bK ho];rfl
theorem Es{P:Nat→Bool}{n i j:Nat}(h:aw P n≤1)(hi:i<n)(hj:j<n)(pi:P i=true)(pj:P j=true):i=j:=by
 by_cases e:i=j
 ·exact e
 ·have:=Bm (P:=P) (n:=n) (l:=[i,j]) (by simp[e]) (fun x hx=>by
   simp only[cJ,JC,EY] at hx
   rcases hx with rfl | rfl
   ·exact⟨hi,pi⟩
   ·exact⟨hj,pj⟩)
  simp only[oA,wP] at this
  omega
theorem YV{t X:Tp}(ht:CKP t)(hh:X.hs=t.hs)(hl:X.rs.length=t.rs.length)(h:∀i:Nat,i<t.rs.length→(rG X.rs i).h=(rG t.rs i).h∧(rG X.rs i).v=(rG t.rs i).v):lz X=dn X:=by
 refine gn fun i hi=>?_
 rw[hl] at hi
 obtain⟨h1,h2⟩:=h i hi
 rw[hh,h1,h2]
 rcases ht.ew hi with⟨a,b,c⟩ | ⟨a,b,_⟩
 ·exact .inl ⟨a,b,by omega⟩
 ·exact .inr ⟨a,b⟩
def lI(P:Nat→Bool):Nat→Int
 | 0=>-1
 | k+1=>bif P k then (k:Int) else lI P k
theorem Qr{P:Nat→Bool}{n:Nat}(h:0<aw P n):∃k:Nat,k<n∧lI P n=(k:Int)∧P k=true:=by
 induction n with
 | zero=>exact absurd h (by simp[aw])
 | succ n ih=>
  simp only[lI]
  cases hp:P n with
  | true=>exact⟨n,by omega,rfl,hp⟩
  | false=>
   simp only[aw,hp,nL,iD,rH] at h
   obtain⟨k,a,b,c⟩:=ih h
   exact⟨k,by omega,b,c⟩
theorem Xv{t:Tp}(hR:t.rs.length≤1000)(f g:Int)(a b:Int)(x y:T):bU pP (f,g,(),(),0,a,b,x,y,t.V,t.F,t.hs.map tH,t.rs.map tR,())=some (.inl (g,(),(),a,b,x,y,t.V,t.F,t.hs.map tH,(t.rs.map (gC g f)).map tR,())):=by
 have hl:=bX (F:=pP) t.rs.length (fun k=>(f,g,(),(),(k:Int),a,b,x,y,t.V,t.F,t.hs.map tH,(mk (gC g f) t.rs k).map tR,())) (fun k hk=>by
  have hlt:decide ((k:Int)<(t.rs.length:Int))=true:=aR (by omega)
  have hx:=vN t.rs k hk
  have hlen:(mk (gC g f) t.rs k).length=t.rs.length:=AP _ _ _
  have hg:((mk (gC g f) t.rs k).map tR)[k]?=some (tR (rG t.rs k)):=by rw[fF,xC _ _ hk,hx];rfl
  unfold pP
  simp only[aP,bL,hlen,hlt,aN,aF (n:=(t.rs.length:Int)) (i:=k) (by omega),bD,aY,hg,fN,aJ,aH]
  by_cases e:(rG t.rs k).c=g
  ·have hgx:gC g f (rG t.rs k)={ rG t.rs k with c:=f }:=aC e
   rw[←yN (gC g f) hx,hgx]
   simp only[aR e,aN,bD,bY,Hx,wK,bC,aS,wk (k:=k) (by omega)]
  ·rw[xQ (gC g f) hx (aA e)]
   simp only[aW e,aK,bD,bC,aS,wk (k:=k) (by omega)])
 have e0:(f,g,(),(),(0:Int),a,b,x,y,t.V,t.F,t.hs.map tH,t.rs.map tR,())=(f,g,(),(),((0:Nat):Int),a,b,x,y,t.V,t.F,t.hs.map tH,(mk (gC g f) t.rs 0).map tR,()):=by rw[vT];rfl
 rw[e0,hl]
 refine bK ?_
 have hlt:decide ((t.rs.length:Int)<(t.rs.length:Int))=false:=aW (by omega)
 unfold pP
 simp only[aP,AQ,bL,dM,hlt,aK]
theorem Xw{t:Tp}(hR:t.rs.length≤1000)(f g:Int)(a b:Int)(x y:T):bU mE (f,g,(),(),-1,0,(),(t.rs.length:Int),0,a,b,x,y,t.V,t.F,t.hs.map tH,t.rs.map tR,())=some (.inl (f,g,(),(),lI (vV t g) t.rs.length,(aw (vV t g) t.rs.length:Int),a,b,x,y,t.V,t.F,t.hs.map tH,t.rs.map tR,())):=by
 have hl:=bX (F:=mE) t.rs.length (fun k=>(f,g,(),(),lI (vV t g) k,(aw (vV t g) k:Int),(),(t.rs.length:Int),(k:Int),a,b,x,y,t.V,t.F,t.hs.map tH,t.rs.map tR,())) (fun k hk=>by
  have hlt:decide ((k:Int)<(t.rs.length:Int))=true:=aR (by omega)
  have hc:=yM (vV t g) k
  unfold mE
  simp only[aP,hlt,aN,bL,aF (n:=(t.rs.length:Int)) (i:=k) (by omega),bD,aY,sF hk,fN,aJ,aH,aw,lI]
  cases h:decide ((rG t.rs k).c=g) with
  | true=>
   have hi:vV t g k=true:=h
   simp only[aN,bD,bC,aS,wk (k:=k) (by omega),wk (k:=aw (vV t g) k) (by omega),hi,eY]
  | false=>
   have hi:vV t g k=false:=h
   simp only[aK,bD,bC,aS,wk (k:=k) (by omega),hi,nL,iD,rH])
 have e0:(f,g,(),(),(-1:Int),(0:Int),(),(t.rs.length:Int),(0:Int),a,b,x,y,t.V,t.F,t.hs.map tH,t.rs.map tR,())=(f,g,(),(),lI (vV t g) 0,(aw (vV t g) 0:Int),(),(t.rs.length:Int),((0:Nat):Int),a,b,x,y,t.V,t.F,t.hs.map tH,t.rs.map tR,()):=rfl
 rw[e0,hl]
 refine bK ?_
 have hlt:decide ((t.rs.length:Int)<(t.rs.length:Int))=false:=aW (by omega)
 unfold mE
 simp only[aP,hlt,aK]
theorem YW{V F:Int}{hs:List Hf}{rs:List Rg}(hR:rs.length≤1000)(hF:0≤F∧F≤1000)(f:Int):dU ((),f,V,F,hs.map tH,rs.map tR,())=some (oF (dF ⟨V,F,hs,rs⟩ f)):=Q5 (t:=⟨V,F,hs,rs⟩) hR hF f
theorem M6{V F:Int}{hs:List Hf}{rs:List Rg}(hR:rs.length≤1000)(hF:0≤F∧F≤1000)(f:Int):kH ((),f,V,F,hs.map tH,rs.map tR,())=some (oF (dF ⟨V,F,hs,rs⟩ f)):=Cd (t:=⟨V,F,hs,rs⟩) hR hF f
def bA(t:Tp):Mp where
 n:=t.hs.length
 R:=t.rs.length
 V:=t.V.toNat
 F:=t.F.toNat
 f:=fun k=>(hG t.hs k).f.toNat
 r:=fun k=>(hG t.hs k).r.toNat
 nx:=nx t
 pv:=pv t
 al:=fun q=>decide ((rG t.rs q).h=-1)
 rv:=fun q=>(rG t.rs q).v.toNat
 rc:=fun q=>(rG t.rs q).c.toNat
def tE:cy:=⟨fun _=>true,fun _=>true,fun _=>true,fun _=>true⟩
structure NN (t:Tp) (a:cy):Prop where
 h:∀k,dD t.hs.length a.L k→0≤(hG t.hs k).f∧0≤(hG t.hs k).n∧0≤(hG t.hs k).p∧0≤(hG t.hs k).r
 c:∀q,dD t.rs.length a.R q→0≤(rG t.rs q).c∧(((rG t.rs q).h=-1∧0≤(rG t.rs q).v)∨((rG t.rs q).h≠-1∧(rG t.rs q).v=-1))
theorem J9{P:Nat→Bool}{n:Nat}:aw P n=1↔∃q,(q<n∧P q=true)∧∀q',q'<n→P q'=true→q'=q:=by
 constructor
 ·intro h
  obtain⟨q,hq,hp⟩:=rK.1 (by omega:0<aw P n)
  exact⟨q,⟨hq,hp⟩,fun q' h1 h2=>Es (by omega) h1 hq h2 hp⟩
 ·rintro ⟨q,⟨h1,h2⟩,h3⟩
  have:aw P n=[q].length:=M3 (by simp) fun y=>by
   constructor
   ·intro hy
    have e:y=q:=by simpa using hy
    subst e;exact⟨h1,h2⟩
   ·rintro ⟨a1,a2⟩
    rw[h3 y a1 a2];simp
  exact this
theorem CKP.wv{t:Tp}(ht:CKP t):WV (bA t) tE∧NN t tE:=by
 have hk:=ht.toHok
 have hb:=fun k (h:k<t.hs.length)=>iS.1 (hk.b1 k h)
 have nn:NN t tE:=⟨fun k hl=>by obtain⟨h1,h2,h3,h4⟩:=hb k hl.1;exact⟨h1.1,h2.1,h3.1,h4.1⟩,fun q hq=>⟨(ht.rc q hq.1).1,by
  rcases ht.rr q hq.1 with⟨h1,h2,_⟩ | ⟨h1,_,_,h2,_⟩
  ·exact .inl ⟨h1,h2⟩
  ·exact .inr ⟨by omega,h2⟩⟩⟩
 refine⟨?_,nn⟩
 have rEq:∀k,k<t.hs.length→∀q:Nat,((hG t.hs k).r.toNat=q↔fC t q k=true):=fun k h q=>by
  have:=(hb k h).2.2.2
  unfold fC;rw[bE];omega
 have fEq:∀k,k<t.hs.length→∀u:Nat,((hG t.hs k).f.toNat=u↔nJ t u k=true):=fun k h u=>by
  have:=(hb k h).1
  unfold nJ;rw[bE];omega
 have aEq:∀q,q<t.rs.length→∀u:Nat,((decide ((rG t.rs q).h=-1)=true∧(rG t.rs q).v.toNat=u)↔B6 t u q=true):=fun q h u=>by
  unfold B6;rw[cS,bE,bE]
  have:=(nn.c q ⟨h,rfl⟩).2
  constructor
  ·rintro ⟨h1,h2⟩;exact⟨h1,by omega⟩
  ·rintro ⟨h1,h2⟩;exact⟨h1,by omega⟩
 refine { ch:=fun k hl=>⟨kQ hk.e hl.1,rfl⟩,hf:=fun k hl=>⟨?_,rfl⟩,hn:=fun k hl=>⟨hk.bf hl.1,rfl⟩,hp:=fun k hl=>⟨hk.aj hl.1,rfl⟩,pn:=fun k hl=>hk.pn hl.1,np:=fun k hl=>hk.np hl.1,hr:=fun k hl=>⟨?_,rfl⟩,rn:=fun k hl=>?_,ff:=fun k hl=>?_,rc:=fun q hq=>⟨?_,rfl⟩,ra:=fun q hq bo=>⟨⟨?_,rfl⟩,fun k hl e=>?_⟩,ro:=fun q hq bo=>?_,fc:=fun g hg=>?_,va:=fun u hu=>?_ }
 ·show (hG t.hs k).f.toNat<t.V.toNat
  have:=(hb k hl.1).1;omega
 ·show (hG t.hs k).r.toNat<t.rs.length
  have:=(hb k hl.1).2.2.2;omega
 ·show (hG t.hs (nx t k:Nat)).r.toNat=(hG t.hs k).r.toNat
  rw[hk.rg hl.1]
 ·show (hG t.hs (nx t k:Nat)).f.toNat=(hG t.hs (mt k:Nat)).f.toNat
  rw[hk.fr hl.1]
 ·show (rG t.rs q).c.toNat<t.F.toNat
  have:=ht.rc q hq.1;omega
 ·show (rG t.rs q).v.toNat<t.V.toNat
  have h1:(rG t.rs q).h=-1:=bI bo
  rcases ht.rr q hq.1 with⟨_,h2,h3,_⟩ | ⟨h2,_⟩ <;> omega
 ·have h1:(rG t.rs q).h=-1:=bI bo
  rcases ht.rr q hq.1 with⟨_,_,_,h4⟩ | ⟨h2,_⟩
  ·have:=(rEq k hl.1 q).1 e
   rw[h4 k hl.1] at this;cases this
  ·omega
 ·have h1:(rG t.rs q).h≠-1:=rS bo
  rcases ht.rr q hq.1 with⟨h2,_⟩ | ⟨_,_,_,_,h3⟩
  ·exact absurd h2 h1
  ·refine h3.ext (fun _ _ _=>rfl) fun y=>?_
   show (y<t.hs.length∧(true&&decide ((hG t.hs y).r.toNat=q))=true)↔_
   rw[fM,bE]
   exact K8 fun hy=>rEq y hy q
 ·obtain⟨j,j1,j2⟩:=ht.fc g hg.1
  exact⟨j,⟨j1,rfl⟩,j2⟩
 ·rcases ht.vv u hu.1 with⟨h1,h2⟩ | ⟨h1,h2⟩
  ·obtain⟨q,⟨q1,q2⟩,q3⟩:=J9.1 h1
   obtain⟨q4,q5⟩:=(aEq q q1 u).2 q2
   refine .inl ⟨⟨q,⟨⟨q1,rfl⟩,q4,q5⟩,fun q' p1 p2 p3=>q3 q' p1.1 ((aEq q' p1.1 u).1 ⟨p2,p3⟩)⟩,fun k hl e=>?_⟩
   have:=(fEq k hl.1 u).1 e
   rw[h2 k hl.1] at this;cases this
  ·refine .inr ⟨fun q p1 p2 p3=>?_,h2.ext (fun _ _ _=>rfl) fun y=>?_⟩
   ·have:=(aEq q p1.1 u).1 ⟨p2,p3⟩
    rw[h1 q p1.1] at this;cases this
   ·show (y<t.hs.length∧(true&&decide ((hG t.hs y).f.toNat=u))=true)↔_
    rw[fM,bE]
    exact K8 fun hy=>fEq y hy u
theorem WV.fp{t:Tp}(hz:Sz t)(nn:NN t tE)(h:WV (bA t) tE):CKP (lz t):=by
 have nh:=fun k (hk:k<t.hs.length)=>nn.h k ⟨hk,rfl⟩
 have nc:=fun q (hq:q<t.rs.length)=>nn.c q ⟨hq,rfl⟩
 have nxi:∀k,k<t.hs.length→(hG t.hs k).n=(nx t k:Int):=fun k hk=>by have:=(nh k hk).2.1;unfold nx;omega
 have pvi:∀k,k<t.hs.length→(hG t.hs k).p=(pv t k:Int):=fun k hk=>by have:=(nh k hk).2.2.1;unfold pv;omega
 have nlt:∀k,k<t.hs.length→nx t k<t.hs.length:=fun k hk=>(h.hn k ⟨hk,rfl⟩).1
 have plt:∀k,k<t.hs.length→pv t k<t.hs.length:=fun k hk=>(h.hp k ⟨hk,rfl⟩).1
 have mlt:∀k,k<t.hs.length→mt k<t.hs.length:=fun k hk=>kQ hz.e hk
 have hok:Hok t:={ hz with
  b1:=fun k hk=>iS.2 ⟨⟨(nh k hk).1,by have:(hG t.hs k).f.toNat<t.V.toNat:=(h.hf k ⟨hk,rfl⟩).1;have:=(nh k hk).1;omega⟩,⟨(nh k hk).2.1,by have:=nlt k hk;rw[nxi k hk];omega⟩,⟨(nh k hk).2.2.1,by have:=plt k hk;rw[pvi k hk];omega⟩,(nh k hk).2.2.2,by have:(hG t.hs k).r.toNat<t.rs.length:=(h.hr k ⟨hk,rfl⟩).1;have:=(nh k hk).2.2.2;omega⟩
  b2:=fun k hk=>LY.2 ⟨by
   rw[nxi k hk,pvi _ (nlt k hk)]
   have:pv t (nx t k)=k:=h.pn k ⟨hk,rfl⟩
   rw[this],by
   rw[pvi k hk,nxi _ (plt k hk)]
   have:nx t (pv t k)=k:=h.np k ⟨hk,rfl⟩
   rw[this],by
   have:(hG t.hs (nx t k:Nat)).r.toNat=(hG t.hs k).r.toNat:=h.rn k ⟨hk,rfl⟩
   have h1:=(nh k hk).2.2.2
   have h2:=(nh _ (nlt k hk)).2.2.2
   rw[nxi k hk];omega,by
   have:(hG t.hs (nx t k:Nat)).f.toNat=(hG t.hs (mt k:Nat)).f.toNat:=h.ff k ⟨hk,rfl⟩
   have h1:=(nh _ (mlt k hk)).1
   have h2:=(nh _ (nlt k hk)).1
   rw[nxi k hk];omega⟩ }
 have rEq:∀k,k<t.hs.length→∀q:Nat,((hG t.hs k).r.toNat=q↔fC t q k=true):=fun k hk q=>by
  have:=(nh k hk).2.2.2
  unfold fC;rw[bE];omega
 have fEq:∀k,k<t.hs.length→∀u:Nat,((hG t.hs k).f.toNat=u↔nJ t u k=true):=fun k hk u=>by
  have:=(nh k hk).1
  unfold nJ;rw[bE];omega
 have hRl:(lz t).rs.length=t.rs.length:=oU t
 have lR:∀q,q<t.rs.length→(rG (lz t).rs q).c=(rG t.rs q).c∧(rG (lz t).rs q).v=(rG t.rs q).v∧((rG t.rs q).h=-1→(rG (lz t).rs q).h=-1)∧((rG t.rs q).h≠-1→(rG (lz t).rs q).h=Iq (fC t q) t.hs.length (rG t.rs q).h):=fun q hq=>by
  rw[IW t hq]
  unfold N4
  by_cases he:(rG t.rs q).h=-1
  ·rw[aR he]
   exact⟨rfl,rfl,fun _=>he,fun hne=>absurd he hne⟩
  ·rw[aW he]
   exact⟨rfl,rfl,fun e=>absurd e he,fun _=>rfl⟩
 have hOrb:∀q,q<t.rs.length→(rG t.rs q).h≠-1→bu (nx t) t.hs.length (fC t q):=fun q hq hne=>by
  refine(h.ro q ⟨hq,rfl⟩ (aW hne)).ext (fun _ _ _=>rfl) fun y=>?_
  show _↔(y<t.hs.length∧(true&&decide ((hG t.hs y).r.toNat=q))=true)
  rw[fM,bE]
  exact K8 fun hy=>(rEq y hy q).symm
 have hFi:∀q,q<t.rs.length→(rG t.rs q).h≠-1→∃k:Nat,k<t.hs.length∧(rG (lz t).rs q).h=(k:Int)∧fC t q k=true:=fun q hq hne=>by
  obtain⟨x,m,_,hm⟩:=hOrb q hq hne
  have hx:=(hm x).1 (by simp)
  have hc:0<aw (fC t q) t.hs.length:=rK.2 ⟨x,hx.1,hx.2⟩
  rw[(lR q hq).2.2.2 hne]
  unfold Iq
  rw[aC hc]
  obtain⟨k,k1,k2,k3⟩:=GY hc
  exact⟨k,k1,k2,k3⟩
 have aEq:∀q,q<t.rs.length→∀u:Nat,(B6 (lz t) u q=true↔(decide ((rG t.rs q).h=-1)=true∧(rG t.rs q).v.toNat=u)):=fun q hq u=>by
  obtain⟨_,l2,l3,l4⟩:=lR q hq
  unfold B6;rw[cS,bE,bE,bE,l2]
  by_cases he:(rG t.rs q).h=-1
  ·rcases(nc q hq).2 with⟨_,hv⟩ | ⟨hne,_⟩
   ·constructor
    ·rintro ⟨_,h2⟩;exact⟨he,by omega⟩
    ·rintro ⟨_,h2⟩;exact⟨l3 he,by omega⟩
   ·exact absurd he hne
  ·constructor
   ·rintro ⟨h1,_⟩
    obtain⟨k,_,k2,_⟩:=hFi q hq he
    omega
   ·rintro ⟨h1,_⟩;exact absurd h1 he
 have hb1:∀k,k<(lz t).hs.length→b1 (lz t) k=true:=fun k hk=>by
  have:=hok.b1 k hk
  unfold Tl.b1 at this ⊢
  rw[hRl];exact this
 have hok':Hok (lz t):={ n:=hz.n,e:=hz.e,V0:=hz.V0,V1:=hz.V1,F0:=hz.F0,F1:=hz.F1,R:=by rw[hRl];exact hz.R,b1:=hb1,b2:=hok.b2 }
 refine { hok' with rc:=fun q hq=>?_,rr:=fun q hq=>?_,fc:=fun g hg=>?_,vv:=fun u hu=>?_ }
 ·rw[hRl] at hq
  rw[(lR q hq).1]
  have h1:(rG t.rs q).c.toNat<t.F.toNat:=(h.rc q ⟨hq,rfl⟩).1
  have h2:=(nc q hq).1
  exact⟨h2,by show (rG t.rs q).c<t.F;omega⟩
 ·rw[hRl] at hq
  obtain⟨l1,l2,l3,l4⟩:=lR q hq
  by_cases he:(rG t.rs q).h=-1
  ·obtain⟨a1,a2⟩:=h.ra q ⟨hq,rfl⟩ (aR he)
   have a1:(rG t.rs q).v.toNat<t.V.toNat:=a1.1
   rcases(nc q hq).2 with⟨_,hv⟩ | ⟨hne,_⟩
   ·refine .inl ⟨l3 he,by rw[l2];exact hv,by rw[l2];show (rG t.rs q).v<t.V;omega,fun k hk=>?_⟩
    cases hi:fC (lz t) q k with
    | false=>rfl
    | true=>exact absurd ((rEq k hk q).2 hi) (a2 k ⟨hk,rfl⟩)
   ·exact absurd he hne
  ·obtain⟨k,k1,k2,k3⟩:=hFi q hq he
   rcases(nc q hq).2 with⟨h1,_⟩ | ⟨_,hv⟩
   ·exact absurd h1 he
   ·refine .inr ⟨by omega,by rw[k2];show (k:Int)<t.hs.length;omega,by rw[k2];exact bI k3,by rw[l2];exact hv,hOrb q hq he⟩
 ·obtain⟨q,q1,q2⟩:=h.fc g ⟨hg,rfl⟩
  exact⟨q,by rw[hRl];exact q1.1,by rw[(lR q q1.1).1];exact q2⟩
 ·rw[hRl]
  rcases h.va u ⟨hu,rfl⟩ with⟨⟨q,⟨q1,q2,q3⟩,q4⟩,h2⟩ | ⟨h1,h2⟩
  ·refine .inl ⟨J9.2 ⟨q,⟨q1.1,(aEq q q1.1 u).2 ⟨q2,q3⟩⟩,fun q' p1 p2=>?_⟩,fun k hk=>?_⟩
   ·obtain⟨p3,p4⟩:=(aEq q' p1 u).1 p2
    exact q4 q' ⟨p1,rfl⟩ p3 p4
   ·cases hi:nJ (lz t) u k with
    | false=>rfl
    | true=>exact absurd ((fEq k hk u).2 hi) (h2 k ⟨hk,rfl⟩)
  ·refine .inr ⟨fun q hq=>?_,h2.ext (fun _ _ _=>rfl) fun y=>?_⟩
   ·cases ha:B6 (lz t) u q with
    | false=>rfl
    | true=>
     obtain⟨p3,p4⟩:=(aEq q hq u).1 ha
     exact absurd p4 (h1 q ⟨hq,rfl⟩ p3)
   ·show _↔(y<t.hs.length∧(true&&decide ((hG t.hs y).f.toNat=u))=true)
    rw[fM,bE]
    exact K8 fun hy=>(fEq y hy u).symm
theorem ie.refl(n:Nat)(P:Nat→Bool):ie n P n P id id:=⟨fun _ h=>h,fun _ h=>h,fun _ _=>rfl,fun _ _=>rfl⟩
theorem WV.ng{m:Mp}{a:cy}(h:WV m a){F':Nat}{P':Nat→Bool}{rc:Nat→Nat}(h1:∀q,dD m.R a.R q→dD F' P' (rc q))(h2:∀g,dD F' P' g→∃q,dD m.R a.R q∧rc q=g):WV { m with F:=F',rc:=rc } { a with F:=P' }:=
 { ch:=h.ch,hf:=h.hf,hn:=h.hn,hp:=h.hp,pn:=h.pn,np:=h.np,hr:=h.hr,rn:=h.rn,ff:=h.ff,rc:=h1,ra:=h.ra,ro:=h.ro,fc:=h2,va:=h.va }
theorem WV.gw{m:Mp}{a:cy}(h:WV m a){al:Nat→Bool}{rv rc:Nat→Nat}(ha:∀j,dD m.R a.R j→al j=m.al j)(hv:∀j,dD m.R a.R j→al j=true→rv j=m.rv j)(hc:∀j,dD m.R a.R j→rc j=m.rc j):
 WV { m with al:=al,rv:=rv,rc:=rc } a:=h.ji (ie.refl m.R a.R) (r:=m.r) (fun _ _=>rfl) ha hv hc
theorem Ia{t:Tp}(ht:CKP t){r:Nat}(hr:r<t.rs.length)(hF:t.F+1≤257)(hc:aw (vV t (rG t.rs r).c) t.rs.length≠1):CKP (lz ⟨t.V,t.F+1,t.hs,t.rs.set r { rG t.rs r with c:=t.F }⟩):=by
 obtain⟨hw,nn⟩:=ht.wv
 have hF0:=ht.F0
 have hset:∀q:Nat,rG (t.rs.set r { rG t.rs r with c:=t.F }) q=if r=q then { rG t.rs r with c:=t.F } else rG t.rs q:=fun q=>jE hr
 have hlen:(t.rs.set r { rG t.rs r with c:=t.F }).length=t.rs.length:=dP ..
 refine WV.fp { n:=ht.n,e:=ht.e,V0:=ht.V0,V1:=ht.V1,F0:=by show (1:Int)≤t.F+1;omega,F1:=hF,R:=by rw[hlen];exact ht.R } ⟨fun k hk=>nn.h k hk,fun q hq=>?_⟩ ?_
 ·have hq':q<t.rs.length:=by rw[←hlen];exact hq.1
  obtain⟨n1,n2⟩:=nn.c q ⟨hq',rfl⟩
  show 0≤(rG (t.rs.set r { rG t.rs r with c:=t.F }) q).c∧_
  simp only[hset q]
  by_cases e:r=q
  ·subst e
   rw[aC rfl]
   exact⟨by show 0≤t.F;omega,n2⟩
  ·rw[aA e]
   exact⟨n1,n2⟩
 ·let X:Tp:=⟨t.V,t.F+1,t.hs,t.rs.set r { rG t.rs r with c:=t.F }⟩
  have h1:WV { bA t with al:=(bA X).al,rv:=(bA X).rv,rc:=(bA t).rc } tE:=hw.gw (fun j hj=>by
   show decide ((rG (t.rs.set r { rG t.rs r with c:=t.F }) j).h=-1)=decide ((rG t.rs j).h=-1)
   rw[hset j]
   by_cases e:r=j
   ·subst e;rw[aC rfl]
   ·rw[aA e]) (fun j hj _=>by
   show (rG (t.rs.set r { rG t.rs r with c:=t.F }) j).v.toNat=(rG t.rs j).v.toNat
   rw[hset j]
   by_cases e:r=j
   ·subst e;rw[aC rfl]
   ·rw[aA e]) (fun j hj=>rfl)
  have hrcX:∀q,(bA X).rc q=if r=q then t.F.toNat else (rG t.rs q).c.toNat:=fun q=>by
   show (rG (t.rs.set r { rG t.rs r with c:=t.F }) q).c.toNat=_
   rw[hset q]
   split <;> rfl
  have h2:=h1.ng (F':=(bA X).F) (P':=fun _=>true) (rc:=(bA X).rc) (fun q hq=>⟨by
   rw[hrcX q]
   show _<(t.F+1).toNat
   split
   ·omega
   ·have:=(ht.rc q hq.1);omega,rfl⟩) (fun g hg=>by
   have hg1:g<(t.F+1).toNat:=hg.1
   by_cases hgF:g=t.F.toNat
   ·exact⟨r,⟨hr,rfl⟩,by rw[hrcX,aC rfl];exact hgF.symm⟩
   ·obtain⟨j,j1,j2⟩:=ht.fc g (by omega)
    by_cases e:r=j
    ·subst e
     have:∃j',j'<t.rs.length∧j'≠r∧(rG t.rs j').c=(rG t.rs r).c:=by
      refine EW fun hno=>hc (J9.2 ⟨r,⟨hr,aR rfl⟩,fun q' q1 q2=>?_⟩)
      refine EW fun hne=>hno ⟨q',q1,hne,bI q2⟩
     obtain⟨j',p1,p2,p3⟩:=this
     exact⟨j',⟨p1,rfl⟩,by rw[hrcX,aA (fun e=>p2 e.symm),p3];exact j2⟩
    ·exact⟨j,⟨j1,rfl⟩,by rw[hrcX,aA e];exact j2⟩)
  have e:({ bA t with al:=(bA X).al,rv:=(bA X).rv,rc:=(bA X).rc,F:=(bA X).F }:Mp)=bA X:=by
   show Mp.mk _ _ _ _ _ _ _ _ _ _ _=Mp.mk _ _ _ _ _ _ _ _ _ _ _
   congr 1
   exact hlen.symm
  rw[←e]
  exact h2
theorem Ib{t:Tp}(ht:CKP t){f g:Int}(hf:0≤f∧f<t.F)(hg:0≤g∧g<t.F)(hne:f≠g):CKP (lz (dF ⟨t.V,t.F,t.hs,t.rs.map (gC g f)⟩ g)):=by
 obtain⟨hw,nn⟩:=ht.wv
 let X:Tp:=dF ⟨t.V,t.F,t.hs,t.rs.map (gC g f)⟩ g
 have hlen:X.rs.length=t.rs.length:=by show ((t.rs.map _).map _).length=_;simp
 have hget:∀q:Nat,q<t.rs.length→rG X.rs q=gC (t.F-1) g (gC g f (rG t.rs q)):=fun q hq=>by
  show rG ((t.rs.map _).map _) q=_
  rw[BY _ (by simpa using hq),BY _ hq]
 have hc0:∀q:Nat,q<t.rs.length→0≤(rG t.rs q).c∧(rG t.rs q).c<t.F:=fun q hq=>ht.rc q hq
 have cX:∀q:Nat,q<t.rs.length→(rG X.rs q).c=if (if (rG t.rs q).c=g then f else (rG t.rs q).c)=t.F-1 then g else (if (rG t.rs q).c=g then f else (rG t.rs q).c):=fun q hq=>by
  rw[hget q hq]
  unfold gC
  by_cases e:(rG t.rs q).c=g
  ·simp only[aC e];split <;> rfl
  ·simp only[aA e];split <;> rfl
 refine WV.fp (t:=X) { n:=ht.n,e:=ht.e,V0:=ht.V0,V1:=ht.V1,F0:=by show (1:Int)≤t.F-1;omega,F1:=by show t.F-1≤257;have:=ht.F1;omega,R:=by rw[hlen];exact ht.R } ⟨fun k hk=>nn.h k hk,fun q hq=>?_⟩ ?_
 ·have hq':q<t.rs.length:=by rw[←hlen];exact hq.1
  have h1:=hc0 q hq'
  refine⟨by rw[cX q hq'];split <;> (try split) <;> omega,?_⟩
  have:=(nn.c q ⟨hq',rfl⟩).2
  rw[hget q hq',Cf,Cf,Cg,Cg]
  exact this
 ·have h1:WV { bA t with al:=(bA X).al,rv:=(bA X).rv,rc:=(bA t).rc } tE:=hw.gw (fun j hj=>by
   show decide ((rG X.rs j).h=-1)=decide ((rG t.rs j).h=-1)
   rw[hget j hj.1,Cf,Cf]) (fun j hj _=>by
   show (rG X.rs j).v.toNat=(rG t.rs j).v.toNat
   rw[hget j hj.1,Cg,Cg]) (fun j hj=>rfl)
  have h2:=h1.ng (F':=t.F.toNat) (P':=fun k=>decide (k≠g.toNat)) (rc:=fun q=>if (rG t.rs q).c=g then f.toNat else (rG t.rs q).c.toNat) (fun q hq=>by
   have:=hc0 q hq.1
   refine⟨?_,aR ?_⟩
   ·split <;> omega
   ·split <;> omega) (fun u hu=>by
   have hu1:u<t.F.toNat:=hu.1
   have hu2:u≠g.toNat:=bI hu.2
   obtain⟨j,j1,j2⟩:=ht.fc u hu1
   have:=hc0 j j1
   exact⟨j,⟨j1,rfl⟩,by show (if _ then _ else _)=u;rw[aA (by omega)];exact j2⟩)
  have hren:=J8 (n:=t.F.toNat) (x:=g.toNat) (by omega) (P:=fun k=>decide (k≠g.toNat)) fun k hk=>by rw[bE]
  have h3:=h2.ly (m:={ bA t with al:=(bA X).al,rv:=(bA X).rv,rc:=fun q=>if (rG t.rs q).c=g then f.toNat else (rG t.rs q).c.toNat,F:=t.F.toNat }) hren (rc:=(bA X).rc) (fun q hq=>by
   have:=hc0 q hq.1
   show (rG X.rs q).c.toNat=if (if (rG t.rs q).c=g then f.toNat else (rG t.rs q).c.toNat)=t.F.toNat-1 then g.toNat else (if (rG t.rs q).c=g then f.toNat else (rG t.rs q).c.toNat)
   rw[cX q hq.1]
   by_cases e:(rG t.rs q).c=g
   ·simp only[aC e]
    by_cases e2:f=t.F-1
    ·rw[aC e2,aC (by omega)]
    ·rw[aA e2,aA (by omega)]
   ·simp only[aA e]
    by_cases e2:(rG t.rs q).c=t.F-1
    ·rw[aC e2,aC (by omega)]
    ·rw[aA e2,aA (by omega)])
  have e:({ bA t with al:=(bA X).al,rv:=(bA X).rv,rc:=(bA X).rc,F:=t.F.toNat-1 }:Mp)=bA X:=by
   show Mp.mk _ _ _ _ _ _ _ _ _ _ _=Mp.mk _ _ _ _ _ _ _ _ _ _ _
   congr 1
   ·exact hlen.symm
   ·show t.F.toNat-1=(t.F-1).toNat
    omega
  rw[←e]
  exact h3
end Go.Eng.Tl
