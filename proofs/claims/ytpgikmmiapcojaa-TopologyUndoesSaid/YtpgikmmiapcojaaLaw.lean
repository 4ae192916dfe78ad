/- The functions and the laws of this seat in plain words; each statement names its conditions. -/
import Derived.Test.YtpgikmmiapcojaaEng3
import Derived.Test.YtpgikmmiapcojaaGen
import Derived.Test.YtpgikmmiapcojaaGen2
set_option linter.unusedSimpArgs false
set_option linter.unusedVariables false
namespace Go.Eng.Tl
open Go.Eng
def Path(f:Nat→Nat):Nat→List Nat→Nat→Prop
 | x,[],z=>f x=z
 | x,y::m,z=>f x=y∧Path f y m z
def bz(f:Nat→Nat)(x:Nat)(m:List Nat):Prop:=Path f x m x∧(x::m).Nodup
theorem Path.ext{f g:Nat→Nat}:∀{m:List Nat} {x z:Nat},(∀y∈x::m,f y=g y)→Path f x m z→Path g x m z
 | [],x,z,h,hp=>by
  have h1:f x=z:=hp
  show g x=z
  rw[←h x (by simp)];exact h1
 | y::m,x,z,h,hp=>⟨by rw[←h x (by simp)];exact hp.1,Path.ext (fun w hw=>h w (eQ _ hw)) hp.2⟩
theorem kA{f:Nat→Nat}:∀{m:List Nat} {x y z:Nat} {l:List Nat},Path f x (m++y::l) z↔Path f x m y∧Path f y l z
 | [],_,_,_,_=>zO
 | w::m,x,y,z,l=>by
  have ih:=kA (f:=f) (m:=m) (x:=w) (y:=y) (z:=z) (l:=l)
  constructor
  ·intro h;have h2:=ih.1 h.2;exact⟨⟨h.1,h2.1⟩,h2.2⟩
  ·intro h;exact⟨h.1.1,ih.2 ⟨h.1.2,h.2⟩⟩
theorem TA{f:Nat→Nat}:∀{m l:List Nat} {x z:Nat},Path f x m z→Path f x l z→z∉m→z∉l→m=l
 | [],[],_,_,_,_,_,_=>rfl
 | [],y::l,x,z,h1,h2,_,h4=>by
  have h5:f x=z:=h1
  have h6:f x=y:=h2.1
  exact absurd (by rw[←h6,h5];simp) h4
 | y::m,[],x,z,h1,h2,h3,_=>by
  have h5:f x=z:=h2
  have h6:f x=y:=h1.1
  exact absurd (by rw[←h6,h5];simp) h3
 | y::m,y'::l,x,z,h1,h2,h3,h4=>by
  have e:y=y':=h1.1.symm.trans h2.1
  subst e
  rw[TA h1.2 h2.2 (fun h=>h3 (eQ _ h)) (fun h=>h4 (eQ _ h))]
theorem bz.uniq{f:Nat→Nat}{x:Nat}{m l:List Nat}(h1:bz f x m)(h2:bz f x l):m=l:=
 TA h1.1 h2.1 (cY.1 h1.2).1 (cY.1 h2.2).1
theorem bz.pc{f:Nat→Nat}{x y:Nat}{m:List Nat}(h:bz f x m)(hy:y∈m):∃l,bz f y l∧(∀z,z∈y::l↔z∈x::m)∧l.length=m.length:=by
 obtain⟨A,B,rfl⟩:=LC hy
 obtain⟨hp,hn⟩:=h
 have h2:=kA.1 hp
 refine⟨B++x::A,⟨kA.2 ⟨h2.2,h2.1⟩,?_⟩,?_,?_⟩
 ·have e:(x::(A++y::B)).Perm (y::(B++x::A)):=by
   have e1:x::(A++y::B)=(x::A)++(y::B):=rfl
   have e2:y::(B++x::A)=(y::B)++(x::A):=rfl
   rw[e1,e2];exact List.perm_append_comm
  exact e.nodup_iff.1 hn
 ·intro z;simp only[cN,fK]
  constructor
  ·rintro (h | h | h | h) <;> simp[h]
  ·rintro (h | h | h | h) <;> simp[h]
 ·simp;omega
theorem bz.ext{f g:Nat→Nat}{x:Nat}{m:List Nat}(h:bz f x m)(he:∀y∈x::m,f y=g y):bz g x m:=⟨h.1.ext he,h.2⟩
theorem YD{f:Nat→Nat}:∀{m:List Nat} {x z:Nat},Path f x m z→∀y∈x::m,f y∈m∨f y=z
 | [],x,z,h,y,hy=>by
  have e:y=x:=by simpa using hy
  subst e;exact .inr h
 | w::m,x,z,h,y,hy=>by
  rcases cN.1 hy with e | hy
  ·subst e;left;rw[h.1];simp
  ·rcases YD h.2 y hy with h3 | h3
   ·exact .inl (eQ _ h3)
   ·exact .inr h3
theorem bz.step{f:Nat→Nat}{x:Nat}{m:List Nat}(h:bz f x m){y:Nat}(hy:y∈x::m):f y∈x::m:=by
 rcases YD h.1 y hy with h1 | h1
 ·exact eQ _ h1
 ·rw[h1];simp
theorem QG{f:Nat→Nat}{P:Nat→Prop}(hP:∀y,P y→P (f y)):∀{m:List Nat} {x z:Nat},Path f x m z→P x→∀y∈x::m,P y
 | [],x,z,h,hx,y,hy=>by
  have e:y=x:=by simpa using hy
  subst e;exact hx
 | w::m,x,z,h,hx,y,hy=>by
  rcases cN.1 hy with e | hy
  ·subst e;exact hx
  ·exact QG hP h.2 (h.1▸hP x hx) y hy
theorem QH:∀{l₁ l₂:List Nat},l₁.Nodup→(∀x∈l₁,x∈l₂)→l₁.length≤l₂.length
 | [],_,_,_=>HU _
 | a::t,l₂,hn,hs=>by
  have ha:a∈l₂:=hs a (by simp)
  have hn':=cY.1 hn
  have h1:=QH (l₁:=t) (l₂:=l₂.erase a) hn'.2 (fun x hx=>by
   have hne:x≠a:=fun e=>hn'.1 (e▸hx)
   exact(List.mem_erase_of_ne hne).2 (hs x (eQ _ hx)))
  have h2:=List.length_erase_of_mem ha
  have h3:0<l₂.length:=List.length_pos_of_mem ha
  simp only[oB];omega
theorem Rm{l₁ l₂:List Nat}(hn:l₁.Nodup)(hs:∀x∈l₁,x∈l₂)(hl:l₂.length≤l₁.length):∀x∈l₂,x∈l₁:=by
 intro x hx
 by_cases h:x∈l₁
 ·exact h
 ·have h1:=QH (l₁:=x::l₁) (l₂:=l₂) (cY.2 ⟨h,hn⟩) (fun y hy=>by
   rcases cN.1 hy with e | hy
   ·rw[e];exact hx
   ·exact hs y hy)
  simp only[oB] at h1;omega
theorem QI{l:List Nat}{n:Nat}(hn:l.Nodup)(h:∀x∈l,x<n):l.length≤n:=by
 have:=QH (l₂:=List.range n) hn (fun x hx=>xB.2 (h x hx))
 simpa using this
theorem Lc{f:Nat→Nat}{n:Nat}(hf:∀x,x<n→f x<n)(hi:∀x y,x<n→y<n→f x=f y→x=y){x:Nat}(hx:x<n):∃m,bz f x m∧∀y∈x::m,y<n:=by
 have key:∀k,(∃m,bz f x m∧∀y∈x::m,y<n)∨∃m z,m.length=k∧Path f x m z∧(x::m).Nodup∧(∀y∈x::m,y<n)∧(∀y∈x::m,y≠x→∃w∈x::m,f w=y):=by
  intro k
  induction k with
  | zero=>exact .inr ⟨[],f x,rfl,rfl,by simp,by simpa using hx,fun y hy hne=>absurd (by simpa using hy) hne⟩
  | succ k ih=>
   rcases ih with h | ⟨m,z,hl,hp,hn,hb,hw⟩
   ·exact .inl h
   ·by_cases hz:z=x
    ·subst hz;exact .inl ⟨m,⟨hp,hn⟩,hb⟩
    ·have hlast:∃w∈x::m,f w=z∧∀m' u,m=m'++[u]→w=u:=by
      cases hm:m.reverse with
      | nil=>
       have:m=[]:=by simpa using hm
       subst this
       exact⟨x,by simp,hp,fun m' u e=>by simp at e⟩
      | cons u r=>
       have e:m=r.reverse++[u]:=by rw[←UB m,hm];simp
       subst e
       have h2:=(kA.1 hp).2
       refine⟨u,by simp,h2,fun m' u' e=>?_⟩
       have:=List.append_inj' e rfl
       simpa using this.2
     obtain⟨w,hwm,hwz,hwl⟩:=hlast
     have hznot:z∉x::m:=by
      intro hzm
      have hzm':z∈m:=by
       rcases cN.1 hzm with e | h
       ·exact absurd e hz
       ·exact h
      obtain⟨A,B,hAB⟩:=LC hzm'
      have hpz:∃v,v∈x::A∧f v=z:=by
       rw[hAB] at hp
       have h3:=(kA.1 hp).1
       cases hA:A.reverse with
       | nil=>
        have:A=[]:=by simpa using hA
        subst this;exact⟨x,by simp,h3⟩
       | cons u r=>
        have e:A=r.reverse++[u]:=by rw[←UB A,hA];simp
        rw[e] at h3
        exact⟨u,by rw[e];simp,(kA.1 h3).2⟩
      obtain⟨v,hvA,hvz⟩:=hpz
      have hvm:v∈x::m:=by
       rw[hAB]
       rcases cN.1 hvA with e | h
       ·rw[e];simp
       ·exact eQ _ (EL _ h)
      have hvw:v=w:=hi v w (hb v hvm) (hb w hwm) (hvz.trans hwz.symm)
      have hB:w∈z::B:=by
       cases hBr:(z::B).reverse with
       | nil=>simp at hBr
       | cons u r=>
        have e:z::B=r.reverse++[u]:=by rw[←UB (z::B),hBr];simp
        have:=hwl (A++r.reverse) u (by rw[hAB,e];simp)
        rw[this,e];simp
      have hn2:((x::A)++(z::B)).Nodup:=by
       have e:(x::A)++(z::B)=x::m:=by rw[hAB];rfl
       rw[e];exact hn
      exact(rT.1 hn2).2.2 v hvA w hB hvw
     refine .inr ⟨m++[z],f z,by simp[hl],kA.2 ⟨hp,rfl⟩,?_,?_,?_⟩
     ·have e:(x::(m++[z]))=(x::m)++[z]:=rfl
      rw[e]
      refine rT.2 ⟨hn,by simp,fun a ha b hbz=>?_⟩
      have:b=z:=by simpa using hbz
      subst this
      intro e;subst e;exact hznot ha
     ·intro y hy
      have hy':y∈(x::m)++[z]:=hy
      rcases fK.1 hy' with h | h
      ·exact hb y h
      ·have:y=z:=by simpa using h
       subst this;rw[←hwz];exact hf w (hb w hwm)
     ·intro y hy hne
      have hy':y∈(x::m)++[z]:=hy
      rcases fK.1 hy' with h | h
      ·obtain⟨v,hv,e⟩:=hw y h hne
       exact⟨v,EL [z] hv,e⟩
      ·have:y=z:=by simpa using h
       subst this;exact⟨w,EL [y] hwm,hwz⟩
 rcases key n with h | ⟨m,z,hl,_,hn,hb,_⟩
 ·exact h
 ·have:=QI hn hb
  simp only[oB] at this;omega
theorem Ld{f g:Nat→Nat}{h a:Nat}(hh:g h=a)(ha:g a=f h){m:List Nat}{x z:Nat}(he:∀y∈x::m,y≠h→g y=f y)(hp:Path f x m z)(hn:(x::m).Nodup)(hm:h∈x::m)(hna:a∉x::m):
 ∃m',Path g x m' z∧(x::m').Nodup∧m'.length=m.length+1∧∀y,y∈x::m'↔y∈x::m∨y=a:=by
 have first:∀{m:List Nat} {z:Nat},(∀y∈m,y≠h→g y=f y)→Path f h m z→(h::m).Nodup→Path g h (a::m) z:=by
  intro m z he hp hn
  refine⟨hh,?_⟩
  cases m with
  | nil=>show g a=z;rw[ha];exact hp
  | cons y m=>
   refine⟨ha.trans hp.1,hp.2.ext fun w hw=>?_⟩
   refine(he w hw ?_).symm
   intro e;subst e;exact(cY.1 hn).1 hw
 rcases cN.1 hm with e | hm
 ·subst e
  refine⟨a::m,first (fun y hy=>he y (eQ _ hy)) hp hn,?_,by simp,?_⟩
  ·have h1:=cY.1 hn
   refine cY.2 ⟨?_,cY.2 ⟨fun h=>hna (eQ _ h),h1.2⟩⟩
   intro h2
   rcases cN.1 h2 with e | h2
   ·exact hna (by rw[e];simp)
   ·exact h1.1 h2
  ·intro y;simp only[cN]
   constructor
   ·rintro (h | h | h) <;> simp[h]
   ·rintro ((h | h) | h) <;> simp[h]
 ·obtain⟨A,B,rfl⟩:=LC hm
  have h2:=kA.1 hp
  have hn2:((x::A)++(h::B)).Nodup:=hn
  have hn3:=rT.1 hn2
  refine⟨A++h::a::B,kA.2 ⟨h2.1.ext fun w hw=>(he w ?_ ?_).symm,first (fun y hy=>he y (eQ _ (IK _ (eQ _ hy)))) h2.2 hn3.2.1⟩,?_,by simp;omega,?_⟩
  ·have hw':w∈(x::A)++(h::B):=EL _ hw
   exact hw'
  ·intro e;exact hn3.2.2 w hw h (by simp) e
  ·have e:(x::(A++h::a::B)).Perm (a::((x::A)++(h::B))):=by
    have e1:x::(A++h::a::B)=(x::A++[h])++a::B:=by simp
    have e2:(x::A)++(h::B)=(x::A++[h])++B:=by simp
    rw[e1,e2];exact List.perm_middle
   refine e.nodup_iff.2 (cY.2 ⟨hna,hn2⟩)
  ·intro y;simp only[cN,fK]
   constructor
   ·rintro (h | h | h | h | h) <;> simp[h]
   ·rintro ((h | h | h | h) | h) <;> simp[h]
def jE(x:Nat)(m:List Nat)(k:Nat):Nat:=(m++[x]).getD k 0
theorem J3(x:Nat)(m:List Nat):jE x m m.length=x:=by simp[jE]
theorem Eg{x:Nat}{m:List Nat}{k:Nat}(h:k<m.length):jE x m k=m[k]:=by
 unfold jE;rw[jY,AR h,dG h];rfl
theorem HA{x:Nat}{m:List Nat}{k:Nat}(h:k<m.length):jE x m k∈m:=by rw[Eg h];exact OJ h
theorem FT{f:Nat→Nat}:∀{m:List Nat} {x z:Nat},Path f x m z→f x=(m++[z]).getD 0 0∧∀k,k<m.length→f ((m++[z]).getD k 0)=(m++[z]).getD (k+1) 0
 | [],x,z,h=>⟨h,fun k hk=>absurd hk (by simp)⟩
 | y::m,x,z,h=>by
  have ih:=FT h.2
  refine⟨h.1,fun k hk=>?_⟩
  cases k with
  | zero=>exact ih.1
  | succ k=>exact ih.2 k (by simpa using hk)
theorem bz.jh{f:Nat→Nat}{x:Nat}{m:List Nat}(h:bz f x m):f x=jE x m 0:=(FT h.1).1
theorem bz.jw{f:Nat→Nat}{x:Nat}{m:List Nat}(h:bz f x m){k:Nat}(hk:k<m.length):f (jE x m k)=jE x m (k+1):=(FT h.1).2 k hk
theorem bz.eo{f:Nat→Nat}{x:Nat}{m:List Nat}(h:bz f x m){k:Nat}(hk:k<m.length):jE x m k≠x:=by
 intro e;exact(cY.1 h.2).1 (e▸HA hk)
def av(P:Nat→Bool):Nat→Nat
 | 0=>0
 | n+1=>av P n+if P n then 1 else 0
theorem N6(P:Nat→Bool)(n:Nat):av P n=((List.range n).filter P).length:=by
 induction n with
 | zero=>rfl
 | succ n ih=>rw[T6,List.filter_append,tT,←ih];simp only[av,List.filter_cons,List.filter_nil];split <;> rfl
theorem yZ(P:Nat→Bool)(n:Nat):av P n≤n:=by
 induction n with
 | zero=>exact gU _
 | succ n ih=>simp only[av];split <;> omega
theorem pF{P:Nat→Bool}{n:Nat}:0<av P n↔∃k,k<n∧P k=true:=by
 induction n with
 | zero=>simp[av]
 | succ n ih=>
  simp only[av]
  constructor
  ·intro h
   by_cases hp:P n=true
   ·exact⟨n,by omega,hp⟩
   ·rw[aA hp] at h
    obtain⟨k,h1,h2⟩:=ih.1 h
    exact⟨k,by omega,h2⟩
  ·rintro ⟨k,h1,h2⟩
   by_cases e:k=n
   ·subst e;rw[aC h2];omega
   ·have:=ih.2 ⟨k,by omega,h2⟩;omega
theorem Hn{P Q:Nat→Bool}{n:Nat}(h:∀k,k<n→P k=Q k):av P n=av Q n:=by
 induction n with
 | zero=>rfl
 | succ n ih=>simp only[av];rw[ih fun k hk=>h k (by omega),h n (by omega)]
theorem By{P:Nat→Bool}{n:Nat}{l:List Nat}(hn:l.Nodup)(h:∀x∈l,x<n∧P x=true):l.length≤av P n:=by
 rw[N6];exact QH hn fun x hx=>CO.2 ⟨xB.2 (h x hx).1,(h x hx).2⟩
theorem TB{P:Nat→Bool}{n:Nat}{l:List Nat}(hn:l.Nodup)(h:∀x∈l,x<n∧P x=true)(he:av P n≤l.length){x:Nat}(hx:x<n)(hp:P x=true):x∈l:=by
 rw[N6] at he
 exact Rm hn (fun y hy=>CO.2 ⟨xB.2 (h y hy).1,(h y hy).2⟩) he x (CO.2 ⟨xB.2 hx,hp⟩)
theorem M9{P:Nat→Bool}{n:Nat}{l:List Nat}(hn:l.Nodup)(h:∀x,x∈l↔x<n∧P x=true):av P n=l.length:=by
 refine Z8 ?_ (By hn fun x hx=>(h x).1 hx)
 rw[N6]
 exact QH (List.nodup_range.sublist List.filter_sublist) fun x hx=>(h x).2 ⟨xB.1 (CO.1 hx).1,(CO.1 hx).2⟩
open Classical in
noncomputable def R1(f:Nat→Nat)(x:Nat):Nat:=if h:∃m,bz f x m then h.choose.length+1 else 0
theorem AB{f:Nat→Nat}{x:Nat}{m:List Nat}(h:bz f x m):R1 f x=m.length+1:=by
 unfold R1
 have hx:∃m,bz f x m:=⟨m,h⟩
 rw[LA hx,hx.choose_spec.uniq h]
theorem yQ{S E:Type}{F:S→Option (S⊕E)}(n:Nat)(st:Nat→S)(P:Nat→Bool)(eF eT:E)
 (h:∀k,k<n→(∀j,j<k→P j=true)→F (st k)=some (bif P k then .inl (st (k+1)) else .inr eF))
 (he:(∀j,j<n→P j=true)→F (st n)=some (.inr eT)):bH F (st 0)=some (bif (List.range n).all P then eT else eF):=by
 have key:∀m k,n-k=m→k≤n→(∀j,j<k→P j=true)→bH F (st k)=some (bif (List.range n).all P then eT else eF):=by
  intro m
  induction m with
  | zero=>
   intro k h1 h2 h3
   have e:k=n:=by omega
   subst e
   have ha:(List.range k).all P=true:=jF.2 fun j hj=>h3 j (xB.1 hj)
   rw[bA (he h3),ha];rfl
  | succ m ih=>
   intro k h1 h2 h3
   cases hp:P k with
   | true=>
    have h4:=h k (by omega) h3
    rw[hp,bF] at h4
    rw[vZ h4]
    refine ih (k+1) (by omega) (by omega) fun j hj=>?_
    by_cases e:j=k
    ·rw[e];exact hp
    ·exact h3 j (by omega)
   | false=>
    have h4:=h k (by omega) h3
    rw[hp,bV] at h4
    have ha:(List.range n).all P=false:=by
     refine UC.2 fun hh=>?_
     have:=jF.1 hh k (xB.2 (by omega))
     rw[hp] at this;cases this
    rw[bA h4,ha];rfl
 exact key n 0 (by omega) (by omega) fun j hj=>absurd hj (by omega)
section
variable (N:Nat) (r:Nat→Nat→Bool)
inductive bt:Nat→Nat→Prop
 | refl {i:Nat} (h:i<N):bt i i
 | step {i j k:Nat} (h:bt i j) (hr:r j k=true) (hk:k<N):bt i k
end
section
variable {N:Nat} {r:Nat→Nat→Bool}
theorem bt.lt{i j:Nat}(h:bt N r i j):i<N∧j<N:=by
 induction h with
 | refl h=>exact⟨h,h⟩
 | step h hr hk ih=>exact⟨ih.1,hk⟩
theorem bt.trans{i j k:Nat}(h1:bt N r i j)(h2:bt N r j k):bt N r i k:=by
 induction h2 with
 | refl h=>exact h1
 | step h hr hk ih=>exact .step ih hr hk
theorem bt.symm(hs:∀i j,r i j=r j i){i j:Nat}(h:bt N r i j):bt N r j i:=by
 induction h with
 | refl h=>exact .refl h
 | step h hr hk ih=>exact(bt.step (.refl hk) (by rw[hs];exact hr) h.lt.2).trans ih
theorem WD{P:Nat→Prop}{n:Nat}(h:P n):∃m,P m∧∀k,P k→m≤k:=by
 induction n using Nat.strongRecOn with
 | _ n ih=>
  by_cases hm:∃k,P k∧k<n
  ·obtain⟨k,hk,hkn⟩:=hm
   exact ih k hkn hk
  ·refine⟨n,h,fun k hk=>?_⟩
   rcases ZM k n with hl | hl
   ·exact absurd ⟨k,hk,hl⟩ hm
   ·exact hl
open Classical in
noncomputable def iO(N:Nat)(r:Nat→Nat→Bool)(i:Nat):Nat:=if h:∃m,bt N r i m∧∀k,bt N r i k→m≤k then Classical.choose h else 0
theorem kG{i:Nat}(h:i<N):bt N r i (iO N r i)∧∀k,bt N r i k→iO N r i≤k:=by
 unfold iO
 have hx:∃m,bt N r i m∧∀k,bt N r i k→m≤k:=WD (P:=bt N r i) (.refl h)
 rw[LA hx]
 exact LB hx
theorem HI{i:Nat}(h:i<N):iO N r i≤i:=(kG h).2 i (.refl h)
theorem EB(hs:∀i j,r i j=r j i){i j:Nat}(h:bt N r i j):iO N r i=iO N r j:=by
 obtain⟨hi,hj⟩:=h.lt
 obtain⟨a1,a2⟩:=kG (r:=r) hi
 obtain⟨b1,b2⟩:=kG (r:=r) hj
 exact Z8 (a2 _ (h.trans b1)) (b2 _ ((h.symm hs).trans a1))
theorem xQ(hs:∀i j,r i j=r j i){i:Nat}(h:i<N):iO N r (iO N r i)=iO N r i:=(EB hs (kG h).1).symm
open Classical in
noncomputable def oM(N:Nat)(r:Nat→Nat→Bool):Nat→Nat
 | 0=>0
 | l+1=>oM N r l+if iO N r l=l then 1 else 0
theorem OE(l:Nat):oM N r l≤l:=by
 induction l with
 | zero=>exact gU _
 | succ l ih=>simp only[oM];split <;> omega
noncomputable def OF(N:Nat)(r:Nat→Nat→Bool)(i:Nat):Nat:=oM N r (iO N r i)
noncomputable def AH(N:Nat)(r:Nat→Nat→Bool)(i:Nat)(v:Nat):Int:=if iO N r v<i then (OF N r v:Int) else -1
def wt(nb:Nat→List Nat)(out:Nat→Int):Nat→Nat
 | 0=>0
 | n+1=>wt nb out n+if out n<0 then (nb n).length else 0
structure iw (N:Nat) (r:Nat→Nat→Bool) (i:Nat) (out:Nat→Int) (todo:List Nat):Prop where
 lo:∀v,v<N→iO N r v<i→out v=(OF N r v:Int)
 hi:∀v,v<N→i<iO N r v→out v=-1
 ny:∀v,v<N→iO N r v=i→out v=-1∨(out v=(oM N r i:Int)∧∀w,w<N→r v w=true→out w≠-1∨w∈todo)
 td:∀v,v∈todo→v<N∧iO N r v=i
 st:out i≠-1∨i∈todo
theorem Nt(hs:∀i j,r i j=r j i){i g:Nat}{out:Nat→Int}{todo:List Nat}(h:iw N r i out (g::todo))(hg:¬out g<0):iw N r i out todo:=by
 have hne:out g≠-1:=by omega
 refine⟨h.lo,h.hi,fun v hv hl=>?_,fun v hv=>h.td v (eQ _ hv),?_⟩
 ·rcases h.ny v hv hl with h1 | ⟨h1,h2⟩
  ·exact .inl h1
  ·refine .inr ⟨h1,fun w hw hr=>?_⟩
   rcases h2 w hw hr with h3 | h3
   ·exact .inl h3
   ·rcases cN.1 h3 with e | h3
    ·subst e;exact .inl hne
    ·exact .inr h3
 ·rcases h.st with h1 | h1
  ·exact .inl h1
  ·rcases cN.1 h1 with e | h1
   ·subst e;exact .inl hne
   ·exact .inr h1
theorem Nu(hs:∀i j,r i j=r j i){i g:Nat}{out:Nat→Int}{todo nb:List Nat}(h:iw N r i out (g::todo))(hnb:∀w,w∈nb↔w<N∧r g w=true):iw N r i (fun v=>if v=g then (oM N r i:Int) else out v) (todo++nb):=by
 obtain⟨hgN,hgl⟩:=h.td g (by simp)
 refine⟨fun v hv hl=>?_,fun v hv hl=>?_,fun v hv hl=>?_,fun v hv=>?_,?_⟩
 ·rw[aA (fun e=>by subst e;omega)];exact h.lo v hv hl
 ·rw[aA (fun e=>by subst e;omega)];exact h.hi v hv hl
 ·by_cases e:v=g
  ·subst e
   refine .inr ⟨aC rfl,fun w hw hr=>.inr (IK _ ((hnb w).2 ⟨hw,hr⟩))⟩
  ·simp only[aA e]
   rcases h.ny v hv hl with h1 | ⟨h1,h2⟩
   ·exact .inl h1
   ·refine .inr ⟨h1,fun w hw hr=>?_⟩
    by_cases e2:w=g
    ·subst e2;left;rw[aC rfl];omega
    ·rw[aA e2]
     rcases h2 w hw hr with h3 | h3
     ·exact .inl h3
     ·rcases cN.1 h3 with e3 | h3
      ·exact absurd e3 e2
      ·exact .inr (EL _ h3)
 ·rcases fK.1 hv with hv | hv
  ·exact h.td v (eQ _ hv)
  ·obtain⟨a,b⟩:=(hnb v).1 hv
   have hc:bt N r g v:=.step (.refl hgN) b a
   exact⟨a,by rw[←EB hs hc];exact hgl⟩
 ·by_cases e:i=g
  ·subst e;left;rw[aC rfl];omega
  ·rw[aA e]
   rcases h.st with h1 | h1
   ·exact .inl h1
   ·rcases cN.1 h1 with e3 | h3
    ·exact absurd e3 e
    ·exact .inr (EL _ h3)
theorem Y7(hs:∀i j,r i j=r j i){i:Nat}(hi:i<N)(hl:iO N r i=i){out:Nat→Int}(h:iw N r i out []):∀v,v<N→out v=AH N r (i+1) v:=by
 have bw:∀v,v<N→iO N r v=i→out v≠-1→out v=(oM N r i:Int):=fun v hv hl hne=>by
  rcases h.ny v hv hl with h1 | ⟨h1,_⟩
  ·exact absurd h1 hne
  ·exact h1
 have key:∀v,bt N r i v→out v≠-1:=fun v hc=>by
  induction hc with
  | refl _=>
   rcases h.st with h1 | h1
   ·exact h1
   ·simp at h1
  | step hc' hr hk ih=>
   rename_i j k
   have hlj:iO N r j=i:=by rw[←EB hs hc'];exact hl
   rcases h.ny j hc'.lt.2 hlj with h1 | ⟨_,h2⟩
   ·exact absurd h1 ih
   ·rcases h2 k hk hr with h3 | h3
    ·exact h3
    ·simp at h3
 intro v hv
 unfold AH
 rcases Nat.lt_trichotomy (iO N r v) i with h1 | h1 | h1
 ·rw[aC (by omega)];exact h.lo v hv h1
 ·rw[aC (by omega)]
  have hc:bt N r i v:=by
   have:=(kG (r:=r) hv).1
   rw[h1] at this
   exact this.symm hs
  rw[bw v hv h1 (key v hc)]
  unfold OF
  rw[h1]
 ·rw[aA (by omega)];exact h.hi v hv h1
theorem Cv{i:Nat}(hi:i<N)(hl:iO N r i=i):iw N r i (AH N r i) [i]:=by
 refine⟨fun v hv h=>?_,fun v hv h=>?_,fun v hv h=>.inl ?_,fun v hv=>?_,.inr (by simp)⟩
 ·unfold AH;rw[aC h]
 ·unfold AH;rw[aA (by omega)]
 ·unfold AH;rw[aA (by omega)]
 ·have:v=i:=by simpa using hv
  subst this;exact⟨hi,hl⟩
theorem Ul{nb:Nat→List Nat}{out:Nat→Int}{g:Nat}{x:Int}(hx:0≤x)(hg:out g<0):∀n,wt nb (fun v=>if v=g then x else out v) n+(if g<n then (nb g).length else 0)=wt nb out n:=by
 intro n
 induction n with
 | zero=>simp[wt]
 | succ n ih=>
  simp only[wt]
  by_cases e:n=g
  ·subst e
   have h1:¬(x<0):=by omega
   simp only[aA (Nat.lt_irrefl n),rS] at ih
   simp only[eP,aA h1,aC hg,aC (Nat.lt_succ_self n),rS]
   omega
  ·simp only[aA e]
   by_cases h:g<n
   ·rw[aC h] at ih
    rw[aC (show g<n+1 by omega)]
    omega
   ·rw[aA h] at ih
    rw[aA (show ¬g<n+1 by omega)]
    omega
def Ws(N:Nat)(r:Nat→Nat→Bool)(lb:Nat→Nat):Prop:=∀v,v<N→lb v≤v∧bt N r v (lb v)
def jn(lb:Nat→Nat)(a b:Nat):Nat→Nat:=fun v=>if v=b then min (lb a) (lb b) else if v=a then min (lb a) (lb b) else lb v
theorem Um(hs:∀i j,r i j=r j i){lb:Nat→Nat}(h:Ws N r lb){a b:Nat}(ha:a<N)(hb:b<N)(hr:r a b=true):Ws N r (jn lb a b):=fun v hv=>by
 have cab:bt N r a b:=.step (.refl ha) hr hb
 have cba:=cab.symm hs
 obtain⟨a1,a2⟩:=h a ha
 obtain⟨b1,b2⟩:=h b hb
 unfold jn
 have hm:bt N r a (min (lb a) (lb b)):=by
  rcases Nat.le_total (lb a) (lb b) with hl | hl
  ·rw[OP hl];exact a2
  ·rw[Nat.min_eq_right hl];exact cab.trans b2
 by_cases e1:v=b
 ·subst e1;rw[aC rfl];exact⟨by omega,cba.trans hm⟩
 ·rw[aA e1]
  by_cases e2:v=a
  ·subst e2;rw[aC rfl];exact⟨by omega,hm⟩
  ·rw[aA e2];exact h v hv
theorem Wt(lb:Nat→Nat)(a b v:Nat):jn lb a b v≤lb v:=by
 unfold jn
 split
 ·rename_i e;subst e;omega
 ·split
  ·rename_i e;subst e;omega
  ·exact gU _
def Ir(fa fb:Nat→Nat)(lb:Nat→Nat):Nat→Nat→Nat
 | 0=>lb
 | k+1=>jn (Ir fa fb lb k) (fa k) (fb k)
theorem Qy(hs:∀i j,r i j=r j i){fa fb:Nat→Nat}{n:Nat}(hf:∀k,k<n→fa k<N∧fb k<N∧r (fa k) (fb k)=true){lb:Nat→Nat}(h:Ws N r lb):∀k,k≤n→Ws N r (Ir fa fb lb k):=by
 intro k
 induction k with
 | zero=>intro _;exact h
 | succ k ih=>
  intro hk
  obtain⟨a,b,c⟩:=hf k (by omega)
  exact Um hs (ih (by omega)) a b c
theorem Cw(fa fb:Nat→Nat)(lb:Nat→Nat){j:Nat}:∀{k:Nat},j≤k→∀v,Ir fa fb lb k v≤Ir fa fb lb j v:=by
 intro k
 induction k with
 | zero=>intro h v;have:j=0:=by omega
         subst this;exact gU _
 | succ k ih=>
  intro h v
  by_cases e:j=k+1
  ·subst e;exact gU _
  ·exact IG (Wt _ _ _ v) (ih (by omega) v)
def EC(fa fb:Nat→Nat)(n:Nat):Nat→Nat→Nat
 | 0=>fun v=>v
 | k+1=>Ir fa fb (EC fa fb n k) n
theorem QZ(hs:∀i j,r i j=r j i){fa fb:Nat→Nat}{n:Nat}(hf:∀k,k<n→fa k<N∧fb k<N∧r (fa k) (fb k)=true):∀k,Ws N r (EC fa fb n k)
 | 0=>fun v hv=>⟨gU _,.refl hv⟩
 | k+1=>Qy hs hf (QZ hs hf k) n (gU _)
theorem In(hs:∀i j,r i j=r j i){fa fb:Nat→Nat}{n:Nat}(hf:∀k,k<n→fa k<N∧fb k<N∧r (fa k) (fb k)=true){m:Nat}(k:Nat){j:Nat}(hj:j<n)(h1:iO N r (fa j)=m)(h2:EC fa fb n k (fa j)=m):EC fa fb n (k+1) (fb j)=m:=by
 obtain⟨a,b,c⟩:=hf j hj
 have cab:bt N r (fa j) (fb j):=.step (.refl a) c b
 have hlb:iO N r (fb j)=m:=by rw[←EB hs cab];exact h1
 have hl:=QZ hs hf (k+1)
 have lo:=(kG (r:=r) b).2 _ (hl _ b).2
 have hup:EC fa fb n (k+1) (fb j)≤m:=by
  show Ir fa fb (EC fa fb n k) n (fb j)≤m
  refine IG (Cw fa fb _ (j:=j+1) (by omega) _) ?_
  show jn _ _ _ _≤m
  unfold jn
  rw[aC rfl]
  have h3:=Cw fa fb (EC fa fb n k) (j:=0) (k:=j) (HU _) (fa j)
  have h4:Ir fa fb (EC fa fb n k) 0 (fa j)=m:=h2
  omega
 omega
theorem Io(hs:∀i j,r i j=r j i){fa fb:Nat→Nat}{n:Nat}(hf:∀k,k<n→fa k<N∧fb k<N∧r (fa k) (fb k)=true){m v:Nat}(hv:v<N)(hm:iO N r v=m)(k:Nat)(h:EC fa fb n k v=m):EC fa fb n (k+1) v=m:=by
 have h1:EC fa fb n (k+1) v≤m:=by
  have:=Cw fa fb (EC fa fb n k) (j:=0) (k:=n) (HU _) v
  have h2:Ir fa fb (EC fa fb n k) 0 v=m:=h
  show Ir fa fb (EC fa fb n k) n v≤m
  omega
 have h2:=(kG (r:=r) hv).2 _ (QZ hs hf (k+1) v hv).2
 omega
theorem Nv(hs:∀i j,r i j=r j i){fa fb:Nat→Nat}{n:Nat}(hf:∀k,k<n→fa k<N∧fb k<N∧r (fa k) (fb k)=true)(hr:∀a b,a<N→r a b=true→∃k,k<n∧fa k=a∧fb k=b){v:Nat}(hv:v<N):EC fa fb n N v=iO N r v:=by
 obtain⟨m,hm⟩:∃m,m=iO N r v:=⟨_,rfl⟩
 have hmN:m<N:=by rw[hm];exact(kG (r:=r) hv).1.lt.2
 have hml:iO N r m=m:=by rw[hm];exact xQ hs hv
 let P:Nat→Nat→Bool:=fun k x=>decide (iO N r x=m)&&decide (EC fa fb n k x=m)
 have hP:∀k x,P k x=true↔iO N r x=m∧EC fa fb n k x=m:=fun k x=>by
  show (decide _&&decide _)=true↔_
  rw[cM,cK,cK]
 have mono:∀k x,x<N→P k x=true→P (k+1) x=true:=fun k x hx h=>by
  rw[hP] at h ⊢
  exact⟨h.1,Io hs hf hx h.1 k h.2⟩
 have cmono:∀{A B:Nat→Bool} (M:Nat),(∀x,x<M→A x=true→B x=true)→av A M≤av B M:=fun {A B} M h=>by
  induction M with
  | zero=>exact gU _
  | succ M ih=>
   have:=ih fun x hx=>h x (by omega)
   simp only[av]
   by_cases e:A M=true
   ·rw[aC e,aC (h M (by omega) e)];omega
   ·rw[aA e];split <;> omega
 have cstrict:∀{A B:Nat→Bool} (M:Nat),(∀x,x<M→A x=true→B x=true)→(∃x,x<M∧A x=false∧B x=true)→av A M<av B M:=fun {A B} M h=>by
  induction M with
  | zero=>rintro ⟨x,hx,_⟩;omega
  | succ M ih=>
   rintro ⟨x,hx,h1,h2⟩
   simp only[av]
   by_cases e:x=M
   ·subst e
    have:=cmono (A:=A) (B:=B) x fun y hy=>h y (by omega)
    rw[h1,aC h2];simp only[pB,iK];omega
   ·have:=ih (fun y hy=>h y (by omega)) ⟨x,by omega,h1,h2⟩
    by_cases e2:A M=true
    ·rw[aC e2,aC (h M (by omega) e2)];omega
    ·rw[aA e2];split <;> omega
 have grow:∀k,(∃j,j≤k∧∀x,x<N→iO N r x=m→P j x=true)∨k+1≤av (P k) N:=by
  intro k
  induction k with
  | zero=>
   right
   have:0<av (P 0) N:=pF.2 ⟨m,hmN,(hP 0 m).2 ⟨hml,rfl⟩⟩
   omega
  | succ k ih=>
   rcases ih with⟨j,hj,h⟩ | ih
   ·exact .inl ⟨j,by omega,h⟩
   ·by_cases hc:∀x,x<N→iO N r x=m→P k x=true
    ·exact .inl ⟨k,by omega,hc⟩
    ·right
     have hex:∃a b,a<N∧b<N∧r a b=true∧P k a=true∧P k b=false:=by
      refine FA fun hno=>hc fun x hx hlx=>?_
      have hmk:P k m=true:=by
       have:∀k,P k m=true:=fun k=>by
        induction k with
        | zero=>exact(hP 0 m).2 ⟨hml,rfl⟩
        | succ k ih2=>exact mono k m hmN ih2
       exact this k
      have hcm:bt N r m x:=by
       have:=(kG (r:=r) hx).1
       rw[hlx] at this
       exact this.symm hs
      clear hlx hx
      induction hcm with
      | refl _=>exact hmk
      | step hc' hrr hk' ih3=>
       rename_i y z
       have h5:=ih3
       cases hz:P k z with
       | true=>rfl
       | false=>exact absurd ⟨y,z,hc'.lt.2,hk',hrr,h5,hz⟩ hno
     obtain⟨a,b,ha,hb,hab,pa,pb⟩:=hex
     obtain⟨j,hj,ea,eb⟩:=hr a b ha hab
     have h6:=(hP k a).1 pa
     have h7:=In hs hf k hj (m:=m) (by rw[ea];exact h6.1) (by rw[ea];exact h6.2)
     rw[eb] at h7
     have hlb:iO N r b=m:=by rw[←EB hs (.step (.refl ha) hab hb)];exact h6.1
     have:=cstrict (A:=P k) (B:=P (k+1)) N (fun x hx=>mono k x hx) ⟨b,hb,pb,(hP (k+1) b).2 ⟨hlb,h7⟩⟩
     omega
 have hall:∀j d x,x<N→P j x=true→P (j+d) x=true:=fun j d x hx h=>by
  induction d with
  | zero=>exact h
  | succ d ih=>exact mono _ x hx ih
 rcases grow N with⟨j,hj,h⟩ | h
 ·have h8:=hall j (N-j) v hv (h v hv hm.symm)
  have:j+(N-j)=N:=by omega
  rw[this] at h8
  rw[←hm];exact((hP N v).1 h8).2
 ·have:=yZ (P N) N
  omega
end
open Go.Eng Go.Proofs
structure Hf where
 f:Int
 n:Int
 p:Int
 r:Int
 deriving DecidableEq
structure Rg where
 h:Int
 v:Int
 c:Int
 deriving DecidableEq
structure Tp where
 V:Int
 F:Int
 hs:List Hf
 rs:List Rg
def tI(n:Int):T:=.v (.int .i64 n)
def tB(b:Bool):T:=.v (.bool b)
def tH(x:Hf):T:=.agg [tI x.f,tI x.n,tI x.p,tI x.r]
def tR(x:Rg):T:=.agg [tI x.h,tI x.v,tI x.c]
def oF(t:Tp):Int×Int×List T×List T×Unit:=(t.V,t.F,t.hs.map tH,t.rs.map tR,())
def hG(l:List Hf)(i:Int):Hf:=l.getD i.toNat ⟨0,0,0,0⟩
def rG(l:List Rg)(i:Int):Rg:=l.getD i.toNat ⟨0,0,0⟩
@[simp] theorem jX(n:Int):T.int? .i64 (tI n)=some n:=Jw _ _
theorem zS:(∀{α R:Type}(a:α)(k:α→Option R),ob (some a) k=k a)∧((!true)=false)∧((!false)=true)∧(∀{α:Type}(a b:α),cond true a b=a)∧(∀{α:Type}(a b:α),cond false a b=b)∧(∀a b:Int,cV a b=decide (a=b))∧(∀h:Decidable True,@decide True h=true)∧∀n:Int,T.int? .i64 (tI n)=some n:=⟨fun _ _=>rfl,rfl,rfl,fun _ _=>rfl,fun _ _=>rfl,uR,fun _=>OW _,jX⟩
@[simp] theorem fO(n:Int):T.ak (tI n)=some n:=Jx _ _
@[simp] theorem oG(n:Int):T.cell (tI n) 0=tI n:=rfl
@[simp] theorem Pq(b:Bool):T.bool? (tB b)=some b:=Tb b
@[simp] theorem Pr(b:Bool):T.cell (tB b) 0=tB b:=rfl
@[simp] theorem sX(x:Hf):T.cell (tH x) 0=tI x.f:=rfl
@[simp] theorem mZ(x:Hf):T.cell (tH x) 1=tI x.n:=rfl
@[simp] theorem mK(x:Hf):T.cell (tH x) 2=tI x.p:=rfl
@[simp] theorem jK(x:Hf):T.cell (tH x) 3=tI x.r:=rfl
@[simp] theorem y0(x:Rg):T.cell (tR x) 0=tI x.h:=rfl
@[simp] theorem FU(x:Rg):T.cell (tR x) 1=tI x.v:=rfl
@[simp] theorem fA(x:Rg):T.cell (tR x) 2=tI x.c:=rfl
theorem bS(n:Int):T.v (Value.int .i64 n)=tI n:=rfl
theorem QJ(b:Bool):T.v (Value.bool b)=tB b:=rfl
theorem DT(n m:Int):T.aw 1 (tI n) 0 [tI m]=tI m:=Jy _ _
theorem Le(n m:Bool):T.aw 1 (tB n) 0 [tB m]=tB m:=Jy _ _
theorem wk{k:Nat}(h:k≤1000000):wr .i64 ((k:Int)+1)=((k+1:Nat):Int):=by rw[gN (by omega) (by omega)];push_cast;rfl
theorem sL(l:List Hf)(k:Nat)(h:k<l.length):l[k]?=some (hG l (k:Int)):=by
 unfold hG;rw[nR,jY,dG h];rfl
theorem wD(l:List Rg)(k:Nat)(h:k<l.length):l[k]?=some (rG l (k:Int)):=by
 unfold rG;rw[nR,jY,dG h];rfl
theorem dW{l:List Hf}{i:Int}(h0:0≤i)(h:i<l.length):cL (l.map tH) i=some (tH (hG l i)):=by
 obtain⟨k,rfl⟩:∃k:Nat,i=(k:Int):=⟨i.toNat,by omega⟩
 rw[A5,eW,sL l k (by omega)];rfl
theorem hJ{l:List Rg}{i:Int}(h0:0≤i)(h:i<l.length):cL (l.map tR) i=some (tR (rG l i)):=by
 obtain⟨k,rfl⟩:∃k:Nat,i=(k:Int):=⟨i.toNat,by omega⟩
 rw[A5,eW,wD l k (by omega)];rfl
theorem bL(l:List Hf):aH (l.map tH)=(l.length:Int):=by rw[jI,cS]
theorem bC(l:List Rg):aH (l.map tR)=(l.length:Int):=by rw[jI,cS]
def mt(k:Nat):Nat:=k ^^^ 1
theorem nH(k:Nat):mt k/2=k/2:=by unfold mt;rw[Nat.xor_div_two];simp
theorem oY(k:Nat):mt k%2=(k+1)%2:=by
 have h:(mt k)%2=1↔¬(k%2=1↔1%2=1):=Nat.xor_mod_two_eq_one
 omega
theorem qA(k:Nat):mt (mt k)=k:=by have:=nH k;have:=oY k;have:=nH (mt k);have:=oY (mt k);omega
theorem rW(k:Nat):mt k≠k:=by have:=nH k;have:=oY k;omega
theorem kS{k n:Nat}(hn:n%2=0)(h:k<n):mt k<n:=by have:=nH k;have:=oY k;omega
theorem VH{a b:Nat}(h:mt a=mt b):a=b:=by rw[←qA a,h,qA]
theorem Lf{k:Nat}(h:k≤1000000):JH .xor .i64 (k:Int) 1=((mt k:Nat):Int):=by
 unfold JH
 have h0:(BitVec.ofInt 64 (k:Int) ^^^ BitVec.ofInt 64 (1:Int)).toNat=mt k:=by
  have e1:BitVec.ofInt 64 (k:Int)=BitVec.ofNat 64 k:=BitVec.ofInt_natCast _ _
  have e2:BitVec.ofInt 64 (1:Int)=BitVec.ofNat 64 1:=BitVec.ofInt_natCast 64 1
  rw[e1,e2,BitVec.toNat_xor,BitVec.toNat_ofNat,BitVec.toNat_ofNat,Nat.mod_eq_of_lt (by omega)]
  rfl
 have h1:(BitVec.ofInt IntKind.i64.bits (k:Int) ^^^ BitVec.ofInt IntKind.i64.bits (1:Int)).toNat=mt k:=h0
 rw[h1]
 have h2:=nH k
 have:=gN (n:=(mt k:Int)) (by omega) (by omega)
 unfold wr at this;exact this
theorem qN{k:Nat}(h:k≤1000000):iE ((k:Int),())=some ((mt k:Int),()):=by unfold iE;rw[Lf h]
theorem rP{k:Nat}(h:k≤1000000):dP ((k:Int),())=some ((mt k:Int),()):=by unfold dP;rw[Lf h]
def rJ(a b:Int):Bool:=decide (0≤a)&&decide (a<b)
theorem bR{a b:Int}:rJ a b=true↔0≤a∧a<b:=by unfold rJ;simp
theorem fP(a b:Int):cZ (a,b,())=some (rJ a b,()):=by
 unfold cZ rJ;simp only[gH,aK];cases decide (0≤a) <;> rfl
theorem bM(a b:Int):cO (a,b,())=some (rJ a b,()):=by
 unfold cO rJ;simp only[gH,aK];cases decide (0≤a) <;> rfl
def b1(t:Tp)(k:Nat):Bool:=rJ (hG t.hs k).f t.V&&(rJ (hG t.hs k).n t.hs.length&&(rJ (hG t.hs k).p t.hs.length&&rJ (hG t.hs k).r t.rs.length))
def b2(t:Tp)(k:Nat):Bool:=decide ((hG t.hs (hG t.hs k).n).p=k)&&(decide ((hG t.hs (hG t.hs k).p).n=k)&&(decide ((hG t.hs (hG t.hs k).n).r=(hG t.hs k).r)&&decide ((hG t.hs (hG t.hs k).n).f=(hG t.hs (mt k:Nat)).f)))
def dx(t:Tp):Bool:=(List.range t.hs.length).all (b1 t)&&(List.range t.hs.length).all (b2 t)
structure Sz (t:Tp):Prop where
 n:t.hs.length≤256
 e:t.hs.length%2=0
 V0:1≤t.V
 V1:t.V≤257
 F0:1≤t.F
 F1:t.F≤257
 R:t.rs.length≤257
theorem iJ{t:Tp}{k:Nat}:b1 t k=true↔(0≤(hG t.hs k).f∧(hG t.hs k).f<t.V)∧(0≤(hG t.hs k).n∧(hG t.hs k).n<t.hs.length)∧(0≤(hG t.hs k).p∧(hG t.hs k).p<t.hs.length)∧0≤(hG t.hs k).r∧(hG t.hs k).r<t.rs.length:=by
 unfold b1;simp only[cM,bR]
theorem L5{t:Tp}{k:Nat}:b2 t k=true↔(hG t.hs (hG t.hs k).n).p=k∧(hG t.hs (hG t.hs k).p).n=k∧(hG t.hs (hG t.hs k).n).r=(hG t.hs k).r∧(hG t.hs (hG t.hs k).n).f=(hG t.hs (mt k:Nat)).f:=by
 unfold b2;simp only[cM,cK]
def H0(t:Tp)(k:Nat):Unit×Int×Int×Int×Int×List T×List T×Unit:=((),(t.hs.length:Int),(k:Int),t.V,t.F,t.hs.map tH,t.rs.map tR,())
theorem Yj{t:Tp}(hz:Sz t){k:Nat}(hk:k<t.hs.length):oN (H0 t k)=some (bif b1 t k then .inl (H0 t (k+1)) else .inr (.inl (false,()))):=by
 have hn:=hz.n
 have hlt:decide ((k:Int)<(t.hs.length:Int))=true:=aM (by omega)
 unfold oN H0 b1
 simp only[aK,hlt,bF,dW (l:=t.hs) (i:=(k:Int)) (by omega) (by omega),fI,sX,mZ,mK,jK,jX,fP,bC,aO,wk (k:=k) (by omega)]
 cases rJ (hG t.hs k).f t.V <;> cases rJ (hG t.hs k).n t.hs.length <;> cases rJ (hG t.hs k).p t.hs.length <;> cases rJ (hG t.hs k).r t.rs.length <;> rfl
theorem Yk{t:Tp}(hz:Sz t)(hb:∀j,j<t.hs.length→b1 t j=true){k:Nat}(hk:k<t.hs.length):oO (H0 t k)=some (bif b2 t k then .inl (H0 t (k+1)) else .inr (.inl (false,()))):=by
 have hn:=hz.n
 have hlt:decide ((k:Int)<(t.hs.length:Int))=true:=aM (by omega)
 obtain⟨_,h1,h2,_⟩:=iJ.1 (hb k hk)
 have hm:=kS hz.e hk
 unfold oO H0 b2
 simp only[zS,aK,hlt,dW (l:=t.hs) (i:=(k:Int)) (by omega) (by omega),dW (l:=t.hs) h1.1 h1.2,dW (l:=t.hs) h2.1 h2.2,qN (k:=k) (by omega),dW (l:=t.hs) (i:=((mt k:Nat):Int)) (by omega) (by omega),sX,mZ,mK,jK,fO,aO,wk (k:=k) (by omega)]
 cases decide ((hG t.hs (hG t.hs k).n).p=k) <;> cases decide ((hG t.hs (hG t.hs k).p).n=k) <;> cases decide ((hG t.hs (hG t.hs k).n).r=(hG t.hs k).r) <;> cases decide ((hG t.hs (hG t.hs k).n).f=(hG t.hs (mt k:Nat)).f) <;> rfl
theorem Ho{t:Tp}(hz:Sz t):wL (oF t)=some (dx t,()):=by
 have hlt:decide ((t.hs.length:Int)<(t.hs.length:Int))=false:=aQ (by omega)
 have l0:=yQ (F:=oN) t.hs.length (H0 t) (b1 t) (.inl (false,())) (.inr (.inl ((),(t.hs.length:Int),t.V,t.F,t.hs.map tH,t.rs.map tR,()))) (fun k hk _=>Yj hz hk) (fun _=>by
  unfold oN H0;simp only[aK,hlt,bV])
 unfold wL oF
 simp only[bL]
 have e0:((),(t.hs.length:Int),(0:Int),t.V,t.F,t.hs.map tH,t.rs.map tR,())=H0 t 0:=rfl
 rw[e0,l0]
 unfold dx
 cases h:(List.range t.hs.length).all (b1 t) with
 | false=>rfl
 | true=>
  have hb:∀j,j<t.hs.length→b1 t j=true:=fun j hj=>jF.1 h j (xB.2 hj)
  have l1:=yQ (F:=oO) t.hs.length (H0 t) (b2 t) (.inl (false,())) (.inr (.inl ())) (fun k hk _=>Yk hz hb hk) (fun _=>by
   unfold oO H0;simp only[aK,hlt,bV])
  simp only[bF,fI,qW,aW]
  rw[e0,l1]
  cases(List.range t.hs.length).all (b2 t) <;> rfl
theorem Ps{n:Nat}{P Q:Nat→Bool}:((List.range n).all fun k=>P k&&Q k)=((List.range n).all P&&(List.range n).all Q):=by
 rw[UD]
 simp only[jF,cM]
 exact⟨fun h=>⟨fun x hx=>(h x hx).1,fun x hx=>(h x hx).2⟩,fun h x hx=>⟨h.1 x hx,h.2 x hx⟩⟩
theorem Hp{n:Nat}{P Q:Nat→Bool}(h:∀k,k<n→P k=Q k):(List.range n).all P=(List.range n).all Q:=by
 rw[UD]
 simp only[jF,xB]
 exact⟨fun g x hx=>(h x hx)▸g x hx,fun g x hx=>(h x hx).symm▸g x hx⟩
theorem sY{n:Nat}{P:Nat→Bool}:(List.range n).all P=true↔∀k,k<n→P k=true:=by
 simp only[jF,xB]
def Q0(t:Tp)(k:Nat):Unit×Int×List T×Int×Int×Int×Int×List T×List T×Unit:=((),(t.hs.length:Int),t.hs.map tH,(t.hs.length:Int),(k:Int),t.V,t.F,t.hs.map tH,t.rs.map tR,())
theorem Yl{t:Tp}(hz:Sz t){k:Nat}(hk:k<t.hs.length):iW (Q0 t k)=some (bif b1 t k&&b2 t k then .inl (Q0 t (k+1)) else .inr (.inl (false,()))):=by
 have hn:=hz.n
 have hlt:decide ((k:Int)<(t.hs.length:Int))=true:=aM (by omega)
 cases hb:b1 t k with
 | false=>
  unfold b1 at hb
  unfold iW Q0
  simp only[aK,hlt,bF,dW (l:=t.hs) (i:=(k:Int)) (by omega) (by omega),fI,sX,mZ,mK,jK,jX,bM,bC]
  cases h1:rJ (hG t.hs k).f t.V with
  | false=>rfl
  | true=>cases h2:rJ (hG t.hs k).n t.hs.length with
   | false=>rfl
   | true=>cases h3:rJ (hG t.hs k).p t.hs.length with
    | false=>rfl
    | true=>cases h4:rJ (hG t.hs k).r t.rs.length with
     | false=>rfl
     | true=>rw[h1,h2,h3,h4] at hb;cases hb
 | true=>
  obtain⟨h0,h1,h2,h3⟩:=iJ.1 hb
  have hm:=kS hz.e hk
  unfold iW Q0 b2
  simp only[zS,aK,hlt,dW (l:=t.hs) (i:=(k:Int)) (by omega) (by omega),bR.2 h0,bR.2 h1,bR.2 h2,bR.2 h3,dW (l:=t.hs) h1.1 h1.2,dW (l:=t.hs) h2.1 h2.2,rP (k:=k) (by omega),dW (l:=t.hs) (i:=((mt k:Nat):Int)) (by omega) (by omega),sX,mZ,mK,jK,fO,bM,bC,aO,wk (k:=k) (by omega)]
  cases decide ((hG t.hs (hG t.hs k).n).p=k) <;> cases decide ((hG t.hs (hG t.hs k).p).n=k) <;> cases decide ((hG t.hs (hG t.hs k).n).r=(hG t.hs k).r) <;> cases decide ((hG t.hs (hG t.hs k).n).f=(hG t.hs (mt k:Nat)).f) <;> rfl
theorem Hq{t:Tp}(hz:Sz t):rX (oF t)=some (dx t,()):=by
 have hlt:decide ((t.hs.length:Int)<(t.hs.length:Int))=false:=aQ (by omega)
 have l0:=yQ (F:=iW) t.hs.length (Q0 t) (fun k=>b1 t k&&b2 t k) (.inl (false,())) (.inr (.inl ())) (fun k hk _=>Yl hz hk) (fun _=>by
  unfold iW Q0;simp only[aK,hlt,bV])
 unfold rX oF
 simp only[bL]
 have e0:((),(t.hs.length:Int),t.hs.map tH,(t.hs.length:Int),(0:Int),t.V,t.F,t.hs.map tH,t.rs.map tR,())=Q0 t 0:=rfl
 rw[e0,l0]
 unfold dx
 rw[Ps]
 cases(List.range t.hs.length).all (b1 t)&&(List.range t.hs.length).all (b2 t) <;> rfl
structure Hok (t:Tp):Prop extends Sz t where
 b1:∀k,k<t.hs.length→b1 t k=true
 b2:∀k,k<t.hs.length→b2 t k=true
theorem Bz{t:Tp}(hz:Sz t)(h:dx t=true):Hok t:=by
 unfold dx at h
 rw[cM] at h
 exact { hz with b1:=fun k hk=>sY.1 h.1 k hk,b2:=fun k hk=>sY.1 h.2 k hk }
theorem Hok.dx{t:Tp}(h:Hok t):dx t=true:=by
 unfold Tl.dx;rw[cM];exact⟨sY.2 h.b1,sY.2 h.b2⟩
def nx(t:Tp)(k:Nat):Nat:=(hG t.hs k).n.toNat
def pv(t:Tp)(k:Nat):Nat:=(hG t.hs k).p.toNat
def sg(t:Tp)(k:Nat):Nat:=mt (pv t k)
theorem Hok.bd{t:Tp}(h:Hok t){k:Nat}(hk:k<t.hs.length):(hG t.hs k).n=(nx t k:Int):=by
 obtain⟨_,h1,_,_⟩:=iJ.1 (h.b1 k hk);unfold nx;omega
theorem Hok.bo{t:Tp}(h:Hok t){k:Nat}(hk:k<t.hs.length):(hG t.hs k).p=(pv t k:Int):=by
 obtain⟨_,_,h1,_⟩:=iJ.1 (h.b1 k hk);unfold pv;omega
theorem Hok.bf{t:Tp}(h:Hok t){k:Nat}(hk:k<t.hs.length):nx t k<t.hs.length:=by
 obtain⟨_,h1,_,_⟩:=iJ.1 (h.b1 k hk);unfold nx;omega
theorem Hok.aj{t:Tp}(h:Hok t){k:Nat}(hk:k<t.hs.length):pv t k<t.hs.length:=by
 obtain⟨_,_,h1,_⟩:=iJ.1 (h.b1 k hk);unfold pv;omega
theorem Hok.pn{t:Tp}(h:Hok t){k:Nat}(hk:k<t.hs.length):pv t (nx t k)=k:=by
 have h2:=(L5.1 (h.b2 k hk)).1
 rw[h.bd hk,h.bo (h.bf hk)] at h2;omega
theorem Hok.np{t:Tp}(h:Hok t){k:Nat}(hk:k<t.hs.length):nx t (pv t k)=k:=by
 have h2:=(L5.1 (h.b2 k hk)).2.1
 rw[h.bo hk,h.bd (h.aj hk)] at h2;omega
theorem Hok.rg{t:Tp}(h:Hok t){k:Nat}(hk:k<t.hs.length):(hG t.hs (nx t k:Nat)).r=(hG t.hs k).r:=by
 have h2:=(L5.1 (h.b2 k hk)).2.2.1
 rwa[h.bd hk] at h2
theorem Hok.fr{t:Tp}(h:Hok t){k:Nat}(hk:k<t.hs.length):(hG t.hs (nx t k:Nat)).f=(hG t.hs (mt k:Nat)).f:=by
 have h2:=(L5.1 (h.b2 k hk)).2.2.2
 rwa[h.bd hk] at h2
theorem Hok.iu{t:Tp}(h:Hok t){a b:Nat}(ha:a<t.hs.length)(hb:b<t.hs.length)(e:nx t a=nx t b):a=b:=by rw[←h.pn ha,e,h.pn hb]
theorem Hok.jx{t:Tp}(h:Hok t){k:Nat}(hk:k<t.hs.length):sg t k<t.hs.length:=kS h.e (h.aj hk)
theorem Hok.lp{t:Tp}(h:Hok t){a b:Nat}(ha:a<t.hs.length)(hb:b<t.hs.length)(e:sg t a=sg t b):a=b:=by
 have e2:=VH e;rw[←h.np ha,e2,h.np hb]
theorem Hok.mv{t:Tp}(h:Hok t){k:Nat}(hk:k<t.hs.length):(hG t.hs (sg t k:Nat)).f=(hG t.hs k).f:=by
 have h2:=h.fr (h.aj hk)
 rw[h.np hk] at h2;exact h2.symm
theorem Hok.kr{t:Tp}(h:Hok t){k:Nat}(hk:k<t.hs.length):∃m,bz (nx t) k m∧∀y∈k::m,y<t.hs.length:=
 Lc (fun _ hx=>h.bf hx) (fun _ _ hx hy e=>h.iu hx hy e) hk
theorem Hok.ku{t:Tp}(h:Hok t){k:Nat}(hk:k<t.hs.length):∃m,bz (sg t) k m∧∀y∈k::m,y<t.hs.length:=
 Lc (fun _ hx=>h.jx hx) (fun _ _ hx hy e=>h.lp hx hy e) hk
def eK(t:Tp)(r:Int)(k:Nat):Bool:=decide ((hG t.hs k).r=r)
def M0(t:Tp)(r:Int)(k:Nat):Int×Unit×Int×Int×Int×Int×List T×List T×Unit:=(r,(),(av (eK t r) k:Int),(k:Int),t.V,t.F,t.hs.map tH,t.rs.map tR,())
theorem TC{t:Tp}(hn:t.hs.length≤1000)(r:Int):nY (t.V,t.F,t.hs.map tH,t.rs.map tR,r,())=some ((av (eK t r) t.hs.length:Int),()):=by
 have hl:=bN (F:=nI) t.hs.length (M0 t r) (fun k hk=>by
  have hlt:decide ((k:Int)<(t.hs.length:Int))=true:=aM (by omega)
  have hc:=yZ (eK t r) k
  unfold nI M0
  simp only[zS,aK,bL,hlt,dW (l:=t.hs) (i:=(k:Int)) (by omega) (by omega),jK,av]
  by_cases h:(hG t.hs k).r=r
  ·have hi:eK t r k=true:=aM h
   simp only[aM h,bF,fI,aW,aO,wk (k:=k) (by omega),wk (k:=av (eK t r) k) (by omega),hi,eP]
  ·have hi:eK t r k=false:=aQ h
   simp only[aQ h,bV,fI,aW,aO,wk (k:=k) (by omega),hi,pB,iK,rS])
 have ho:nI (M0 t r t.hs.length)=some (.inr (.inl ((av (eK t r) t.hs.length:Int),()))):=by
  have hlt:decide ((t.hs.length:Int)<(t.hs.length:Int))=false:=aQ (by omega)
  unfold nI M0
  simp only[aK,bL,hlt,bV]
 unfold nY
 have e0:(r,(),(0:Int),(0:Int),t.V,t.F,t.hs.map tH,t.rs.map tR,())=M0 t r 0:=rfl
 simp only[]
 rw[e0,hl,bA ho]
 rfl
def tN(l:List Nat):List T:=l.map fun(k:Nat)=>tI (k:Int)
theorem VI(a b:List Nat):tN (a++b)=tN a++tN b:=by simp[tN]
theorem wE(a:List Nat):(tN a).length=a.length:=by simp[tN]
def Y0(t:Tp)(x:Nat)(m:List Nat)(k:Nat):Int×Unit×List T×T×Int×Int×List T×List T×Unit:=((x:Int),(),tN (x::m.take k),tI (jE x m k:Nat),t.V,t.F,t.hs.map tH,t.rs.map tR,())
theorem YE{x:Nat}{m:List Nat}{k:Nat}(h:k<m.length):x::m.take (k+1)=x::m.take k++[jE x m k]:=by
 rw[Eg h,UE h];rfl
theorem Lg{t:Tp}(hn:t.hs.length≤1000){x:Nat}{m:List Nat}(hc:bz (nx t) x m)(hb:∀y∈x::m,y<t.hs.length)(hi:∀y∈x::m,(hG t.hs y).n=(nx t y:Int)){k:Nat}(hk:k<m.length):
 nD (Y0 t x m k)=some (.inl (Y0 t x m (k+1))):=by
 have hm:=HA (x:=x) hk
 have hne:=hc.eo hk
 have hlt:=hb _ (eQ _ hm)
 have hl:m.length+1≤t.hs.length:=by
  have:=QI hc.2 hb;simpa using this
 have hd:decide (((jE x m k:Nat):Int)=(x:Int))=false:=aQ (by omega)
 have hr:qH (tN (x::m.take k)) [tI ((jE x m k:Nat):Int)] 8=some (tN (x::m.take (k+1))):=by
  rw[rV (by simp only[wE,oB,mU,xC];omega) (by decide),YE hk,VI];rfl
 unfold nD Y0
 simp only[zS,hd,bS,hr,fO,dW (l:=t.hs) (i:=((jE x m k:Nat):Int)) (by omega) (by omega),mZ,hi _ (eQ _ hm),hc.jw hk]
theorem Pt{t:Tp}(hn:t.hs.length≤1000){x:Nat}{m:List Nat}(hc:bz (nx t) x m)(hb:∀y∈x::m,y<t.hs.length)(hi:∀y∈x::m,(hG t.hs y).n=(nx t y:Int)):
 uB (t.V,t.F,t.hs.map tH,t.rs.map tR,(x:Int),())=some (tN (x::m),()):=by
 have hl:=bN (F:=nD) m.length (Y0 t x m) (fun k hk=>Lg hn hc hb hi hk)
 have ho:nD (Y0 t x m m.length)=some (.inr (.inl (tN (x::m),()))):=by
  unfold nD Y0
  simp only[zS,J3,Z9]
 have hx:=hb x (by simp)
 have e0:((x:Int),(),[tI (x:Int)],tI (nx t x:Nat),t.V,t.F,t.hs.map tH,t.rs.map tR,())=Y0 t x m 0:=by
  unfold Y0;rw[hc.jh];rfl
 unfold uB
 simp only[dW (l:=t.hs) (i:=(x:Int)) (by omega) (by omega),fI,mZ,hi x (by simp),bS]
 rw[e0,hl,bA ho]
 rfl
theorem Ca{t:Tp}(hn:t.hs.length≤1000){x:Nat}{m:List Nat}(hc:bz (nx t) x m)(hb:∀y∈x::m,y<t.hs.length)(hi:∀y∈x::m,(hG t.hs y).n=(nx t y:Int)){k:Nat}(hk:k<m.length):
 kI (Y0 t x m k)=some (.inl (Y0 t x m (k+1))):=by
 have hm:=HA (x:=x) hk
 have hne:=hc.eo hk
 have hlt:=hb _ (eQ _ hm)
 have hl:m.length+1≤t.hs.length:=by
  have:=QI hc.2 hb;simpa using this
 have hd:decide (((jE x m k:Nat):Int)=(x:Int))=false:=aQ (by omega)
 have hr:qH (tN (x::m.take k)) [tI ((jE x m k:Nat):Int)] 8=some (tN (x::m.take (k+1))):=by
  rw[rV (by simp only[wE,oB,mU,xC];omega) (by decide),YE hk,VI];rfl
 have hg:(t.hs.map tH)[jE x m k]?=some (tH (hG t.hs (jE x m k:Nat))):=by rw[eW,sL _ _ hlt];rfl
 unfold kI Y0
 simp only[zS,hd,bS,hr,fO,bL,aG (n:=(t.hs.length:Int)) (i:=jE x m k) (by omega),aU,hg,mZ,hi _ (eQ _ hm),hc.jw hk]
theorem Hr{t:Tp}(hn:t.hs.length≤1000){x:Nat}{m:List Nat}(hc:bz (nx t) x m)(hb:∀y∈x::m,y<t.hs.length)(hi:∀y∈x::m,(hG t.hs y).n=(nx t y:Int)):
 qZ (t.V,t.F,t.hs.map tH,t.rs.map tR,(x:Int),())=some (tN (x::m),t.hs.map tH,t.rs.map tR,()):=by
 have hl:=bN (F:=kI) m.length (Y0 t x m) (fun k hk=>Ca hn hc hb hi hk)
 have ho:kI (Y0 t x m m.length)=some (.inr (.inl (tN (x::m),t.V,t.F,t.hs.map tH,t.rs.map tR,()))):=by
  unfold kI Y0
  simp only[zS,J3,Z9]
 have hx:=hb x (by simp)
 have hg:(t.hs.map tH)[x]?=some (tH (hG t.hs (x:Nat))):=by rw[eW,sL _ _ hx];rfl
 have e0:((x:Int),(),[tI (x:Int)],tI (nx t x:Nat),t.V,t.F,t.hs.map tH,t.rs.map tR,())=Y0 t x m 0:=by
  unfold Y0;rw[hc.jh];rfl
 unfold qZ
 simp only[bL,aG (n:=(t.hs.length:Int)) (i:=x) (by omega),aU,hg,fI,mZ,hi x (by simp),bS]
 rw[e0,hl,bA ho]
 rfl
noncomputable def rB(t:Tp)(r:Nat):Bool:=rJ (rG t.rs r).c t.F&&bif decide ((rG t.rs r).h=-1) then rJ (rG t.rs r).v t.V&&!decide ((0:Int)<(av (eK t r) t.hs.length:Int)) else
 rJ (rG t.rs r).h t.hs.length&&(decide ((hG t.hs (rG t.rs r).h).r=r)&&(decide ((rG t.rs r).v=-1)&&decide ((R1 (nx t) (rG t.rs r).h.toNat:Int)=(av (eK t r) t.hs.length:Int))))
def uL(t:Tp):Nat→List Bool
 | 0=>List.replicate t.F.toNat false
 | r+1=>(uL t r).set (rG t.rs r).c.toNat true
theorem VJ(t:Tp)(r:Nat):(uL t r).length=t.F.toNat:=by
 induction r with
 | zero=>simp[uL]
 | succ r ih=>simp[uL,ih]
theorem Lh(t:Tp)(f:Nat)(hf:f<t.F.toNat)(r:Nat):(uL t r)[f]?=some (decide (∃j,j<r∧(rG t.rs j).c.toNat=f)):=by
 induction r with
 | zero=>simp[uL,hf]
 | succ r ih=>
  simp only[uL]
  rw[qU]
  by_cases h:(rG t.rs r).c.toNat=f
  ·rw[aC h,aC (by rw[VJ];omega)]
   exact fL some (aM ⟨r,by omega,h⟩).symm
  ·rw[aA h,ih]
   congr 1
   rw[decide_eq_decide]
   constructor
   ·rintro ⟨j,h1,h2⟩;exact⟨j,by omega,h2⟩
   ·rintro ⟨j,h1,h2⟩
    by_cases e:j=r
    ·subst e;exact absurd h2 h
    ·exact⟨j,by omega,h2⟩
def fB(t:Tp)(f:Nat):Bool:=decide (∃j,j<t.rs.length∧(rG t.rs j).c.toNat=f)
noncomputable def QK(t:Tp):Bool:=(List.range t.rs.length).all (rB t)&&(List.range t.F.toNat).all (fB t)
def U0(t:Tp)(r:Nat):Unit×List T×Int×Int×Int×List T×List T×Unit:=((),(uL t r).map tB,(r:Int),t.V,t.F,t.hs.map tH,t.rs.map tR,())
theorem Li(l:List Bool)(k:Nat)(b:Bool):(l.map tB).set k (tB b)=(l.set k b).map tB:=by simp[OY]
theorem Ym{t:Tp}(ht:Hok t){r:Nat}(hr:r<t.rs.length):pO (U0 t r)=some (bif rB t r then .inl (U0 t (r+1)) else .inr (.inl (false,()))):=by
 have hn:=ht.n
 have hR:=ht.R
 have hlt:decide ((r:Int)<(t.rs.length:Int))=true:=aM (by omega)
 unfold pO U0 rB
 simp only[aK,bC,hlt,bF,hJ (l:=t.rs) (i:=(r:Int)) (by omega) (by omega),fI,y0,FU,fA,jX,fP]
 cases hc:rJ (rG t.rs r).c t.F with
 | false=>rfl
 | true=>
  obtain⟨hc0,hc1⟩:=bR.1 hc
  have hlen:aH ((uL t r).map tB)=((uL t r).length:Int):=by rw[jI,cS]
  have hch:aV ((uL t r).length:Int) (rG t.rs r).c=some (rG t.rs r).c.toNat:=Jz hc0 (by rw[VJ];omega)
  have hg:∃b,((uL t r).map tB)[(rG t.rs r).c.toNat]?=some (tB b):=by
   rw[eW,Lh t _ (by omega)];exact⟨_,rfl⟩
  obtain⟨b,hg⟩:=hg
  simp only[zS,fO,hlen,hch,aU,hg,fM]
  cases hh:decide ((rG t.rs r).h=-1) with
  | true=>
   simp only[bF]
   cases hv:rJ (rG t.rs r).v t.V with
   | false=>rfl
   | true=>
    simp only[BQ,bV,TC (t:=t) (by omega),fI,fM]
    cases decide ((0:Int)<(av (eK t r) t.hs.length:Int)) with
    | true=>rfl
    | false=>simp only[zS,qW,aW,aO,wk (k:=r) (by omega),QJ,Le,Li,uL]
  | false=>
   simp only[bV,bL]
   cases hi:rJ (rG t.rs r).h t.hs.length with
   | false=>rfl
   | true=>
    obtain⟨hi0,hi1⟩:=bR.1 hi
    obtain⟨x,hx⟩:∃x:Nat,(rG t.rs r).h=(x:Int):=⟨(rG t.rs r).h.toNat,by omega⟩
    have hxl:x<t.hs.length:=by omega
    simp only[zS,hx,dW (l:=t.hs) (i:=(x:Int)) (by omega) (by omega),jK,fM,nR]
    cases h1:decide ((hG t.hs (x:Int)).r=(r:Int)) with
    | false=>rfl
    | true=>
     simp only[BQ,bV,fM]
     cases h2:decide ((rG t.rs r).v=-1) with
     | false=>rfl
     | true=>
      obtain⟨m,hm,hb⟩:=ht.kr hxl
      have hl:aH (tN (x::m))=((m.length+1:Nat):Int):=by rw[jI,wE];rfl
      simp only[BQ,bV,fI,Pt (t:=t) (by omega) hm hb (fun y hy=>ht.bd (hb y hy)),TC (t:=t) (by omega),fM,hl,AB hm]
      cases decide (((m.length+1:Nat):Int)=(av (eK t r) t.hs.length:Int)) with
      | false=>rfl
      | true=>simp only[zS,qW,aW,aO,wk (k:=r) (by omega),QJ,Le,Li,uL]
theorem Lj{t:Tp}(ht:Hok t):uC (oF t)=some (QK t,()):=by
 have hF0:=ht.F0
 have hF1:=ht.F1
 have hR:=ht.R
 have hlt:decide ((t.rs.length:Int)<(t.rs.length:Int))=false:=aQ (by omega)
 have l0:=yQ (F:=pO) t.rs.length (U0 t) (rB t) (.inl (false,())) (.inr (.inl ((uL t t.rs.length).map tB,()))) (fun k hk _=>Ym ht hk) (fun _=>by
  unfold pO U0;simp only[aK,bC,hlt,bV])
 unfold uC oF
 simp only[A6 (l:=t.F) (c:=t.F) (b:=1) (by omega) (by omega) (by omega) (by decide),fI,G5,QJ]
 have e0:((),List.replicate t.F.toNat (tB false),(0:Int),t.V,t.F,t.hs.map tH,t.rs.map tR,())=U0 t 0:=by
  unfold U0 uL;rw[List.map_replicate];rfl
 rw[e0,l0]
 unfold QK
 cases h:(List.range t.rs.length).all (rB t) with
 | false=>rfl
 | true=>
  simp only[bF,fI,qW,aW,fM]
  have l2:=yQ (F:=tC) t.F.toNat (fun k=>((uL t t.rs.length).map tB,(k:Int),())) (fB t) (.inl (false,())) (.inr (.inl ())) (fun k hk _=>by
   have hl:aH ((uL t t.rs.length).map tB)=(t.F.toNat:Int):=by rw[jI,cS,VJ]
   have hlt:decide ((k:Int)<(t.F.toNat:Int))=true:=aM (by omega)
   have hg:((uL t t.rs.length).map tB)[k]?=some (tB (fB t k)):=by rw[eW,Lh t k hk];rfl
   unfold tC
   simp only[aK,hl,hlt,bF,aG (n:=(t.F.toNat:Int)) (i:=k) (by omega),fI,aU,hg,Pr,Pq,aO,wk (k:=k) (by omega)]
   cases fB t k <;> rfl) (fun _=>by
   have hl:aH ((uL t t.rs.length).map tB)=(t.F.toNat:Int):=by rw[jI,cS,VJ]
   have hlt:decide ((t.F.toNat:Int)<(t.F.toNat:Int))=false:=aQ (by omega)
   unfold tC
   simp only[aK,hl,hlt,bV])
  have e1:((uL t t.rs.length).map tB,(0:Int),())=((uL t t.rs.length).map tB,((0:Nat):Int),()):=rfl
  rw[e1,l2]
  cases(List.range t.F.toNat).all (fB t) <;> rfl
def zL(t:Tp)(k:Nat):List Nat:=(List.range t.rs.length).map fun(r:Nat)=>av (eK t r) k
theorem L6(t:Tp)(k:Nat):(zL t k).length=t.rs.length:=by simp[zL]
theorem QL(t:Tp)(k:Nat){r:Nat}(h:r<t.rs.length):(zL t k)[r]?=some (av (eK t r) k):=by simp[zL,h]
theorem CF{l:List Nat}{k v:Nat}(h:l[k]?=some v):(tN l)[k]?=some (tI (v:Int)):=by simp[tN,h]
theorem Cb(l:List Nat)(k v:Nat):(tN l).set k (tI (v:Int))=tN (l.set k v):=by simp[tN,OY]
theorem Pu(t:Tp)(k:Nat){r:Nat}(hr:(hG t.hs k).r=(r:Int))(h:r<t.rs.length):(zL t k).set r (av (eK t r) k+1)=zL t (k+1):=by
 apply HR
 intro i
 rw[qU]
 by_cases hi:i<t.rs.length
 ·rw[QL t (k+1) hi,L6]
  by_cases e:r=i
  ·subst e
   have:eK t r k=true:=aM hr
   rw[aC rfl,aC h];simp only[av,this,eP]
  ·have:eK t i k=false:=aQ (by rw[hr];omega)
   rw[aA e,QL t k hi];simp only[av,this,pB,iK,rS]
 ·have h1:(zL t (k+1))[i]?=none:=vK (by rw[L6];omega)
  have h2:(zL t k)[i]?=none:=vK (by rw[L6];omega)
  rw[h1,h2,aA (by omega)]
def Z0(t:Tp)(k:Nat):Unit×List T×List T×Int×Int×Int×Int×List T×List T×Unit:=((),tN (zL t k),t.hs.map tH,(t.hs.length:Int),(k:Int),t.V,t.F,t.hs.map tH,t.rs.map tR,())
theorem Yn{t:Tp}(ht:Hok t){k:Nat}(hk:k<t.hs.length):jT (Z0 t k)=some (.inl (Z0 t (k+1))):=by
 have hn:=ht.n
 have hR:=ht.R
 obtain⟨_,_,_,h3⟩:=iJ.1 (ht.b1 k hk)
 obtain⟨r,hr⟩:∃r:Nat,(hG t.hs k).r=(r:Int):=⟨(hG t.hs k).r.toNat,by omega⟩
 have hrl:r<t.rs.length:=by omega
 have hlt:decide ((k:Int)<(t.hs.length:Int))=true:=aM (by omega)
 have hl:aH (tN (zL t k))=(t.rs.length:Int):=by rw[jI,wE,L6]
 have hc:=yZ (eK t r) k
 unfold jT Z0
 simp only[aK,hlt,bF,dW (l:=t.hs) (i:=(k:Int)) (by omega) (by omega),fI,jK,fO,hr,hl,aG (n:=(t.rs.length:Int)) (i:=r) (by omega),aU,CF (QL t k hrl),oG,jX,bS,DT,aO,wk (k:=av (eK t r) k) (by omega),wk (k:=k) (by omega),Cb,Pu t k hr hrl]
def kL(t:Tp):Nat→List Int
 | 0=>[]
 | r+1=>if (rG t.rs r).c∈kL t r then kL t r else kL t r++[(rG t.rs r).c]
def tK(l:List Int):List T:=l.map fun c=>.agg [tI c,tB true]
theorem Eh(a b:Int):NG (tI a) (tI b)=(a==b):=rfl
theorem Ei{c:Int}:∀{l:List Int},c∈l→∃i,lF (tI c) (tK l)=some i∧(tK l)[i]?=some (.agg [tI c,tB true])
 | a::l,h=>by
  unfold lF tK
  rw[AU,List.findIdx?_cons]
  have e:NG (tI c) (IW (.agg [tI a,tB true]))=(c==a):=Eh c a
  rw[e]
  by_cases hc:c=a
  ·subst hc;exact⟨0,by simp,rfl⟩
  ·have h2:c∈l:=by
    rcases cN.1 h with h | h
    ·exact absurd h hc
    ·exact h
   obtain⟨i,h3,h4⟩:=Ei h2
   unfold lF tK at h3
   have hb:(c==a)=false:=by simpa using hc
   refine⟨i+1,?_,h4⟩
   rw[hb,h3];rfl
theorem Hs{c:Int}:∀{l:List Int},c∉l→lF (tI c) (tK l)=none:=by
 intro l h
 unfold lF
 rw[List.findIdx?_eq_none_iff]
 intro x hx
 obtain⟨a,ha,rfl⟩:=lE.1 hx
 have e:NG (tI c) (IW (.agg [tI a,tB true]))=(c==a):=Eh c a
 rw[e]
 have:c≠a:=fun e=>h (e▸ha)
 simpa using this
theorem kQ{α:Type}:∀{l:List α} {i:Nat} {x:α},l[i]?=some x→l.set i x=l
 | [],_,_,h=>by cases h
 | a::l,0,x,h=>by simp at h;rw[h];rfl
 | a::l,i+1,x,h=>by rw[List.set_cons_succ,kQ (by simpa using h)]
theorem Th(c:Int)(l:List Int):yW (tI c) (tB true) (tK l)=tK (if c∈l then l else l++[c]):=by
 unfold yW
 by_cases h:c∈l
 ·obtain⟨i,h1,h2⟩:=Ei h
  rw[h1,aC h]
  exact kQ h2
 ·rw[Hs h,aA h]
  simp[tK]
theorem Cc(t:Tp)(c:Int)(r:Nat):c∈kL t r↔∃j,j<r∧(rG t.rs j).c=c:=by
 induction r with
 | zero=>simp[kL]
 | succ r ih=>
  simp only[kL]
  constructor
  ·intro h
   split at h
   ·obtain⟨j,h1,h2⟩:=ih.1 h;exact⟨j,by omega,h2⟩
   ·rcases fK.1 h with h | h
    ·obtain⟨j,h1,h2⟩:=ih.1 h;exact⟨j,by omega,h2⟩
    ·exact⟨r,by omega,by simpa using(OU.1 h).symm⟩
  ·rintro ⟨j,h1,h2⟩
   by_cases e:j=r
   ·subst e
    split
    ·rename_i h;rw[←h2];exact h
    ·rw[←h2];simp
   ·have:=ih.2 ⟨j,by omega,h2⟩
    split
    ·exact this
    ·exact EL _ this
theorem Vl(t:Tp)(r:Nat):(kL t r).Nodup:=by
 induction r with
 | zero=>simp[kL]
 | succ r ih=>
  simp only[kL]
  split
  ·exact ih
  ·rename_i h
   refine rT.2 ⟨ih,by simp,fun a ha b hb e=>?_⟩
   have:b=(rG t.rs r).c:=by simpa using hb
   subst this;subst e;exact h ha
theorem Ti{t:Tp}(h0:0≤t.F)(hc:∀r,r<t.rs.length→0≤(rG t.rs r).c∧(rG t.rs r).c<t.F):decide (((kL t t.rs.length).length:Int)=t.F)=(List.range t.F.toNat).all (fB t):=by
 have hr:∀c∈kL t t.rs.length,0≤c∧c<t.F:=fun c h=>by
  obtain⟨j,h1,h2⟩:=(Cc t c _).1 h;rw[←h2];exact hc j h1
 have hnd:((kL t t.rs.length).map Int.toNat).Nodup:=by
  have:(kL t t.rs.length).Pairwise fun a b=>a.toNat≠b.toNat:=by
   refine List.Pairwise.imp_of_mem ?_ (Vl t t.rs.length)
   intro a b ha hb hne e
   have:=(hr a ha).1;have:=(hr b hb).1;omega
  exact List.pairwise_map.2 this
 have hlt:∀x∈(kL t t.rs.length).map Int.toNat,x∈List.range t.F.toNat:=fun x hx=>by
  obtain⟨c,h1,rfl⟩:=lE.1 hx
  have:=hr c h1;exact xB.2 (by omega)
 have hle:=QH hnd hlt
 rw[cS,OZ] at hle
 rw[UD,cK,sY]
 constructor
 ·intro h f hf
  have h2:=Rm hnd hlt (by rw[cS,OZ];omega) f (xB.2 hf)
  obtain⟨c,h3,h4⟩:=lE.1 h2
  obtain⟨j,h5,h6⟩:=(Cc t c _).1 h3
  exact aM ⟨j,h5,by rw[h6,h4]⟩
 ·intro h
  have h2:∀x∈List.range t.F.toNat,x∈(kL t t.rs.length).map Int.toNat:=fun x hx=>by
   obtain⟨j,h3,h4⟩:=cH (h x (xB.1 hx))
   exact lE.2 ⟨_,(Cc t _ _).2 ⟨j,h3,rfl⟩,h4⟩
  have h3:=QH List.nodup_range h2
  rw[cS,OZ] at h3;omega
abbrev zT(t:Tp):List T:=tN (zL t t.hs.length)
def W2(t:Tp)(r:Nat)(ks:List Int)(x:Nat)(m:List Nat)(k:Nat):Unit×List T×List T×Int×Unit×Int×T×List T×Int×Int×Int×Int×List T×List T×T×T×T×Unit:=
 ((),zT t,tK ks,(r:Int),(),((k+1:Nat):Int),tI (jE x m k:Nat),t.rs.map tR,(t.rs.length:Int),(r:Int),t.V,t.F,t.hs.map tH,t.rs.map tR,tI (x:Int),tI (rG t.rs r).v,tI (rG t.rs r).c,())
theorem Xm{t:Tp}(hn:t.hs.length≤1000){r:Nat}{ks:List Int}{x:Nat}{m:List Nat}(hc:bz (nx t) x m)(hb:∀y∈x::m,y<t.hs.length)(hi:∀y∈x::m,(hG t.hs y).n=(nx t y:Int)):
 bH mE (W2 t r ks x m 0)=some (.inl ((),zT t,tK ks,(r:Int),((m.length+1:Nat):Int),t.rs.map tR,(t.rs.length:Int),(r:Int),t.V,t.F,t.hs.map tH,t.rs.map tR,())):=by
 have hl:m.length+1≤t.hs.length:=by
  have:=QI hc.2 hb;simpa using this
 have h1:=bN (F:=mE) m.length (W2 t r ks x m) (fun k hk=>by
  have hm:=HA (x:=x) hk
  have hne:=hc.eo hk
  have hlt:=hb _ (eQ _ hm)
  have hd:decide (((jE x m k:Nat):Int)=(x:Int))=false:=aQ (by omega)
  unfold mE W2
  simp only[zS,hd,fO,dW (l:=t.hs) (i:=((jE x m k:Nat):Int)) (by omega) (by omega),mZ,hi _ (eQ _ hm),hc.jw hk,aO,wk (k:=k+1) (by omega)])
 rw[h1]
 refine bA ?_
 unfold mE W2
 simp only[zS,J3]
def W1(t:Tp)(r:Nat):Unit×List T×List T×List T×Int×Int×Int×Int×List T×List T×Unit:=((),zT t,tK (kL t r),t.rs.map tR,(t.rs.length:Int),(r:Int),t.V,t.F,t.hs.map tH,t.rs.map tR,())
theorem Xn{t:Tp}(ht:Hok t){r:Nat}(hr:r<t.rs.length):mF (W1 t r)=some (bif rB t r then .inl (W1 t (r+1)) else .inr (.inl (false,()))):=by
 have hn:=ht.n
 have hR:=ht.R
 have hlt:decide ((r:Int)<(t.rs.length:Int))=true:=aM (by omega)
 have hl:aH (zT t)=(t.rs.length:Int):=by rw[jI,wE,L6]
 have hzg:=CF (QL t t.hs.length hr)
 have hk:yW (tI (rG t.rs r).c) (tB true) (tK (kL t r))=tK (kL t (r+1)):=Th _ _
 unfold mF W1 rB
 simp only[aK,hlt,bF,hJ (l:=t.rs) (i:=(r:Int)) (by omega) (by omega),fI,y0,FU,fA,jX,bM,hl,bL]
 cases hc:rJ (rG t.rs r).c t.F with
 | false=>rfl
 | true=>
  simp only[BQ,bV,uR,fM]
  cases hh:decide ((rG t.rs r).h=-1) with
  | true=>
   simp only[bF]
   cases hv:rJ (rG t.rs r).v t.V with
   | false=>rfl
   | true=>
    simp only[zS,aG (n:=(t.rs.length:Int)) (i:=r) (by omega),aU,hzg,oG,fM]
    cases decide ((0:Int)<(av (eK t r) t.hs.length:Int)) with
    | true=>rfl
    | false=>simp only[zS,qW,aW,aO,wk (k:=r) (by omega),bS,QJ,hk]
  | false=>
   simp only[bV]
   cases hi:rJ (rG t.rs r).h t.hs.length with
   | false=>rfl
   | true=>
    obtain⟨hi0,hi1⟩:=bR.1 hi
    obtain⟨x,hx⟩:∃x:Nat,(rG t.rs r).h=(x:Int):=⟨(rG t.rs r).h.toNat,by omega⟩
    have hxl:x<t.hs.length:=by omega
    simp only[zS,hx,fO,dW (l:=t.hs) (i:=(x:Int)) (by omega) (by omega),jK,fM,nR]
    cases h2:decide ((rG t.rs r).v=-1) with
    | false=>simp only[zS,aW,MR,OX]
    | true=>
     cases h1:decide ((hG t.hs (x:Int)).r=(r:Int)) with
     | false=>rfl
     | true=>
      obtain⟨m,hm,hb⟩:=ht.kr hxl
      have hlp:=Xm (t:=t) (by omega) (r:=r) (ks:=kL t (r+1)) hm hb (fun y hy=>ht.bd (hb y hy))
      have e0:((),zT t,tK (kL t (r+1)),(r:Int),(),(1:Int),tI (nx t x:Nat),t.rs.map tR,(t.rs.length:Int),(r:Int),t.V,t.F,t.hs.map tH,t.rs.map tR,tI (x:Int),tI (rG t.rs r).v,tI (rG t.rs r).c,())=W2 t r (kL t (r+1)) x m 0:=by
       unfold W2;rw[hm.jh];rfl
      simp only[BQ,bV,mZ,ht.bd hxl,bS,QJ,hk]
      rw[e0,hlp]
      simp only[fI,aW,hl,aG (n:=(t.rs.length:Int)) (i:=r) (by omega),aU,hzg,oG,jX,fM,AB hm]
      cases decide (((m.length+1:Nat):Int)=(av (eK t r) t.hs.length:Int)) with
      | false=>rfl
      | true=>simp only[zS,qW,aW,aO,wk (k:=r) (by omega)]
theorem Lk{t:Tp}(ht:Hok t):tJ (oF t)=some (QK t,()):=by
 have hF0:=ht.F0
 have hn:=ht.n
 have hR:=ht.R
 have h0:=bN (F:=jT) t.hs.length (Z0 t) (fun k hk=>Yn ht hk)
 have o0:jT (Z0 t t.hs.length)=some (.inr (.inl ((),zT t,t.V,t.F,t.hs.map tH,t.rs.map tR,()))):=by
  have hlt:decide ((t.hs.length:Int)<(t.hs.length:Int))=false:=aQ (by omega)
  unfold jT Z0;simp only[aK,hlt,bV]
 have l1:=yQ (F:=mF) t.rs.length (W1 t) (rB t) (.inl (false,())) (.inr (.inl ((),tK (kL t t.rs.length),t.V,t.F,t.hs.map tH,t.rs.map tR,()))) (fun k hk _=>Xn ht hk) (fun _=>by
  have hlt:decide ((t.rs.length:Int)<(t.rs.length:Int))=false:=aQ (by omega)
  unfold mF W1;simp only[aK,hlt,bV])
 unfold tJ oF
 simp only[bC,bL,A6 (l:=(t.rs.length:Int)) (c:=(t.rs.length:Int)) (b:=8) (by omega) (by omega) (by omega) (by decide),fI,G5,bS,nR]
 have e0:((),List.replicate t.rs.length (tI 0),t.hs.map tH,(t.hs.length:Int),(0:Int),t.V,t.F,t.hs.map tH,t.rs.map tR,())=Z0 t 0:=by
  unfold Z0
  have:tN (zL t 0)=List.replicate t.rs.length (tI 0):=by
   have hz:zL t 0=List.replicate t.rs.length 0:=by
    apply HR
    intro i
    by_cases hi:i<t.rs.length
    ·rw[QL t 0 hi];simp[av,hi]
    ·rw[vK (by rw[L6];omega),vK (by simp;omega)]
   rw[hz];simp[tN]
  rw[this];rfl
 rw[e0,h0,bA o0]
 simp only[fI,aW,bC]
 have e1:((),zT t,[],t.rs.map tR,(t.rs.length:Int),(0:Int),t.V,t.F,t.hs.map tH,t.rs.map tR,())=W1 t 0:=rfl
 rw[e1,l1]
 unfold QK
 cases h:(List.range t.rs.length).all (rB t) with
 | false=>rfl
 | true=>
  have hc:∀r,r<t.rs.length→0≤(rG t.rs r).c∧(rG t.rs r).c<t.F:=fun r hr=>by
   have:=sY.1 h r hr
   unfold rB at this
   exact bR.1 (iC.1 this).1
  have hlk:aH (tK (kL t t.rs.length))=((kL t t.rs.length).length:Int):=by rw[jI];simp[tK]
  simp only[bF,fI,qW,aW,fM,hlk,uR,Ti (by omega:0≤t.F) hc]
def fi(P:Nat→Bool):Nat→Int
 | 0=>-1
 | k+1=>bif P k then (bif decide (fi P k<0) then (k:Int) else fi P k) else fi P k
def la(P:Nat→Bool):Nat→Nat
 | 0=>0
 | k+1=>bif P k then k else la P k
theorem DU{P:Nat→Bool}{n:Nat}(h:0<av P n):∃k:Nat,k<n∧fi P n=(k:Int)∧P k=true:=by
 induction n with
 | zero=>exact absurd h (by simp[av])
 | succ n ih=>
  simp only[fi]
  cases hp:P n with
  | true=>
   cases hd:decide (fi P n<0) with
   | true=>exact⟨n,by omega,rfl,hp⟩
   | false=>
    have h2:=tM hd
    have h3:0<av P n:=by
     by_cases h4:0<av P n
     ·exact h4
     ·exfalso
      have h5:∀k,k<n→P k=false:=fun k hk=>by
       cases hk2:P k with
       | false=>rfl
       | true=>exact absurd (pF.2 ⟨k,hk,hk2⟩) h4
      have h6:∀m,m≤n→fi P m=-1:=by
       intro m
       induction m with
       | zero=>intro _;rfl
       | succ m ih=>intro hm;simp only[fi,h5 m (by omega),bV];exact ih (by omega)
      have:=h6 n (gU _);omega
    obtain⟨k,h4,h5,h6⟩:=ih h3
    exact⟨k,by omega,h5,h6⟩
  | false=>
   simp only[av,hp,pB,iK,rS] at h
   obtain⟨k,h4,h5,h6⟩:=ih h
   exact⟨k,by omega,h5,h6⟩
theorem VM{P:Nat→Bool}{n:Nat}(h:0<av P n):la P n<n∧P (la P n)=true:=by
 induction n with
 | zero=>exact absurd h (by simp[av])
 | succ n ih=>
  simp only[la]
  cases hp:P n with
  | true=>exact⟨by simp only[bF];omega,hp⟩
  | false=>
   simp only[av,hp,pB,iK,rS] at h
   have:=ih h
   exact⟨by simp only[bV];omega,this.2⟩
def nP(t:Tp)(v:Int)(k:Nat):Bool:=decide ((hG t.hs k).f=v)
def CM(t:Tp)(v:Int)(r:Nat):Bool:=decide ((rG t.rs r).h=-1)&&decide ((rG t.rs r).v=v)
abbrev vc(t:Tp)(v:Int):Nat:=av (nP t v) t.hs.length
abbrev sc(t:Tp)(v:Int):Nat:=av (CM t v) t.rs.length
noncomputable def vB(t:Tp)(v:Nat):Bool:=bif decide ((1:Int)<(sc t v:Int)) then false else bif decide ((sc t v:Int)=1)&&decide ((0:Int)<(vc t v:Int)) then false else bif decide ((sc t v:Int)+(vc t v:Int)=0) then false else
 bif decide ((vc t v:Int)=0) then true else decide ((R1 (sg t) (fi (nP t v) t.hs.length).toNat:Int)=(vc t v:Int))
noncomputable def Ch(t:Tp):Bool:=(List.range t.V.toNat).all (vB t)
def V1(t:Tp)(v:Nat)(r:Nat):Unit×Int×Int×Int×Int×Int×Int×Int×List T×List T×Unit:=((),(v:Int),(av (CM t v) r:Int),-1,0,(r:Int),t.V,t.F,t.hs.map tH,t.rs.map tR,())
theorem Tq{t:Tp}(hR:t.rs.length≤1000)(v:Nat):bH lW (V1 t v 0)=some (.inl ((),(v:Int),(sc t v:Int),-1,0,t.V,t.F,t.hs.map tH,t.rs.map tR,())):=by
 have h1:=bN (F:=lW) t.rs.length (V1 t v) (fun r hr=>by
  have hlt:decide ((r:Int)<(t.rs.length:Int))=true:=aM (by omega)
  have hc:=yZ (CM t v) r
  unfold lW V1
  simp only[zS,aK,bC,hlt,hJ (l:=t.rs) (i:=(r:Int)) (by omega) (by omega),y0,FU,av]
  cases h1:decide ((rG t.rs r).h=-1) with
  | false=>
   have ha:CM t v r=false:=by unfold CM;rw[h1];rfl
   simp only[bV,fI,aW,aO,wk (k:=r) (by omega),ha,pB,iK,rS]
  | true=>
   simp only[bF]
   cases h2:decide ((rG t.rs r).v=(v:Int)) with
   | false=>
    have ha:CM t v r=false:=by unfold CM;rw[h1,h2];rfl
    simp only[bV,fI,aW,aO,wk (k:=r) (by omega),ha,pB,iK,rS]
   | true=>
    have ha:CM t v r=true:=by unfold CM;rw[h1,h2];rfl
    simp only[bF,fI,aW,aO,wk (k:=r) (by omega),wk (k:=av (CM t v) r) (by omega),ha,eP])
 rw[h1]
 refine bA ?_
 have hlt:decide ((t.rs.length:Int)<(t.rs.length:Int))=false:=aQ (by omega)
 unfold lW V1
 simp only[aK,bC,hlt,bV]
def V3(t:Tp)(v:Nat)(s:Int)(k:Nat):Unit×Int×Int×Int×Int×Int×Int×Int×List T×List T×Unit:=((),(v:Int),s,fi (nP t v) k,(av (nP t v) k:Int),(k:Int),t.V,t.F,t.hs.map tH,t.rs.map tR,())
theorem Yo{t:Tp}(hn:t.hs.length≤1000)(v:Nat)(s:Int):bH lY (V3 t v s 0)=some (.inl ((),(v:Int),s,fi (nP t v) t.hs.length,(vc t v:Int),t.V,t.F,t.hs.map tH,t.rs.map tR,())):=by
 have h1:=bN (F:=lY) t.hs.length (V3 t v s) (fun k hk=>by
  have hlt:decide ((k:Int)<(t.hs.length:Int))=true:=aM (by omega)
  have hc:=yZ (nP t v) k
  unfold lY V3
  simp only[zS,aK,bL,hlt,dW (l:=t.hs) (i:=(k:Int)) (by omega) (by omega),sX,av,fi]
  cases h2:decide ((hG t.hs k).f=(v:Int)) with
  | false=>
   have ha:nP t v k=false:=h2
   simp only[bV,fI,aW,aO,wk (k:=k) (by omega),ha,pB,iK,rS]
  | true=>
   have ha:nP t v k=true:=h2
   simp only[bF,ha]
   cases decide (fi (nP t v) k<0) <;> simp only[bF,bV,fI,aW,aO,wk (k:=k) (by omega),wk (k:=av (nP t v) k) (by omega),eP])
 rw[h1]
 refine bA ?_
 have hlt:decide ((t.hs.length:Int)<(t.hs.length:Int))=false:=aQ (by omega)
 unfold lY V3
 simp only[aK,bL,hlt,bV]
def V5(t:Tp)(v c:Int)(x:Nat)(m:List Nat)(k:Nat):Unit×Int×Int×Int×Int×Int×Int×Int×List T×List T×Unit:=((),v,(x:Int),c,((k+1:Nat):Int),((jE x m k:Nat):Int),t.V,t.F,t.hs.map tH,t.rs.map tR,())
theorem Yp{t:Tp}(ht:Hok t)(v c:Int){x:Nat}{m:List Nat}(hc:bz (sg t) x m)(hb:∀y∈x::m,y<t.hs.length):
 bH jS (V5 t v c x m 0)=some (.inl ((),v,c,((m.length+1:Nat):Int),t.V,t.F,t.hs.map tH,t.rs.map tR,())):=by
 have hn:=ht.n
 have hl:m.length+1≤t.hs.length:=by
  have:=QI hc.2 hb;simpa using this
 have h1:=bN (F:=jS) m.length (V5 t v c x m) (fun k hk=>by
  have hm:=HA (x:=x) hk
  have hne:=hc.eo hk
  have hlt:=hb _ (eQ _ hm)
  have hd:decide (((jE x m k:Nat):Int)=(x:Int))=false:=aQ (by omega)
  have hp:=ht.aj hlt
  have hs:mt (pv t (jE x m k))=jE x m (k+1):=hc.jw hk
  unfold jS V5
  simp only[zS,hd,dW (l:=t.hs) (i:=((jE x m k:Nat):Int)) (by omega) (by omega),mK,ht.bo hlt,qN (k:=pv t (jE x m k)) (by omega),hs,aO,wk (k:=k+1) (by omega)])
 rw[h1]
 refine bA ?_
 unfold jS V5
 simp only[J3,uR,OW,BQ,bV]
def V0(t:Tp)(v:Nat):Unit×Int×Int×Int×List T×List T×Unit:=((),(v:Int),t.V,t.F,t.hs.map tH,t.rs.map tR,())
theorem Yq{t:Tp}(ht:Hok t){v:Nat}(hv:v<t.V.toNat):lZ (V0 t v)=some (bif vB t v then .inl (V0 t (v+1)) else .inr (.inl (false,()))):=by
 have hn:=ht.n
 have hR:=ht.R
 have hV:=ht.V1
 have hlt:decide ((v:Int)<t.V)=true:=aM (by omega)
 have h1:=Tq (t:=t) (by omega) v
 have h3:=Yo (t:=t) (by omega) v (sc t v)
 have e1:((),(v:Int),(0:Int),(-1:Int),(0:Int),(0:Int),t.V,t.F,t.hs.map tH,t.rs.map tR,())=V1 t v 0:=rfl
 have e3:((),(v:Int),(sc t v:Int),(-1:Int),(0:Int),(0:Int),t.V,t.F,t.hs.map tH,t.rs.map tR,())=V3 t v (sc t v) 0:=rfl
 have hsl:sc t v≤t.rs.length:=yZ (CM t v) t.rs.length
 have hcl:vc t v≤t.hs.length:=yZ (nP t v) t.hs.length
 have hw:wr .i64 ((sc t v:Int)+(vc t v:Int))=(sc t v:Int)+(vc t v:Int):=gN (by omega) (by omega)
 have fan:0<vc t v→∃m,(fi (nP t v) t.hs.length)=(((fi (nP t v) t.hs.length).toNat:Nat):Int)∧(fi (nP t v) t.hs.length).toNat<t.hs.length∧bz (sg t) (fi (nP t v) t.hs.length).toNat m∧(∀y∈(fi (nP t v) t.hs.length).toNat::m,y<t.hs.length):=fun h=>by
  obtain⟨k,hk,he,_⟩:=DU h
  obtain⟨m,hm,hb⟩:=ht.ku hk
  rw[he,nR]
  exact⟨m,rfl,hk,hm,hb⟩
 unfold lZ V0 vB
 simp only[aK,hlt,bF]
 rw[e1,h1]
 simp only[fI,aW]
 rw[e3,h3]
 simp only[fI,aW,uR,aO,hw]
 cases hA:decide ((1:Int)<(sc t v:Int)) with
 | true=>rfl
 | false=>
  simp only[bV]
  have hA':=tM hA
  have walk:∀(hz:decide ((vc t v:Int)=0)=false),∃m,bz (sg t) (fi (nP t v) t.hs.length).toNat m∧(ob (cL (t.hs.map tH) (fi (nP t v) t.hs.length)) fun x=>ob (T.int? .i64 (T.cell x 2)) fun y=>iE (y,()))=some (((jE (fi (nP t v) t.hs.length).toNat m 0:Nat):Int),())∧(∀y∈(fi (nP t v) t.hs.length).toNat::m,y<t.hs.length)∧fi (nP t v) t.hs.length=(((fi (nP t v) t.hs.length).toNat:Nat):Int):=fun hz=>by
   have hz':=tM hz
   obtain⟨m,he,hk,hm,hb⟩:=fan (by omega)
   refine⟨m,hm,?_,hb,he⟩
   have hp:=ht.aj hk
   have hs:mt (pv t (fi (nP t v) t.hs.length).toNat)=jE (fi (nP t v) t.hs.length).toNat m 0:=hm.jh
   rw[he]
   simp only[nR]
   rw[dW (l:=t.hs) (by omega) (by omega)]
   simp only[fI,mK,jX,ht.bo hk,qN (k:=pv t (fi (nP t v) t.hs.length).toNat) (by omega),hs]
  cases hB:decide ((sc t v:Int)=1) with
  | true=>
   simp only[bF,fM]
   cases hC:decide ((0:Int)<(vc t v:Int)) with
   | true=>rfl
   | false=>
    have hC':=tM hC
    have hB':=cH hB
    have hD:decide ((sc t v:Int)+(vc t v:Int)=0)=false:=aQ (by omega)
    have hE:decide ((vc t v:Int)=0)=true:=aM (by omega)
    simp only[hD,hE,bF,bV,fI,qW,aW,wk (k:=v) (by omega)]
  | false=>
   simp only[bV,MR]
   cases hD:decide ((sc t v:Int)+(vc t v:Int)=0) with
   | true=>rfl
   | false=>
    simp only[bV]
    cases hE:decide ((vc t v:Int)=0) with
    | true=>simp only[bF,fI,qW,aW,wk (k:=v) (by omega)]
    | false=>
     obtain⟨m,hm,hw2,hb,he⟩:=walk hE
     have h5:=Yp ht v (vc t v) hm hb
     have hk:(fi (nP t v) t.hs.length).toNat<t.hs.length:=hb _ (by simp)
     have hp:=ht.aj hk
     have hs:mt (pv t (fi (nP t v) t.hs.length).toNat)=jE (fi (nP t v) t.hs.length).toNat m 0:=hm.jh
     generalize hg:(fi (nP t v) t.hs.length).toNat=x at *
     have e5:((),(v:Int),(x:Int),(vc t v:Int),(1:Int),(((jE x m 0:Nat):Int)),t.V,t.F,t.hs.map tH,t.rs.map tR,())=V5 t v (vc t v) x m 0:=rfl
     simp only[bV,he,dW (l:=t.hs) (i:=(x:Int)) (by omega) (by omega),fI,mK,jX,ht.bo hk,qN (k:=pv t x) (by omega),hs]
     rw[e5,h5]
     simp only[fI,aW,AB hm]
     cases decide (((m.length+1:Nat):Int)=(vc t v:Int)) with
     | false=>rfl
     | true=>simp only[zS,qW,aW,wk (k:=v) (by omega)]
theorem YJ{t:Tp}(ht:Hok t):tD (oF t)=some (Ch t,()):=by
 have hV0:=ht.V0
 have l0:=yQ (F:=lZ) t.V.toNat (V0 t) (vB t) (.inl (false,())) (.inr (.inl ())) (fun k hk _=>Yq ht hk) (fun _=>by
  have hlt:decide ((t.V.toNat:Int)<t.V)=false:=aQ (by omega)
  unfold lZ V0;simp only[aK,hlt,bV])
 unfold tD oF
 have e0:((),(0:Int),t.V,t.F,t.hs.map tH,t.rs.map tR,())=V0 t 0:=rfl
 simp only[]
 rw[e0,l0]
 unfold Ch
 cases(List.range t.V.toNat).all (vB t) <;> rfl
def vF(t:Tp)(g:Int→Nat):List Nat:=(List.range t.V.toNat).map fun(v:Nat)=>g (v:Int)
theorem FV(t:Tp)(g:Int→Nat):(vF t g).length=t.V.toNat:=by simp[vF]
theorem uA{t:Tp}{g:Int→Nat}{v:Nat}(h:v<t.V.toNat):(vF t g)[v]?=some (g (v:Int)):=by simp[vF,h]
theorem QM{t:Tp}{g g':Int→Nat}{v x:Nat}(h:v<t.V.toNat)(hx:g' (v:Int)=x)(ho:∀w:Int,w≠(v:Int)→g' w=g w):(vF t g).set v x=vF t g':=by
 apply HR
 intro i
 rw[qU]
 by_cases hi:i<t.V.toNat
 ·rw[uA (g:=g') hi,FV]
  by_cases e:v=i
  ·subst e;rw[aC rfl,aC h,hx]
  ·rw[aA e,uA (g:=g) hi,ho _ (by omega)]
 ·have h1:(vF t g')[i]?=none:=vK (by rw[FV];omega)
  have h2:(vF t g)[i]?=none:=vK (by rw[FV];omega)
  rw[h1,h2,aA (by omega)]
theorem Hx{t:Tp}:tN (vF t fun _=>0)=List.replicate t.V.toNat (tI 0):=by
 have:vF t (fun _=>0)=List.replicate t.V.toNat 0:=by
  apply HR
  intro i
  by_cases hi:i<t.V.toNat
  ·rw[uA hi];simp[hi]
  ·rw[vK (by rw[FV];omega),vK (by simp;omega)]
 rw[this];simp[tN]
theorem AP(t:Tp)(h:0≤t.V)(g:Int→Nat):aH (tN (vF t g))=t.V:=by rw[jI,wE,FV];omega
def K0(t:Tp)(r:Nat):Unit×List T×List T×List T×List T×Int×Int×Int×Int×List T×List T×Unit:=((),tN (vF t fun v=>av (CM t v) r),tN (vF t fun _=>0),tN (vF t fun _=>0),t.rs.map tR,(t.rs.length:Int),(r:Int),t.V,t.F,t.hs.map tH,t.rs.map tR,())
theorem Ys{t:Tp}(ht:Hok t)(hr:∀r,r<t.rs.length→rB t r=true){r:Nat}(hk:r<t.rs.length):iF (K0 t r)=some (.inl (K0 t (r+1))):=by
 have hR:=ht.R
 have hV:=ht.V0
 have hV1:=ht.V1
 have hlt:decide ((r:Int)<(t.rs.length:Int))=true:=aM (by omega)
 have hrb:=hr r hk
 unfold rB at hrb
 have hrb2:=(iC.1 hrb).2
 unfold iF K0
 simp only[zS,aK,hlt,hJ (l:=t.rs) (i:=(r:Int)) (by omega) (by omega),y0,FU]
 cases h1:decide ((rG t.rs r).h=-1) with
 | false=>
  have ha:∀v,CM t v r=false:=fun v=>by unfold CM;rw[h1];rfl
  simp only[bV,fI,aW,aO,wk (k:=r) (by omega),av,ha,pB,iK,rS]
 | true=>
  rw[h1,bF] at hrb2
  obtain⟨h2,h3⟩:=bR.1 (iC.1 hrb2).1
  obtain⟨v,hv⟩:∃v:Nat,(rG t.rs r).v=(v:Int):=⟨(rG t.rs r).v.toNat,by omega⟩
  have hvl:v<t.V.toNat:=by omega
  have hc:=yZ (CM t v) r
  have hs:(vF t fun v=>av (CM t v) r).set v (av (CM t v) r+1)=vF t fun v=>av (CM t v) (r+1):=by
   refine QM hvl ?_ ?_
   ·have:CM t v r=true:=by unfold CM;rw[h1,hv];simp
    simp only[av,this,eP]
   ·intro w hw
    have:CM t w r=false:=by unfold CM;rw[h1,hv];simpa using fun e=>hw e.symm
    simp only[av,this,pB,iK,rS]
  simp only[bF,hv,fO,fI,AP t (by omega),aG (n:=t.V) (i:=v) (by omega),aU,CF (uA (t:=t) (g:=fun v=>av (CM t v) r) hvl),oG,jX,bS,DT,aO,wk (k:=av (CM t v) r) (by omega),wk (k:=r) (by omega),Cb,hs,aW]
def K2(t:Tp)(k:Nat):Unit×List T×List T×List T×List T×Int×Int×Int×Int×List T×List T×Unit:=((),tN (vF t fun v=>sc t v),tN (vF t fun v=>av (nP t v) k),tN (vF t fun v=>la (nP t v) k),t.hs.map tH,(t.hs.length:Int),(k:Int),t.V,t.F,t.hs.map tH,t.rs.map tR,())
theorem Yt{t:Tp}(ht:Hok t){k:Nat}(hk:k<t.hs.length):iG (K2 t k)=some (.inl (K2 t (k+1))):=by
 have hn:=ht.n
 have hV:=ht.V0
 have hV1:=ht.V1
 have hlt:decide ((k:Int)<(t.hs.length:Int))=true:=aM (by omega)
 obtain⟨⟨h2,h3⟩,_⟩:=iJ.1 (ht.b1 k hk)
 obtain⟨v,hv⟩:∃v:Nat,(hG t.hs k).f=(v:Int):=⟨(hG t.hs k).f.toNat,by omega⟩
 have hvl:v<t.V.toNat:=by omega
 have hc:=yZ (nP t v) k
 have hs:(vF t fun v=>av (nP t v) k).set v (av (nP t v) k+1)=vF t fun v=>av (nP t v) (k+1):=by
  refine QM hvl ?_ ?_
  ·have:nP t v k=true:=by unfold nP;rw[hv];simp
   simp only[av,this,eP]
  ·intro w hw
   have:nP t w k=false:=by unfold nP;rw[hv];simpa using fun e=>hw e.symm
   simp only[av,this,pB,iK,rS]
 have hs2:(vF t fun v=>la (nP t v) k).set v k=vF t fun v=>la (nP t v) (k+1):=by
  refine QM hvl ?_ ?_
  ·have:nP t v k=true:=by unfold nP;rw[hv];simp
   simp only[la,this,bF]
  ·intro w hw
   have:nP t w k=false:=by unfold nP;rw[hv];simpa using fun e=>hw e.symm
   simp only[la,this,bV]
 unfold iG K2
 simp only[aK,hlt,bF,dW (l:=t.hs) (i:=(k:Int)) (by omega) (by omega),fI,sX,hv,fO,AP t (by omega),aG (n:=t.V) (i:=v) (by omega),aU,CF (uA (t:=t) (g:=fun v=>av (nP t v) k) hvl),CF (uA (t:=t) (g:=fun v=>la (nP t v) k) hvl),oG,jX,bS,DT,aO,wk (k:=av (nP t v) k) (by omega),wk (k:=k) (by omega),Cb,hs,hs2]
noncomputable def vP(t:Tp)(v:Nat):Bool:=bif decide ((vc t v:Int)=0) then decide ((sc t v:Int)=1) else bif decide ((0:Int)<(sc t v:Int)) then false else decide ((R1 (sg t) (la (nP t v) t.hs.length):Int)=(vc t v:Int))
abbrev aT(t:Tp):List T:=tN (vF t fun v=>sc t v)
abbrev dT(t:Tp):List T:=tN (vF t fun v=>vc t v)
abbrev fT(t:Tp):List T:=tN (vF t fun v=>la (nP t v) t.hs.length)
def K4(t:Tp)(v:Nat)(x:Nat)(m:List Nat)(k:Nat):Unit×List T×List T×List T×Int×Int×Int×Int×Int×Int×Int×List T×List T×Unit:=((),aT t,dT t,fT t,(v:Int),((k+1:Nat):Int),((jE x m k:Nat):Int),t.V,(v:Int),t.V,t.F,t.hs.map tH,t.rs.map tR,())
theorem Yu{t:Tp}(ht:Hok t){v:Nat}(hv:v<t.V.toNat){m:List Nat}(hc:bz (sg t) (la (nP t v) t.hs.length) m)(hb:∀y∈(la (nP t v) t.hs.length)::m,y<t.hs.length):
 bH jN (K4 t v (la (nP t v) t.hs.length) m 0)=some (.inl ((),aT t,dT t,fT t,(v:Int),((m.length+1:Nat):Int),t.V,(v:Int),t.V,t.F,t.hs.map tH,t.rs.map tR,())):=by
 have hn:=ht.n
 have hV:=ht.V0
 have hl:m.length+1≤t.hs.length:=by
  have:=QI hc.2 hb;simpa using this
 have hg:=CF (uA (t:=t) (g:=fun v=>la (nP t v) t.hs.length) hv)
 generalize hx:la (nP t v) t.hs.length=x at *
 have h1:=bN (F:=jN) m.length (K4 t v x m) (fun k hk=>by
  have hm:=HA (x:=x) hk
  have hne:=hc.eo hk
  have hlt:=hb _ (eQ _ hm)
  have hd:decide (((jE x m k:Nat):Int)=(x:Int))=false:=aQ (by omega)
  have hp:=ht.aj hlt
  have hs:mt (pv t (jE x m k))=jE x m (k+1):=hc.jw hk
  unfold jN K4
  simp only[zS,AP t (by omega),aG (n:=t.V) (i:=v) (by omega),aU,hg,oG,hd,dW (l:=t.hs) (i:=((jE x m k:Nat):Int)) (by omega) (by omega),mK,ht.bo hlt,rP (k:=pv t (jE x m k)) (by omega),hs,aO,wk (k:=k+1) (by omega)])
 rw[h1]
 refine bA ?_
 unfold jN K4
 simp only[zS,AP t (by omega),aG (n:=t.V) (i:=v) (by omega),aU,hg,oG,J3]
def K3(t:Tp)(v:Nat):Unit×List T×List T×List T×Int×Int×Int×Int×List T×List T×Unit:=((),aT t,dT t,fT t,t.V,(v:Int),t.V,t.F,t.hs.map tH,t.rs.map tR,())
theorem Yv{t:Tp}(ht:Hok t){v:Nat}(hv:v<t.V.toNat):jO (K3 t v)=some (bif vP t v then .inl (K3 t (v+1)) else .inr (.inl (false,()))):=by
 have hn:=ht.n
 have hV:=ht.V0
 have hV1:=ht.V1
 have hlt:decide ((v:Int)<t.V)=true:=aM (by omega)
 have ha:=CF (uA (t:=t) (g:=fun v=>sc t v) hv)
 have hd:=CF (uA (t:=t) (g:=fun v=>vc t v) hv)
 have hf:=CF (uA (t:=t) (g:=fun v=>la (nP t v) t.hs.length) hv)
 unfold jO K3 vP
 simp only[zS,aK,hlt,AP t (by omega),aG (n:=t.V) (i:=v) (by omega),aU,ha,hd,hf,oG,fO]
 cases hE:decide ((vc t v:Int)=0) with
 | true=>
  simp only[bF]
  cases decide ((sc t v:Int)=1) with
  | false=>rfl
  | true=>simp only[zS,qW,aW,aO,wk (k:=v) (by omega)]
 | false=>
  have hz:=tM hE
  have hp0:0<av (nP t v) t.hs.length:=by
   have:(vc t v:Int)=(av (nP t v) t.hs.length:Int):=rfl
   omega
  obtain⟨hll,hlv⟩:=VM hp0
  obtain⟨m,hm,hb⟩:=ht.ku hll
  have h4:=Yu ht hv hm hb
  have hp:=ht.aj hll
  have hs:mt (pv t (la (nP t v) t.hs.length))=jE (la (nP t v) t.hs.length) m 0:=hm.jh
  generalize hx:la (nP t v) t.hs.length=x at *
  have e4:((),aT t,dT t,fT t,(v:Int),(1:Int),(((jE x m 0:Nat):Int)),t.V,(v:Int),t.V,t.F,t.hs.map tH,t.rs.map tR,())=K4 t v x m 0:=rfl
  simp only[bV,dW (l:=t.hs) (i:=(x:Int)) (by omega) (by omega),fI,mK,jX,ht.bo hll,rP (k:=pv t x) (by omega),hs]
  rw[e4,h4]
  simp only[fI,aW,AP t (by omega),aG (n:=t.V) (i:=v) (by omega),ha,hd,oG,jX,AB hm]
  cases decide ((0:Int)<(sc t v:Int)) with
  | true=>rfl
  | false=>
   simp only[bV]
   cases decide (((m.length+1:Nat):Int)=(vc t v:Int)) with
   | false=>rfl
   | true=>simp only[zS,qW,aW,aO,wk (k:=v) (by omega)]
theorem YK{t:Tp}(ht:Hok t){v:Int}{a b:Nat}(ha:a<t.hs.length)(hb:b<t.hs.length)(hav:nP t v a=true)(hbv:nP t v b=true)(h:R1 (sg t) a=vc t v):R1 (sg t) b=vc t v:=by
 obtain⟨m,hm,hl⟩:=ht.ku ha
 have hP:∀y∈a::m,y<t.hs.length∧nP t v y=true:=by
  refine QG (P:=fun y=>y<t.hs.length∧nP t v y=true) ?_ hm.1 ⟨ha,hav⟩
  rintro y ⟨hy,hyv⟩
  refine⟨ht.jx hy,?_⟩
  unfold nP;rw[ht.mv hy];exact hyv
 rw[AB hm] at h
 have hmem:=TB hm.2 hP (by simp only[oB];exact Nat.le_of_eq h.symm) hb hbv
 rcases cN.1 hmem with e | hmem
 ·subst e;rw[AB hm];exact h
 ·obtain⟨l,hl2,_,hle⟩:=hm.pc hmem
  rw[AB hl2,hle];exact h
theorem Rn{t:Tp}(ht:Hok t)(v:Nat):vP t v=vB t v:=by
 unfold vP vB
 by_cases h0:0<vc t v
 ·obtain⟨x,hx,hfx,hxv⟩:=DU (P:=nP t v) h0
  obtain⟨hy,hyv⟩:=VM (P:=nP t v) h0
  have he:decide ((R1 (sg t) (la (nP t v) t.hs.length):Int)=(vc t v:Int))=decide ((R1 (sg t) (fi (nP t v) t.hs.length).toNat:Int)=(vc t v:Int)):=by
   rw[hfx,nR,decide_eq_decide]
   constructor
   ·intro h;have:=YK ht hy hx hyv hxv (by omega);omega
   ·intro h;have:=YK ht hx hy hxv hyv (by omega);omega
  rw[he]
  have h1:decide ((vc t v:Int)=0)=false:=aQ (by omega)
  have h2:decide ((0:Int)<(vc t v:Int))=true:=aM (by omega)
  have h3:decide ((sc t v:Int)+(vc t v:Int)=0)=false:=aQ (by omega)
  rw[h1,h2,h3]
  simp only[bV,ML]
  by_cases hs:0<sc t v
  ·have h4:decide ((0:Int)<(sc t v:Int))=true:=aM (by omega)
   rw[h4]
   by_cases hs1:sc t v=1
   ·have h5:decide ((sc t v:Int)=1)=true:=aM (by omega)
    rw[h5];simp
   ·have h5:decide ((1:Int)<(sc t v:Int))=true:=aM (by omega)
    rw[h5];rfl
  ·have h4:decide ((0:Int)<(sc t v:Int))=false:=aQ (by omega)
   have h5:decide ((sc t v:Int)=1)=false:=aQ (by omega)
   have h6:decide ((1:Int)<(sc t v:Int))=false:=aQ (by omega)
   rw[h4,h5,h6];rfl
 ·have h1:decide ((vc t v:Int)=0)=true:=aM (by omega)
  have h2:decide ((0:Int)<(vc t v:Int))=false:=aQ (by omega)
  rw[h1,h2]
  simp only[bF,OX,bV]
  by_cases hs:sc t v=1
  ·have h5:decide ((sc t v:Int)=1)=true:=aM (by omega)
   have h6:decide ((1:Int)<(sc t v:Int))=false:=aQ (by omega)
   have h3:decide ((sc t v:Int)+(vc t v:Int)=0)=false:=aQ (by omega)
   rw[h5,h6,h3];rfl
  ·have h5:decide ((sc t v:Int)=1)=false:=aQ (by omega)
   rw[h5]
   by_cases h6:1<sc t v
   ·have h7:decide ((1:Int)<(sc t v:Int))=true:=aM (by omega)
    rw[h7];rfl
   ·have h7:decide ((1:Int)<(sc t v:Int))=false:=aQ (by omega)
    have h3:decide ((sc t v:Int)+(vc t v:Int)=0)=true:=aM (by omega)
    rw[h7,h3];rfl
theorem YL{t:Tp}(ht:Hok t)(hr:QK t=true):mG (oF t)=some (Ch t,()):=by
 have hV0:=ht.V0
 have hV1:=ht.V1
 have hrb:∀r,r<t.rs.length→rB t r=true:=fun r h=>by
  unfold QK at hr;exact sY.1 (iC.1 hr).1 r h
 have l0:=bN (F:=iF) t.rs.length (K0 t) (fun r h=>Ys ht hrb h)
 have o0:iF (K0 t t.rs.length)=some (.inr (.inl ((),aT t,tN (vF t fun _=>0),tN (vF t fun _=>0),t.V,t.F,t.hs.map tH,t.rs.map tR,()))):=by
  have hlt:decide ((t.rs.length:Int)<(t.rs.length:Int))=false:=aQ (by omega)
  unfold iF K0;simp only[aK,hlt,bV]
 have l2:=bN (F:=iG) t.hs.length (K2 t) (fun k h=>Yt ht h)
 have o2:iG (K2 t t.hs.length)=some (.inr (.inl ((),aT t,dT t,fT t,t.V,t.F,t.hs.map tH,t.rs.map tR,()))):=by
  have hlt:decide ((t.hs.length:Int)<(t.hs.length:Int))=false:=aQ (by omega)
  unfold iG K2;simp only[aK,hlt,bV]
 have l3:=yQ (F:=jO) t.V.toNat (K3 t) (vP t) (.inl (false,())) (.inr (.inl ())) (fun k hk _=>Yv ht hk) (fun _=>by
  have hlt:decide ((t.V.toNat:Int)<t.V)=false:=aQ (by omega)
  unfold jO K3;simp only[aK,hlt,bV])
 unfold mG oF
 have e0:((),List.replicate t.V.toNat (tI 0),List.replicate t.V.toNat (tI 0),List.replicate t.V.toNat (tI 0),t.rs.map tR,(t.rs.length:Int),(0:Int),t.V,t.F,t.hs.map tH,t.rs.map tR,())=K0 t 0:=by
  unfold K0;rw[←Hx];rfl
 have e2:((),aT t,tN (vF t fun _=>0),tN (vF t fun _=>0),t.hs.map tH,(t.hs.length:Int),(0:Int),t.V,t.F,t.hs.map tH,t.rs.map tR,())=K2 t 0:=rfl
 have e3:((),aT t,dT t,fT t,t.V,(0:Int),t.V,t.F,t.hs.map tH,t.rs.map tR,())=K3 t 0:=rfl
 simp only[A6 (l:=t.V) (c:=t.V) (b:=8) (by omega) (by omega) (by omega) (by decide),fI,G5,bS,bC]
 rw[e0,l0,bA o0]
 simp only[fI,aW,bL]
 rw[e2,l2,bA o2]
 simp only[fI,aW]
 rw[e3,l3,Hp fun v _=>Rn ht v]
 unfold Ch
 cases(List.range t.V.toNat).all (vB t) <;> rfl
def Vr(t:Tp):Bool:=decide (t.hs.length≤256)&&(decide (t.hs.length%2=0)&&(decide (1≤t.V)&&(decide (t.V≤257)&&(decide (1≤t.F)&&(decide (t.F≤257)&&decide (t.rs.length≤257))))))
theorem HB{t:Tp}:Vr t=true↔Sz t:=by
 unfold Vr
 simp only[cM,cK]
 exact⟨fun⟨a,b,c,d,e,f,g⟩=>⟨a,b,c,d,e,f,g⟩,fun⟨a,b,c,d,e,f,g⟩=>⟨a,b,c,d,e,f,g⟩⟩
noncomputable def Tr(t:Tp):Bool:=Vr t&&(dx t&&(QK t&&Ch t))
theorem QN(t:Tp):eO (oF t)=some (Tr t,()):=by
 unfold eO Tr
 have e0:(t.V,t.F,t.hs.map tH,t.rs.map tR,())=oF t:=rfl
 by_cases hz:Sz t
 ·have h1:=hz.n
  have h2:=hz.e
  have h3:=hz.V0
  have h4:=hz.V1
  have h5:=hz.F0
  have h6:=hz.F1
  have h7:=hz.R
  have hm:((t.hs.length:Int)).tmod 2=0:=by
   have:((t.hs.length:Int)).tmod 2=((t.hs.length%2:Nat):Int):=rfl
   rw[this,h2];rfl
  have d1:decide ((256:Int)<(t.hs.length:Int))=false:=aQ (by omega)
  have d3:decide (t.V<1)=false:=aQ (by omega)
  have d4:decide ((257:Int)<t.V)=false:=aQ (by omega)
  have d5:decide (t.F<1)=false:=aQ (by omega)
  have d6:decide ((257:Int)<t.F)=false:=aQ (by omega)
  have d7:decide ((257:Int)<(t.rs.length:Int))=false:=aQ (by omega)
  have hs:=HB.2 hz
  simp only[oF,bL,bC,aK,qJ,uR,hm,OW,BQ,d1,d3,d4,d5,d6,d7,bV]
  rw[e0,Ho hz,hs]
  simp only[fI,fM]
  cases hh:dx t with
  | false=>rfl
  | true=>
   have hk:=Bz hz hh
   simp only[bF,Lj hk,fI,fM]
   cases hr:QK t with
   | false=>rfl
   | true=>simp only[bF,YJ hk,fI,fM]
 ·have hs:Vr t=false:=UC.2 fun h=>hz (HB.1 h)
  rw[hs]
  simp only[oF,bL,bC,aK,qJ,uR,MR]
  cases d1:decide ((256:Int)<(t.hs.length:Int)) with
  | true=>rfl
  | false=>cases d2:decide (((t.hs.length:Int)).tmod 2=0) with
   | false=>rfl
   | true=>cases d3:decide (t.V<1) with
    | true=>rfl
    | false=>cases d4:decide ((257:Int)<t.V) with
     | true=>rfl
     | false=>cases d5:decide (t.F<1) with
      | true=>rfl
      | false=>cases d6:decide ((257:Int)<t.F) with
       | true=>rfl
       | false=>cases d7:decide ((257:Int)<(t.rs.length:Int)) with
        | true=>rfl
        | false=>
         exfalso;apply hz
         have:=tM d1
         have h2:=cH d2
         have h2':((t.hs.length%2:Nat):Int)=0:=h2
         have:=tM d3
         have:=tM d4
         have:=tM d5
         have:=tM d6
         have:=tM d7
         exact⟨by omega,by omega,by omega,by omega,by omega,by omega,by omega⟩
theorem J5(t:Tp):bW (oF t)=some (Tr t,()):=by
 unfold bW Tr
 have e0:(t.V,t.F,t.hs.map tH,t.rs.map tR,())=oF t:=rfl
 by_cases hz:Sz t
 ·have h1:=hz.n
  have h2:=hz.e
  have h3:=hz.V0
  have h4:=hz.V1
  have h5:=hz.F0
  have h6:=hz.F1
  have h7:=hz.R
  have hm:((t.hs.length:Int)).tmod 2=0:=by
   have:((t.hs.length:Int)).tmod 2=((t.hs.length%2:Nat):Int):=rfl
   rw[this,h2];rfl
  have d1:decide ((256:Int)<(t.hs.length:Int))=false:=aQ (by omega)
  have d2:decide ((0:Int)=1)=false:=rfl
  have d3:decide (t.V<1)=false:=aQ (by omega)
  have d4:decide ((257:Int)<t.V)=false:=aQ (by omega)
  have d5:decide (t.F<1)=false:=aQ (by omega)
  have d6:decide ((257:Int)<t.F)=false:=aQ (by omega)
  have d7:decide ((257:Int)<(t.rs.length:Int))=false:=aQ (by omega)
  have hs:=HB.2 hz
  simp only[oF,bL,bC,aK,qJ,uR,hm,d1,d2,d3,d4,d5,d6,d7,bV]
  rw[e0,Hq hz,hs]
  simp only[fI,fM]
  cases hh:dx t with
  | false=>rfl
  | true=>
   have hk:=Bz hz hh
   simp only[bF,Lk hk,fI,fM]
   cases hr:QK t with
   | false=>rfl
   | true=>simp only[bF,YL hk hr,fI,fM]
 ·have hs:Vr t=false:=UC.2 fun h=>hz (HB.1 h)
  rw[hs]
  simp only[oF,bL,bC,aK,qJ,uR,MR]
  cases d1:decide ((256:Int)<(t.hs.length:Int)) with
  | true=>rfl
  | false=>cases d2:decide (((t.hs.length:Int)).tmod 2=1) with
   | true=>rfl
   | false=>cases d3:decide (t.V<1) with
    | true=>rfl
    | false=>cases d4:decide ((257:Int)<t.V) with
     | true=>rfl
     | false=>cases d5:decide (t.F<1) with
      | true=>rfl
      | false=>cases d6:decide ((257:Int)<t.F) with
       | true=>rfl
       | false=>cases d7:decide ((257:Int)<(t.rs.length:Int)) with
        | true=>rfl
        | false=>
         exfalso;apply hz
         have:=tM d1
         have h2:=tM d2
         have h2':¬((t.hs.length%2:Nat):Int)=1:=h2
         have:=tM d3
         have:=tM d4
         have:=tM d5
         have:=tM d6
         have:=tM d7
         exact⟨by omega,by omega,by omega,by omega,by omega,by omega,by omega⟩
def bx(f:Nat→Nat)(n:Nat)(P:Nat→Bool):Prop:=∃x m,bz f x m∧∀y,y∈x::m↔y<n∧P y=true
theorem bx.av{f:Nat→Nat}{n:Nat}{P:Nat→Bool}{x:Nat}{m:List Nat}(hc:bz f x m)(h:∀y,y∈x::m↔y<n∧P y=true):av P n=m.length+1:=by
 rw[M9 hc.2 h];rfl
theorem bx.at{f:Nat→Nat}{n:Nat}{P:Nat→Bool}(h:bx f n P){a:Nat}(ha:a<n)(hp:P a=true):∃m,bz f a m∧∀y,y∈a::m↔y<n∧P y=true:=by
 obtain⟨x,m,hc,hm⟩:=h
 rcases cN.1 ((hm a).2 ⟨ha,hp⟩) with e | h2
 ·subst e;exact⟨m,hc,hm⟩
 ·obtain⟨l,hl,hlm,_⟩:=hc.pc h2
  exact⟨l,hl,fun y=>(hlm y).trans (hm y)⟩
theorem VO{f:Nat→Nat}{n:Nat}{P:Nat→Bool}(hcl:∀y,y<n→P y=true→f y<n∧P (f y)=true){a:Nat}(ha:a<n)(hp:P a=true){m:List Nat}(hm:bz f a m):R1 f a=Tl.av P n↔bx f n P:=by
 constructor
 ·intro h
  rw[AB hm] at h
  have hP:∀y∈a::m,y<n∧P y=true:=QG (P:=fun y=>y<n∧P y=true) (fun y hy=>hcl y hy.1 hy.2) hm.1 ⟨ha,hp⟩
  exact⟨a,m,hm,fun y=>⟨hP y,fun hy=>TB hm.2 hP (by simp only[oB];omega) hy.1 hy.2⟩⟩
 ·intro h
  obtain⟨l,hl,hlm⟩:=h.at ha hp
  rw[AB hl,bx.av hl hlm]
theorem bx.ins{f g:Nat→Nat}{n n':Nat}{P P':Nat→Bool}(h:bx f n P){x a:Nat}(hx:x<n)(hp:P x=true)(ha:n≤a)(gx:g x=a)(ga:g a=f x)(ge:∀y,y<n→P y=true→y≠x→g y=f y)(hP:∀y,(y<n'∧P' y=true)↔(y<n∧P y=true)∨y=a):bx g n' P':=by
 obtain⟨m,hm,cm⟩:=h.at hx hp
 obtain⟨m',h1,h2,_,h4⟩:=Ld (f:=f) (g:=g) gx ga (fun y hy hne=>ge y ((cm y).1 hy).1 ((cm y).1 hy).2 hne) hm.1 hm.2 (by simp) (fun h=>by have:=((cm a).1 h).1;omega)
 exact⟨x,m',⟨h1 |> fun h=>by
  exact h,h2⟩,fun y=>(h4 y).trans (by rw[hP y,cm y])⟩
theorem bx.ext{f g:Nat→Nat}{n n':Nat}{P P':Nat→Bool}(h:bx f n P)(ge:∀y,y<n→P y=true→g y=f y)(hP:∀y,(y<n'∧P' y=true)↔(y<n∧P y=true)):bx g n' P':=by
 obtain⟨x,m,hm,cm⟩:=h
 exact⟨x,m,hm.ext fun y hy=>(ge y ((cm y).1 hy).1 ((cm y).1 hy).2).symm,fun y=>(cm y).trans (hP y).symm⟩
theorem bx.one{g:Nat→Nat}{n':Nat}{P':Nat→Bool}{a:Nat}(ga:g a=a)(hP:∀y,(y<n'∧P' y=true)↔y=a):bx g n' P':=
 ⟨a,[],⟨ga,by simp⟩,fun y=>by rw[hP y];simp⟩
structure CKP (t:Tp):Prop extends Hok t where
 rc:∀r,r<t.rs.length→0≤(rG t.rs r).c∧(rG t.rs r).c<t.F
 rr:∀r:Nat,r<t.rs.length→((rG t.rs r).h=-1∧0≤(rG t.rs r).v∧(rG t.rs r).v<t.V∧∀k,k<t.hs.length→eK t r k=false)∨(0≤(rG t.rs r).h∧(rG t.rs r).h<t.hs.length∧(hG t.hs (rG t.rs r).h).r=r∧(rG t.rs r).v=-1∧bx (nx t) t.hs.length (eK t r))
 fc:∀f:Nat,f<t.F.toNat→∃j,j<t.rs.length∧(rG t.rs j).c.toNat=f
 vv:∀v:Nat,v<t.V.toNat→(av (CM t v) t.rs.length=1∧∀k,k<t.hs.length→nP t v k=false)∨((∀r,r<t.rs.length→CM t v r=false)∧bx (sg t) t.hs.length (nP t v))
theorem sM{P:Nat→Bool}{n:Nat}:av P n=0↔∀k,k<n→P k=false:=by
 constructor
 ·intro h k hk
  cases hp:P k with
  | false=>rfl
  | true=>have:=pF.2 ⟨k,hk,hp⟩;omega
 ·intro h
  by_cases h2:0<av P n
  ·obtain⟨k,hk,hp⟩:=pF.1 h2
   rw[h k hk] at hp;cases hp
  ·omega
theorem Hok.pt{t:Tp}(ht:Hok t)(r:Int):∀y,y<t.hs.length→eK t r y=true→nx t y<t.hs.length∧eK t r (nx t y)=true:=fun y hy hp=>
 ⟨ht.bf hy,by unfold eK at *;rw[ht.rg hy];exact hp⟩
theorem Hok.qg{t:Tp}(ht:Hok t)(v:Int):∀y,y<t.hs.length→nP t v y=true→sg t y<t.hs.length∧nP t v (sg t y)=true:=fun y hy hp=>
 ⟨ht.jx hy,by unfold nP at *;rw[ht.mv hy];exact hp⟩
theorem Ci{t:Tp}(ht:Hok t)(r:Nat):rB t r=true↔(0≤(rG t.rs r).c∧(rG t.rs r).c<t.F)∧(((rG t.rs r).h=-1∧0≤(rG t.rs r).v∧(rG t.rs r).v<t.V∧∀k,k<t.hs.length→eK t r k=false)∨(0≤(rG t.rs r).h∧(rG t.rs r).h<t.hs.length∧(hG t.hs (rG t.rs r).h).r=r∧(rG t.rs r).v=-1∧bx (nx t) t.hs.length (eK t r))):=by
 unfold rB
 rw[cM,bR]
 refine LD fun _=>?_
 by_cases h:(rG t.rs r).h=-1
 ·rw[aM h,bF,cM,bR]
  constructor
  ·rintro ⟨h1,h2⟩
   refine .inl ⟨h,h1.1,h1.2,sM.1 ?_⟩
   have:=tM (Z3 _▸h2)
   omega
  ·rintro (⟨_,h1,h2,h3⟩ | ⟨h1,_⟩)
   ·refine⟨⟨h1,h2⟩,?_⟩
    rw[sM.2 h3];rfl
   ·omega
 ·rw[aQ h,bV,cM,cM,cM,bR,cK,cK,cK]
  constructor
  ·rintro ⟨⟨h1,h2⟩,h3,h4,h5⟩
   obtain⟨x,hx⟩:∃x:Nat,(rG t.rs r).h=(x:Int):=⟨(rG t.rs r).h.toNat,by omega⟩
   rw[hx] at h2 h3 h5 ⊢
   rw[nR] at h5
   obtain⟨m,hm,_⟩:=ht.kr (k:=x) (by omega)
   exact .inr ⟨by omega,h2,h3,h4,(VO (ht.pt r) (by omega) (aM h3) hm).1 (by omega)⟩
  ·rintro (⟨h1,_⟩ | ⟨h1,h2,h3,h4,h5⟩)
   ·exact absurd h1 h
   ·obtain⟨x,hx⟩:∃x:Nat,(rG t.rs r).h=(x:Int):=⟨(rG t.rs r).h.toNat,by omega⟩
    rw[hx] at h2 h3 ⊢
    rw[nR]
    obtain⟨m,hm,_⟩:=ht.kr (k:=x) (by omega)
    have:=(VO (ht.pt r) (by omega) (aM h3) hm).2 h5
    exact⟨⟨by omega,h2⟩,h3,h4,by omega⟩
theorem Lr{t:Tp}(ht:Hok t)(v:Nat):vB t v=true↔(av (CM t v) t.rs.length=1∧∀k,k<t.hs.length→nP t v k=false)∨((∀r,r<t.rs.length→CM t v r=false)∧bx (sg t) t.hs.length (nP t v)):=by
 rw[←Rn ht v]
 unfold vP
 by_cases h0:vc t v=0
 ·have h1:decide ((vc t v:Int)=0)=true:=aM (by omega)
  rw[h1,bF,cK]
  constructor
  ·intro h;exact .inl ⟨by have:(sc t v:Int)=(av (CM t v) t.rs.length:Int):=rfl;omega,sM.1 h0⟩
  ·rintro (⟨h,_⟩ | ⟨_,x,m,_,hm⟩)
   ·have:(sc t v:Int)=(av (CM t v) t.rs.length:Int):=rfl
    omega
   ·have h2:=(hm x).1 (by simp)
    rw[sM.1 h0 x h2.1] at h2;cases h2.2
 ·have h1:decide ((vc t v:Int)=0)=false:=aQ (by omega)
  rw[h1,bV]
  obtain⟨hl,hlv⟩:=VM (P:=nP t v) (n:=t.hs.length) (by have:vc t v=av (nP t v) t.hs.length:=rfl;omega)
  obtain⟨m,hm,_⟩:=ht.ku hl
  have ho:=VO (ht.qg v) hl hlv hm
  by_cases h2:0<sc t v
  ·have h3:decide ((0:Int)<(sc t v:Int))=true:=aM (by omega)
   rw[h3,bF]
   constructor
   ·intro h;cases h
   ·rintro (⟨_,h⟩ | ⟨h,_⟩)
    ·exact absurd (sM.2 h) h0
    ·have h4:sc t v=0:=sM.2 h
     omega
  ·have h3:decide ((0:Int)<(sc t v:Int))=false:=aQ (by omega)
   rw[h3,bV,cK]
   constructor
   ·intro h
    exact .inr ⟨sM.1 (by have:sc t v=av (CM t v) t.rs.length:=rfl;omega),ho.1 (by have:vc t v=av (nP t v) t.hs.length:=rfl;omega)⟩
   ·rintro (⟨_,h⟩ | ⟨_,h⟩)
    ·exact absurd (sM.2 h) h0
    ·have:=ho.2 h
     have:vc t v=av (nP t v) t.hs.length:=rfl
     omega
theorem HC{t:Tp}:Tr t=true↔CKP t:=by
 unfold Tr
 rw[cM,cM,cM]
 constructor
 ·rintro ⟨hz,hh,hr,hv⟩
  have ht:=Bz (HB.1 hz) hh
  unfold QK at hr
  rw[cM] at hr
  unfold Ch at hv
  have h1:=sY.1 hr.1
  have h2:=sY.1 hr.2
  have h3:=sY.1 hv
  exact { ht with rc:=fun r h=>((Ci ht r).1 (h1 r h)).1,rr:=fun r h=>((Ci ht r).1 (h1 r h)).2,fc:=fun f h=>cH (h2 f h),vv:=fun v h=>(Lr ht v).1 (h3 v h) }
 ·intro h
  refine⟨HB.2 h.toSz,h.dx,?_,?_⟩
  ·unfold QK
   rw[cM]
   exact⟨sY.2 fun r hr=>(Ci h.toHok r).2 ⟨h.rc r hr,h.rr r hr⟩,sY.2 fun f hf=>aM (h.fc f hf)⟩
  ·unfold Ch
   exact sY.2 fun v hv=>(Lr h.toHok v).2 (h.vv v hv)
theorem AO{f g:Nat→Nat}:∀{m:List Nat} {a b z:Nat},Path f b m z→(∀y∈m,g y=f y)→g a=f b→Path g a m z
 | [],a,b,z,h,_,e=>by have h1:f b=z:=h;show g a=z;rw[e,h1]
 | y::m,a,b,z,h,he,e=>⟨by rw[e];exact h.1,h.2.ext fun w hw=>(he w hw).symm⟩
theorem bz.split{f g:Nat→Nat}{a b:Nat}{A B:List Nat}(h:bz f a (A++b::B))(ga:g a=f b)(gb:g b=f a)(ge:∀y∈A++B,g y=f y):bz g a B∧bz g b A:=by
 obtain⟨hp,hn⟩:=h
 obtain⟨h1,h2⟩:=kA.1 hp
 have hn':(a::A++b::B).Nodup:=hn
 obtain⟨n1,n2,n3⟩:=rT.1 hn'
 refine⟨⟨AO h2 (fun y hy=>ge y (fK.2 (.inr hy))) ga,?_⟩,⟨AO h1 (fun y hy=>ge y (fK.2 (.inl hy))) gb,?_⟩⟩
 ·refine cY.2 ⟨fun hm=>n3 a (by simp) a (eQ _ hm) rfl,(cY.1 n2).2⟩
 ·refine cY.2 ⟨fun hm=>n3 b (eQ _ hm) b (by simp) rfl,(cY.1 n1).2⟩
theorem bz.merge{f g:Nat→Nat}{a b:Nat}{A B:List Nat}(h:bz f a A)(h':bz f b B)(hd:∀y∈a::A,y∉b::B)(ga:g a=f b)(gb:g b=f a)(ge:∀y∈A++B,g y=f y):bz g a (B++b::A):=by
 refine⟨kA.2 ⟨AO h'.1 (fun y hy=>ge y (fK.2 (.inr hy))) ga,AO h.1 (fun y hy=>ge y (fK.2 (.inl hy))) gb⟩,?_⟩
 have h1:=cY.1 h.2
 have h2:=cY.1 h'.2
 refine cY.2 ⟨fun hm=>?_,rT.2 ⟨h2.2,cY.2 ⟨fun hm=>hd b (eQ _ hm) (by simp),h1.2⟩,fun x hx y hy e=>?_⟩⟩
 ·rcases fK.1 hm with hm | hm
  ·exact hd a (by simp) (eQ _ hm)
  ·rcases cN.1 hm with e | hm
   ·exact hd a (by simp) (by rw[e];simp)
   ·exact h1.1 hm
 ·subst e
  rcases cN.1 hy with e | hy
  ·subst e;exact h2.1 hx
  ·exact hd x (eQ _ hy) (eQ _ hx)
theorem bz.del{f g:Nat→Nat}{p x:Nat}{m:List Nat}(h:bz f p (x::m))(gp:g p=f x)(ge:∀y∈m,g y=f y):bz g p m:=by
 obtain⟨hp,hn⟩:=h
 have h1:=cY.1 hn
 exact⟨AO hp.2 ge gp,cY.2 ⟨fun hm=>h1.1 (eQ _ hm),(cY.1 h1.2).2⟩⟩
def cT(n:Nat)(P:Nat→Bool)(y:Nat):Prop:=y<n∧P y=true
theorem bx.from{f:Nat→Nat}{n:Nat}{P:Nat→Bool}(h:bx f n P){p x:Nat}(hp:cT n P p)(hpx:f p=x)(hne:p≠x):∃m,bz f p (x::m)∧∀y,y∈p::x::m↔cT n P y:=by
 obtain⟨m,hm,cm⟩:=h.at hp.1 hp.2
 cases m with
 | nil=>
  have:f p=p:=hm.1
  exact absurd (this.symm.trans hpx) hne
 | cons y m=>
  have:f p=y:=hm.1.1
  have e:y=x:=this.symm.trans hpx
  subst e
  exact⟨m,hm,cm⟩
theorem bx.del{f g:Nat→Nat}{n n':Nat}{P P':Nat→Bool}(h:bx f n P){p x:Nat}(hp:cT n P p)(hpx:f p=x)(hne:p≠x)(gp:g p=f x)(ge:∀y,cT n P y→y≠p→y≠x→g y=f y)(hP:∀y,cT n' P' y↔cT n P y∧y≠x):bx g n' P':=by
 obtain⟨m,hm,cm⟩:=h.from hp hpx hne
 have hn:=hm.2
 have h1:=cY.1 hn
 have h2:=cY.1 h1.2
 refine⟨p,m,hm.del gp fun y hy=>ge y ((cm y).1 (by simp[hy])) (fun e=>h1.1 (by simp[←e,hy])) fun e=>h2.1 (e▸hy),fun y=>(?_:_↔cT n' P' y)⟩
 rw[hP y,←cm y]
 simp only[cN]
 constructor
 ·rintro (rfl | hy)
  ·exact⟨.inl rfl,hne⟩
  ·exact⟨.inr (.inr hy),fun e=>h2.1 (e▸hy)⟩
 ·rintro ⟨rfl | rfl | hy,hne'⟩
  ·exact .inl rfl
  ·exact absurd rfl hne'
  ·exact .inr hy
theorem bx.split{f g:Nat→Nat}{n:Nat}{P:Nat→Bool}(h:bx f n P){a b:Nat}(ha:cT n P a)(hb:cT n P b)(hne:a≠b)(ga:g a=f b)(gb:g b=f a)(ge:∀y,cT n P y→y≠a→y≠b→g y=f y):
 ∃A B:List Nat,bz g a B∧bz g b A∧(∀y,cT n P y↔y∈a::B∨y∈b::A)∧∀y,y∈a::B→y∉b::A:=by
 obtain⟨m,hm,cm⟩:=h.at ha.1 ha.2
 have hbm:b∈m:=by
  rcases cN.1 ((cm b).2 hb) with e | h
  ·exact absurd e.symm hne
  ·exact h
 obtain⟨A,B,rfl⟩:=LC hbm
 have hn':(a::A++b::B).Nodup:=hm.2
 obtain⟨n1,n2,n3⟩:=rT.1 hn'
 have hge:∀y∈A++B,g y=f y:=fun y hy=>by
  have hy':y∈a::(A++b::B):=by
   rcases fK.1 hy with hy | hy <;> simp[hy]
  refine ge y ((cm y).1 hy') (fun e=>?_) fun e=>?_
  ·subst e
   rcases fK.1 hy with hy | hy
   ·exact(cY.1 n1).1 hy
   ·exact n3 y (by simp) y (by simp[hy]) rfl
  ·subst e
   rcases fK.1 hy with hy | hy
   ·exact n3 y (by simp[hy]) y (by simp) rfl
   ·exact(cY.1 n2).1 hy
 obtain⟨c1,c2⟩:=hm.split ga gb hge
 refine⟨A,B,c1,c2,fun y=>?_,fun y hy hy'=>?_⟩
 ·rw[show cT n P y↔_ from(cm y).symm]
  simp only[cN,fK]
  constructor
  ·rintro (h | h | h | h) <;> simp[h]
  ·rintro ((h | h) | (h | h)) <;> simp[h]
 ·have q1:y=a∨y∈B:=cN.1 hy
  have q2:y=b∨y∈A:=cN.1 hy'
  rcases q1 with rfl | q1 <;> rcases q2 with q2 | q2
  ·exact hne q2
  ·exact(cY.1 n1).1 q2
  ·subst q2;exact(cY.1 n2).1 q1
  ·exact n3 y (by simp[q2]) y (by simp[q1]) rfl
theorem bx.merge{f g:Nat→Nat}{n n':Nat}{P Q R:Nat→Bool}(h:bx f n P)(h':bx f n Q)(hd:∀y,cT n P y→¬cT n Q y){a b:Nat}(ha:cT n P a)(hb:cT n Q b)(ga:g a=f b)(gb:g b=f a)(ge:∀y,cT n P y∨cT n Q y→y≠a→y≠b→g y=f y)(hR:∀y,cT n' R y↔cT n P y∨cT n Q y):bx g n' R:=by
 obtain⟨A,hA,hAm⟩:=h.at ha.1 ha.2
 obtain⟨B,hB,hBm⟩:=h'.at hb.1 hb.2
 have hd':∀y∈a::A,y∉b::B:=fun y hy hy'=>hd y ((hAm y).1 hy) ((hBm y).1 hy')
 have hm:=hA.merge hB hd' ga gb fun y hy=>by
  rcases fK.1 hy with hy | hy
  ·refine ge y (.inl ((hAm y).1 (by simp[hy]))) (fun e=>?_) fun e=>?_
   ·exact(cY.1 hA.2).1 (e▸hy)
   ·exact hd' y (by simp[hy]) (by simp[e])
  ·refine ge y (.inr ((hBm y).1 (by simp[hy]))) (fun e=>?_) fun e=>?_
   ·exact hd' y (by simp[e]) (by simp[hy])
   ·exact(cY.1 hB.2).1 (e▸hy)
 refine⟨a,B++b::A,hm,fun y=>(?_:_↔cT n' R y)⟩
 rw[hR y,show cT n P y↔_ from(hAm y).symm,show cT n Q y↔_ from(hBm y).symm]
 simp only[cN,fK]
 constructor
 ·rintro (h | h | h | h) <;> simp[h]
 ·rintro ((h | h) | (h | h)) <;> simp[h]
end Go.Eng.Tl
set_option linter.unusedSectionVars false
namespace Go.Eng.Tl
open Go.Eng
section
variable {N:Nat} {r r':Nat→Nat→Bool}
theorem TF{i:Nat}(hi:i<N):iO N r i=i↔∀j,bt N r i j→i≤j:=by
 obtain⟨h1,h2⟩:=kG (r:=r) hi
 constructor
 ·intro e j hj;have:=h2 j hj;omega
 ·intro h;have:=h _ h1;have:=HI (r:=r) hi;omega
theorem Hv{k l:Nat}(h:k≤l):oM N r k≤oM N r l:=by
 induction l with
 | zero=>rw[Nat.le_zero.1 h];exact gU _
 | succ l ih=>
  by_cases e:k=l+1
  ·rw[e];exact gU _
  ·have:=ih (by omega)
   simp only[oM];omega
theorem Cf(h:∀k,k<N→(iO N r k=k↔iO N r' k=k)){l:Nat}(hl:l≤N):oM N r l=oM N r' l:=by
 induction l with
 | zero=>rfl
 | succ l ih=>
  simp only[oM]
  rw[ih (by omega)]
  have:=h l (by omega)
  by_cases e:iO N r l=l
  ·rw[aC e,aC (this.1 e)]
  ·rw[aA e,aA (fun x=>e (this.2 x))]
noncomputable def RB(N:Nat)(r:Nat→Nat→Bool):Nat:=oM N r N
theorem Hw(h:∀i j,bt N r i j↔bt N r' i j):RB N r=RB N r':=
 Cf (fun k hk=>by rw[TF hk,TF hk];exact⟨fun h1 j hj=>h1 j ((h k j).2 hj),fun h1 j hj=>h1 j ((h k j).1 hj)⟩) (gU _)
theorem bt.mono(h:∀i j,i<N→j<N→r i j=true→bt N r' i j){i j:Nat}(hc:bt N r i j):bt N r' i j:=by
 induction hc with
 | refl h1=>exact .refl h1
 | step h1 hr hk ih=>exact ih.trans (h _ _ h1.lt.2 hk hr)
theorem bt.one{i j:Nat}(hi:i<N)(hj:j<N)(h:r i j=true):bt N r i j:=.step (.refl hi) h hj
end
def rf(f:Nat→Nat)(i j:Nat):Bool:=decide (f i=j)||decide (f j=i)
section
variable {f:Nat→Nat} {n:Nat} (hf:∀x,x<n→f x<n) (hi:∀x y,x<n→y<n→f x=f y→x=y)
include hf hi
end
def WN(a b k:Nat):Nat:=if k=a then b else if k=b then a else k
theorem Lo(a b:Nat):WN a b a=b:=aC rfl
theorem Lp(a b:Nat):WN a b b=a:=by
 unfold WN
 by_cases e:b=a
 ·rw[aC e,e]
 ·rw[aA e,aC rfl]
theorem Cg{a b k:Nat}(h1:k≠a)(h2:k≠b):WN a b k=k:=by unfold WN;rw[aA h1,aA h2]
theorem J4(a b k:Nat):WN a b (WN a b k)=k:=by
 by_cases e1:k=a
 ·rw[e1,Lo,Lp]
 ·by_cases e2:k=b
  ·rw[e2,Lp,Lo]
  ·rw[Cg e1 e2,Cg e1 e2]
theorem Tn{a b n k:Nat}(ha:a<n)(hb:b<n)(hk:k<n):WN a b k<n:=by
 unfold WN;split
 ·exact hb
 ·split <;> assumption
section
variable {f:Nat→Nat} {n a b:Nat} (hf:∀x,x<n→f x<n) (hi:∀x y,x<n→y<n→f x=f y→x=y) (ha:a<n) (hb:b<n)
include hf hi ha hb
end
structure cw where
 L:Nat→Bool
 R:Nat→Bool
 V:Nat→Bool
 F:Nat→Bool
structure Mp where
 n:Nat
 R:Nat
 V:Nat
 F:Nat
 f:Nat→Nat
 r:Nat→Nat
 nx:Nat→Nat
 pv:Nat→Nat
 al:Nat→Bool
 rv:Nat→Nat
 rc:Nat→Nat
def Mp.sg(m:Mp)(k:Nat):Nat:=mt (m.pv k)
def Mp.kx(m:Mp)(L:Nat→Bool)(q:Nat)(k:Nat):Bool:=L k&&decide (m.r k=q)
def Mp.mf(m:Mp)(L:Nat→Bool)(u:Nat)(k:Nat):Bool:=L k&&decide (m.f k=u)
structure WV (m:Mp) (a:cw):Prop where
 cg:∀k,cT m.n a.L k→cT m.n a.L (mt k)
 hf:∀k,cT m.n a.L k→cT m.V a.V (m.f k)
 hn:∀k,cT m.n a.L k→cT m.n a.L (m.nx k)
 hp:∀k,cT m.n a.L k→cT m.n a.L (m.pv k)
 pn:∀k,cT m.n a.L k→m.pv (m.nx k)=k
 np:∀k,cT m.n a.L k→m.nx (m.pv k)=k
 hr:∀k,cT m.n a.L k→cT m.R a.R (m.r k)
 rn:∀k,cT m.n a.L k→m.r (m.nx k)=m.r k
 ff:∀k,cT m.n a.L k→m.f (m.nx k)=m.f (mt k)
 rc:∀q,cT m.R a.R q→cT m.F a.F (m.rc q)
 ra:∀q,cT m.R a.R q→m.al q=true→cT m.V a.V (m.rv q)∧∀k,cT m.n a.L k→m.r k≠q
 ro:∀q,cT m.R a.R q→m.al q=false→bx m.nx m.n (m.kx a.L q)
 fc:∀g,cT m.F a.F g→∃q,cT m.R a.R q∧m.rc q=g
 va:∀u,cT m.V a.V u→((∃q,(cT m.R a.R q∧m.al q=true∧m.rv q=u)∧∀q',cT m.R a.R q'→m.al q'=true→m.rv q'=u→q'=q)∧∀k,cT m.n a.L k→m.f k≠u) ∨
  ((∀q,cT m.R a.R q→m.al q=true→m.rv q≠u)∧bx m.sg m.n (m.mf a.L u))
theorem Y1{f g i:Nat→Nat}:∀{l:List Nat} {x z:Nat},(∀y∈x::l,g (i y)=i (f y))→Path f x l z→Path g (i x) (l.map i) (i z)
 | [],x,z,h,hp=>by
  have h1:f x=z:=hp
  show g (i x)=i z
  rw[h x (by simp),h1]
 | y::l,x,z,h,hp=>⟨by rw[h x (by simp),hp.1],Y1 (fun w hw=>h w (eQ _ hw)) hp.2⟩
theorem MC{i:Nat→Nat}:∀{l:List Nat},(∀x∈l,∀y∈l,i x=i y→x=y)→l.Nodup→(l.map i).Nodup
 | [],_,_=>OT
 | x::l,h,hn=>by
  obtain⟨h1,h2⟩:=cY.1 hn
  refine cY.2 ⟨fun hm=>?_,MC (fun a ha b hb=>h a (eQ _ ha) b (eQ _ hb)) h2⟩
  obtain⟨y,hy,e⟩:=lE.1 hm
  have:=h y (eQ _ hy) x (by simp) e
  exact h1 (this▸hy)
structure ic (n:Nat) (P:Nat→Bool) (n':Nat) (P':Nat→Bool) (s i:Nat→Nat):Prop where
 to:∀k,cT n P k→cT n' P' (i k)
 fr:∀j,cT n' P' j→cT n P (s j)
 si:∀k,cT n P k→s (i k)=k
 is:∀j,cT n' P' j→i (s j)=j
theorem bx.pz{f g:Nat→Nat}{n n':Nat}{P P' Q Q':Nat→Bool}{s i:Nat→Nat}(h:bx f n Q)(hr:ic n P n' P' s i)(hQ:∀k,cT n Q k→cT n P k)(hg:∀k,cT n Q k→g (i k)=i (f k))(hP:∀j,cT n' Q' j↔cT n' P' j∧cT n Q (s j)):bx g n' Q':=by
 obtain⟨x,m,hm,cm⟩:=h
 refine⟨i x,m.map i,⟨Y1 (fun y hy=>hg y ((cm y).1 hy)) hm.1,?_⟩,fun y=>(?_:_↔cT n' Q' y)⟩
 ·have:(i x::m.map i)=(x::m).map i:=rfl
  rw[this]
  refine MC (fun a ha b hb e=>?_) hm.2
  rw[←hr.si a (hQ a ((cm a).1 ha)),←hr.si b (hQ b ((cm b).1 hb)),e]
 ·have:(i x::m.map i)=(x::m).map i:=rfl
  rw[this,hP y]
  constructor
  ·intro hy
   obtain⟨k,hk,rfl⟩:=lE.1 hy
   have hk':=(cm k).1 hk
   have hk2:=hQ k hk'
   exact⟨hr.to k hk2,by rw[hr.si k hk2];exact hk'⟩
  ·rintro ⟨h1,h2⟩
   exact lE.2 ⟨s y,(cm _).2 h2,hr.is y h1⟩
theorem WV.mz{m:Mp}{a:cw}(h:WV m a){n':Nat}{L':Nat→Bool}{s i:Nat→Nat}(hr:ic m.n a.L n' L' s i)(hm:∀k,cT m.n a.L k→i (mt k)=mt (i k)){f r nx pv:Nat→Nat}(hf:∀j,cT n' L' j→f j=m.f (s j))(hrr:∀j,cT n' L' j→r j=m.r (s j))
 (hnx:∀j,cT n' L' j→nx j=i (m.nx (s j))) (hpv:∀j,cT n' L' j→pv j=i (m.pv (s j))):WV { m with n:=n',f:=f,r:=r,nx:=nx,pv:=pv } { a with L:=L' }:=by
 have sm:∀j,cT n' L' j→cT n' L' (mt j)∧s (mt j)=mt (s j):=fun j hj=>by
  have h1:=hr.fr j hj
  have h2:=h.cg _ h1
  have h3:=hm _ h1
  rw[hr.is j hj] at h3
  have h4:=hr.to _ h2
  rw[h3] at h4
  exact⟨h4,by rw[←h3,hr.si _ h2]⟩
 have nN:∀j,cT n' L' j→cT n' L' (nx j)∧s (nx j)=m.nx (s j):=fun j hj=>by
  have h1:=h.hn _ (hr.fr j hj)
  rw[hnx j hj]
  exact⟨hr.to _ h1,hr.si _ h1⟩
 have pN:∀j,cT n' L' j→cT n' L' (pv j)∧s (pv j)=m.pv (s j):=fun j hj=>by
  have h1:=h.hp _ (hr.fr j hj)
  rw[hpv j hj]
  exact⟨hr.to _ h1,hr.si _ h1⟩
 refine { cg:=fun j hj=>(sm j hj).1,hf:=fun j hj=>?_,hn:=fun j hj=>(nN j hj).1,hp:=fun j hj=>(pN j hj).1,pn:=fun j hj=>?_,np:=fun j hj=>?_,hr:=fun j hj=>?_,rn:=fun j hj=>?_,ff:=fun j hj=>?_,rc:=h.rc,ra:=fun q hq bn=>?_,ro:=fun q hq bn=>?_,fc:=h.fc,va:=fun u hu=>?_ }
 ·show cT m.V a.V (f j);rw[hf j hj];exact h.hf _ (hr.fr j hj)
 ·show pv (nx j)=j
  rw[hpv _ (nN j hj).1,(nN j hj).2,h.pn _ (hr.fr j hj),hr.is j hj]
 ·show nx (pv j)=j
  rw[hnx _ (pN j hj).1,(pN j hj).2,h.np _ (hr.fr j hj),hr.is j hj]
 ·show cT m.R a.R (r j);rw[hrr j hj];exact h.hr _ (hr.fr j hj)
 ·show r (nx j)=r j
  rw[hrr _ (nN j hj).1,(nN j hj).2,hrr j hj];exact h.rn _ (hr.fr j hj)
 ·show f (nx j)=f (mt j)
  rw[hf _ (nN j hj).1,(nN j hj).2,hf _ (sm j hj).1,(sm j hj).2];exact h.ff _ (hr.fr j hj)
 ·obtain⟨h1,h2⟩:=h.ra q hq bn
  refine⟨h1,fun j hj=>?_⟩
  show r j≠q
  rw[hrr j hj];exact h2 _ (hr.fr j hj)
 ·refine(h.ro q hq bn).pz hr (fun k hk=>⟨hk.1,(iC.1 hk.2).1⟩) (fun k hk=>?_) fun j=>?_
  ·have hk':cT m.n a.L k:=⟨hk.1,(iC.1 hk.2).1⟩
   show nx (i k)=i (m.nx k)
   rw[hnx _ (hr.to k hk'),hr.si k hk']
  ·show (j<n'∧(L' j&&decide (r j=q))=true)↔cT n' L' j∧(s j<m.n∧(a.L (s j)&&decide (m.r (s j)=q))=true)
   rw[cM,cM,cK,cK]
   constructor
   ·rintro ⟨h1,h2,h3⟩
    have hj:cT n' L' j:=⟨h1,h2⟩
    have h4:=hr.fr j hj
    exact⟨hj,h4.1,h4.2,by rw[←hrr j hj];exact h3⟩
   ·rintro ⟨hj,h1,h2,h3⟩
    exact⟨hj.1,hj.2,by rw[hrr j hj];exact h3⟩
 ·rcases h.va u hu with⟨h1,h2⟩ | ⟨h1,h2⟩
  ·refine .inl ⟨h1,fun j hj=>?_⟩
   show f j≠u
   rw[hf j hj];exact h2 _ (hr.fr j hj)
  ·refine .inr ⟨h1,h2.pz hr (fun k hk=>⟨hk.1,(iC.1 hk.2).1⟩) (fun k hk=>?_) fun j=>?_⟩
   ·have hk':cT m.n a.L k:=⟨hk.1,(iC.1 hk.2).1⟩
    show mt (pv (i k))=i (mt (m.pv k))
    rw[hpv _ (hr.to k hk'),hr.si k hk',hm _ (h.hp k hk')]
   ·show (j<n'∧(L' j&&decide (f j=u))=true)↔cT n' L' j∧(s j<m.n∧(a.L (s j)&&decide (m.f (s j)=u))=true)
    rw[cM,cM,cK,cK]
    constructor
    ·rintro ⟨h1,h2,h3⟩
     have hj:cT n' L' j:=⟨h1,h2⟩
     have h4:=hr.fr j hj
     exact⟨hj,h4.1,h4.2,by rw[←hf j hj];exact h3⟩
    ·rintro ⟨hj,h1,h2,h3⟩
     exact⟨hj.1,hj.2,by rw[hf j hj];exact h3⟩
theorem ic.inj{n n':Nat}{P P':Nat→Bool}{s i:Nat→Nat}(hr:ic n P n' P' s i){x y:Nat}(hx:cT n P x)(hy:cT n P y)(e:i x=i y):x=y:=by rw[←hr.si x hx,e,hr.si y hy]
theorem WV.lu{m:Mp}{a:cw}(h:WV m a){V':Nat}{P':Nat→Bool}{s i:Nat→Nat}(hr:ic m.V a.V V' P' s i){f rv:Nat→Nat}(hf:∀k,cT m.n a.L k→f k=i (m.f k))(hv:∀q,cT m.R a.R q→m.al q=true→rv q=i (m.rv q)):
 WV { m with V:=V',f:=f,rv:=rv } { a with V:=P' }:=by
 refine { cg:=h.cg,hf:=fun k hk=>?_,hn:=h.hn,hp:=h.hp,pn:=h.pn,np:=h.np,hr:=h.hr,rn:=h.rn,ff:=fun k hk=>?_,rc:=h.rc,ra:=fun q hq bn=>?_,ro:=h.ro,fc:=h.fc,va:=fun u hu=>?_ }
 ·show cT V' P' (f k);rw[hf k hk];exact hr.to _ (h.hf k hk)
 ·show f (m.nx k)=f (mt k)
  rw[hf _ (h.hn k hk),hf _ (h.cg k hk),h.ff k hk]
 ·obtain⟨h1,h2⟩:=h.ra q hq bn
  refine⟨?_,h2⟩
  show cT V' P' (rv q);rw[hv q hq bn];exact hr.to _ h1
 ·have hu':=hr.fr u hu
  have hw:∀w,cT m.V a.V w→(i w=u↔w=s u):=fun w hw=>⟨fun e=>by rw[←hr.si w hw,e],fun e=>by rw[e];exact hr.is u hu⟩
  rcases h.va (s u) hu' with⟨⟨q,⟨q1,q2,q3⟩,q4⟩,h2⟩ | ⟨h1,h2⟩
  ·refine .inl ⟨⟨q,⟨q1,q2,?_⟩,fun q' p1 p2 p3=>?_⟩,fun k hk e=>?_⟩
   ·show rv q=u;rw[hv q q1 q2];exact(hw _ (h.ra q q1 q2).1).2 q3
   ·have p3:rv q'=u:=p3
    rw[hv q' p1 p2] at p3
    exact q4 q' p1 p2 ((hw _ (h.ra q' p1 p2).1).1 p3)
   ·have e:f k=u:=e
    rw[hf k hk] at e
    exact h2 k hk ((hw _ (h.hf k hk)).1 e)
  ·refine .inr ⟨fun q p1 p2 e=>?_,h2.ext (fun _ _ _=>rfl) fun y=>?_⟩
   ·have e:rv q=u:=e
    rw[hv q p1 p2] at e
    exact h1 q p1 p2 ((hw _ (h.ra q p1 p2).1).1 e)
   ·show (y<m.n∧(a.L y&&decide (f y=u))=true)↔y<m.n∧(a.L y&&decide (m.f y=s u))=true
    rw[cM,cM,cK,cK]
    constructor
    ·rintro ⟨a1,a2,a3⟩
     rw[hf y ⟨a1,a2⟩] at a3
     exact⟨a1,a2,(hw _ (h.hf y ⟨a1,a2⟩)).1 a3⟩
    ·rintro ⟨a1,a2,a3⟩
     exact⟨a1,a2,by rw[hf y ⟨a1,a2⟩];exact(hw _ (h.hf y ⟨a1,a2⟩)).2 a3⟩
theorem WV.jk{m:Mp}{a:cw}(h:WV m a){R':Nat}{P':Nat→Bool}{s i:Nat→Nat}(hr:ic m.R a.R R' P' s i){r:Nat→Nat}{al:Nat→Bool}{rv rc:Nat→Nat}(hk:∀k,cT m.n a.L k→r k=i (m.r k))
 (ha:∀j,cT R' P' j→al j=m.al (s j)) (hv:∀j,cT R' P' j→al j=true→rv j=m.rv (s j)) (hc:∀j,cT R' P' j→rc j=m.rc (s j)):
 WV { m with R:=R',r:=r,al:=al,rv:=rv,rc:=rc } { a with R:=P' }:=by
 have hw:∀j,cT R' P' j→∀q,cT m.R a.R q→(i q=j↔q=s j):=fun j hj q hq=>⟨fun e=>by rw[←hr.si q hq,e],fun e=>by rw[e];exact hr.is j hj⟩
 refine { cg:=h.cg,hf:=h.hf,hn:=h.hn,hp:=h.hp,pn:=h.pn,np:=h.np,hr:=fun k hl=>?_,rn:=fun k hl=>?_,ff:=h.ff,rc:=fun j hj=>?_,ra:=fun j hj bn=>?_,ro:=fun j hj bn=>?_,fc:=fun g hg=>?_,va:=fun u hu=>?_ }
 ·show cT R' P' (r k);rw[hk k hl];exact hr.to _ (h.hr k hl)
 ·show r (m.nx k)=r k
  rw[hk _ (h.hn k hl),hk k hl,h.rn k hl]
 ·show cT m.F a.F (rc j);rw[hc j hj];exact h.rc _ (hr.fr j hj)
 ·have fm:m.al (s j)=true:=by rw[←ha j hj];exact bn
  obtain⟨h1,h2⟩:=h.ra _ (hr.fr j hj) fm
  refine⟨?_,fun k hl e=>?_⟩
  ·show cT m.V a.V (rv j);rw[hv j hj bn];exact h1
  ·have e:r k=j:=e
   rw[hk k hl] at e
   exact h2 k hl ((hw j hj _ (h.hr k hl)).1 e)
 ·have fm:m.al (s j)=false:=by rw[←ha j hj];exact bn
  refine(h.ro _ (hr.fr j hj) fm).ext (fun _ _ _=>rfl) fun y=>?_
  show (y<m.n∧(a.L y&&decide (r y=j))=true)↔y<m.n∧(a.L y&&decide (m.r y=s j))=true
  rw[cM,cM,cK,cK]
  constructor
  ·rintro ⟨a1,a2,a3⟩
   rw[hk y ⟨a1,a2⟩] at a3
   exact⟨a1,a2,(hw j hj _ (h.hr y ⟨a1,a2⟩)).1 a3⟩
  ·rintro ⟨a1,a2,a3⟩
   exact⟨a1,a2,by rw[hk y ⟨a1,a2⟩];exact(hw j hj _ (h.hr y ⟨a1,a2⟩)).2 a3⟩
 ·obtain⟨q,q1,q2⟩:=h.fc g hg
  refine⟨i q,hr.to q q1,?_⟩
  show rc (i q)=g
  rw[hc _ (hr.to q q1),hr.si q q1];exact q2
 ·rcases h.va u hu with⟨⟨q,⟨q1,q2,q3⟩,q4⟩,h2⟩ | ⟨h1,h2⟩
  ·have q2':al (i q)=true:=by rw[ha _ (hr.to q q1),hr.si q q1];exact q2
   refine .inl ⟨⟨i q,⟨hr.to q q1,q2',?_⟩,fun j p1 p2 p3=>?_⟩,h2⟩
   ·show rv (i q)=u
    rw[hv _ (hr.to q q1) q2',hr.si q q1];exact q3
   ·have p3:rv j=u:=p3
    have p2:al j=true:=p2
    rw[hv j p1 p2] at p3
    have:=q4 (s j) (hr.fr j p1) (by rw[←ha j p1];exact p2) p3
    rw[←this,hr.is j p1]
  ·refine .inr ⟨fun j p1 p2 e=>?_,h2⟩
   have p2:al j=true:=p2
   have e:rv j=u:=e
   rw[hv j p1 p2] at e
   exact h1 (s j) (hr.fr j p1) (by rw[←ha j p1];exact p2) e
theorem WV.lv{m:Mp}{a:cw}(h:WV m a){F':Nat}{P':Nat→Bool}{s i:Nat→Nat}(hr:ic m.F a.F F' P' s i){rc:Nat→Nat}(hc:∀q,cT m.R a.R q→rc q=i (m.rc q)):
 WV { m with F:=F',rc:=rc } { a with F:=P' }:=by
 refine { cg:=h.cg,hf:=h.hf,hn:=h.hn,hp:=h.hp,pn:=h.pn,np:=h.np,hr:=h.hr,rn:=h.rn,ff:=h.ff,rc:=fun q hq=>?_,ra:=h.ra,ro:=h.ro,fc:=fun g hg=>?_,va:=h.va }
 ·show cT F' P' (rc q);rw[hc q hq];exact hr.to _ (h.rc q hq)
 ·obtain⟨q,q1,q2⟩:=h.fc _ (hr.fr g hg)
  refine⟨q,q1,?_⟩
  show rc q=g
  rw[hc q q1,q2,hr.is g hg]
theorem J9{n x:Nat}(hx:x<n){P:Nat→Bool}(hP:∀k,k<n→(P k=true↔k≠x)):ic n P (n-1) (fun _=>true) (fun j=>if j=x then n-1 else j) (fun k=>if k=n-1 then x else k):=by
 refine⟨fun k hk=>?_,fun j hj=>?_,fun k hk=>?_,fun j hj=>?_⟩
 ·have h1:=hk.1
  have h2:=(hP k h1).1 hk.2
  refine⟨?_,rfl⟩
  split <;> omega
 ·have h1:=hj.1
  split
  ·rename_i e
   exact⟨by omega,(hP _ (by omega)).2 (by omega)⟩
  ·rename_i e
   exact⟨by omega,(hP _ (by omega)).2 e⟩
 ·have h1:=hk.1
  have h2:=(hP k h1).1 hk.2
  split
  ·rename_i e;first | (rw[aC rfl];exact e.symm) | (split <;> omega)
  ·first | rfl | rw[aA h2]
 ·have h1:=hj.1
  split
  ·rename_i e;rw[aC rfl];exact e.symm
  ·rw[aA (by omega)]
def sN(l:List Hf)(i:Nat)(v:Int):List Hf:=l.set i { hG l i with n:=v }
def sP(l:List Hf)(i:Nat)(v:Int):List Hf:=l.set i { hG l i with p:=v }
def sR(l:List Hf)(i:Nat)(v:Int):List Hf:=l.set i { hG l i with r:=v }
def lk(l:List Hf)(a b:Nat):List Hf:=sP (sN l a (b:Int)) b (a:Int)
theorem YM(x:Hf)(v:Int):T.aw 4 (tH x) 1 [tI v]=tH { x with n:=v }:=by unfold T.aw;rfl
theorem YN(x:Hf)(v:Int):T.aw 4 (tH x) 2 [tI v]=tH { x with p:=v }:=by unfold T.aw;rfl
theorem Hy(x:Hf)(v:Int):T.aw 4 (tH x) 3 [tI v]=tH { x with r:=v }:=by unfold T.aw;rfl
theorem Vu(x:Hf)(v:Int):T.aw 4 (tH x) 0 [tI v]=tH { x with f:=v }:=by unfold T.aw;rfl
theorem NO(x:Rg)(v:Int):T.aw 3 (tR x) 0 [tI v]=tR { x with h:=v }:=by unfold T.aw;rfl
theorem FW(x:Rg)(v:Int):T.aw 3 (tR x) 1 [tI v]=tR { x with v:=v }:=by unfold T.aw;rfl
theorem Hz(x:Rg)(v:Int):T.aw 3 (tR x) 2 [tI v]=tR { x with c:=v }:=by unfold T.aw;rfl
theorem CG(l:List Hf)(k:Nat)(x:Hf):(l.map tH).set k (tH x)=(l.set k x).map tH:=by rw[OY]
theorem wX(l:List Rg)(k:Nat)(x:Rg):(l.map tR).set k (tR x)=(l.set k x).map tR:=by rw[OY]
theorem gI{l:List Hf}{k:Nat}(h:k<l.length):(l.map tH)[k]?=some (tH (hG l k)):=by rw[eW,sL l k h];rfl
theorem sO{l:List Rg}{k:Nat}(h:k<l.length):(l.map tR)[k]?=some (tR (rG l k)):=by rw[eW,wD l k h];rfl
@[simp] theorem Xq(l:List Hf)(i:Nat)(v:Int):(sN l i v).length=l.length:=by simp[sN]
@[simp] theorem Xr(l:List Hf)(i:Nat)(v:Int):(sP l i v).length=l.length:=by simp[sP]
@[simp] theorem VP(l:List Hf)(i:Nat)(v:Int):(sR l i v).length=l.length:=by simp[sR]
@[simp] theorem aF(l:List Hf)(a b:Nat):(lk l a b).length=l.length:=by simp[lk]
theorem DV{l:List Hf}{i j:Nat}{x:Hf}(hi:i<l.length):hG (l.set i x) j=if i=j then x else hG l j:=by
 unfold hG
 rw[nR,jY,jY,qU]
 by_cases e:i=j
 ·subst e;rw[aC rfl,aC rfl,aC hi];rfl
 ·rw[aA e,aA e]
theorem iD{l:List Rg}{i j:Nat}{x:Rg}(hi:i<l.length):rG (l.set i x) j=if i=j then x else rG l j:=by
 unfold rG
 rw[nR,jY,jY,qU]
 by_cases e:i=j
 ·subst e;rw[aC rfl,aC rfl,aC hi];rfl
 ·rw[aA e,aA e]
theorem VQ{l:List Hf}{i j:Nat}{v:Int}(hi:i<l.length):hG (sN l i v) j=if i=j then { hG l j with n:=v } else hG l j:=by
 unfold sN;rw[DV hi];by_cases e:i=j
 ·subst e;rfl
 ·rw[aA e,aA e]
theorem VR{l:List Hf}{i j:Nat}{v:Int}(hi:i<l.length):hG (sP l i v) j=if i=j then { hG l j with p:=v } else hG l j:=by
 unfold sP;rw[DV hi];by_cases e:i=j
 ·subst e;rfl
 ·rw[aA e,aA e]
theorem Ts{l:List Hf}{i j:Nat}{v:Int}(hi:i<l.length):hG (sR l i v) j=if i=j then { hG l j with r:=v } else hG l j:=by
 unfold sR;rw[DV hi];by_cases e:i=j
 ·subst e;rfl
 ·rw[aA e,aA e]
theorem fQ{l m:List Hf}{j:Nat}(h:j<l.length):hG (l++m) j=hG l j:=by
 unfold hG;rw[nR,jY,jY,AR h]
theorem oH{l:List Hf}{x y:Hf}:hG (l++[x,y]) (l.length:Nat)=x:=by
 unfold hG;rw[nR,jY,HS (by omega)];simp
theorem oJ{l:List Hf}{x y:Hf}:hG (l++[x,y]) ((l.length+1:Nat):Int)=y:=by
 unfold hG;rw[nR,jY,HS (by omega)]
 have:l.length+1-l.length=1:=by omega
 rw[this];rfl
theorem uS{l m:List Hf}(hl:l.length=m.length)(h:∀j:Nat,j<l.length→hG l j=hG m j):l=m:=by
 apply HR
 intro i
 by_cases hi:i<l.length
 ·rw[sL l i hi,sL m i (by omega),h i hi]
 ·rw[vK (by omega),vK (by omega)]
theorem L7{l m:List Rg}(hl:l.length=m.length)(h:∀j:Nat,j<l.length→rG l j=rG m j):l=m:=by
 apply HR
 intro i
 by_cases hi:i<l.length
 ·rw[wD l i hi,wD m i (by omega),h i hi]
 ·rw[vK (by omega),vK (by omega)]
theorem xL{V F:Int}{hs:List Hf}{rs:List T}{a b:Nat}(ha:a<hs.length)(hb:b<hs.length):
 aJ (V,F,hs.map tH,rs,(a:Int),(b:Int),())=some ((lk hs a b).map tH,rs,()):=by
 have hlen:∀l:List Hf,l.length=hs.length→aV (aH (l.map tH)) (b:Int)=some b:=fun l h=>by rw[bL];exact aG (by omega)
 unfold aJ
 simp only[bL,aG (n:=(hs.length:Int)) (i:=a) (by omega),fI,aU,gI ha,bS,YM,CG,cW,aG (n:=(hs.length:Int)) (i:=b) (by omega)]
 have hg:((hs.set a { hG hs a with n:=(b:Int) }).map tH)[b]?=some (tH (hG (sN hs a b) b)):=gI (by simpa using hb)
 simp only[hg,fI,YN,CG]
 rfl
theorem FX{V F:Int}{hs:List Hf}{rs:List T}{x y:Int}(hn:hs.length≤1000):
 iS ((),x,y,V,F,hs.map tH,rs,())=some ((hs.length:Int),((hs.length+1:Nat):Int),V,F,(hs++[Hf.mk x 0 0 0,Hf.mk y 0 0 0]).map tH,rs,()):=by
 have hr:qH (hs.map tH) [tH (Hf.mk x 0 0 0),tH (Hf.mk y 0 0 0)] 32=some ((hs++[Hf.mk x 0 0 0,Hf.mk y 0 0 0]).map tH):=by
  rw[rV (by simp only[cS,oB,xC];omega) (by decide),EM];rfl
 unfold iS
 simp only[bL,aO,wk (k:=hs.length) (by omega)]
 have e:([T.agg [T.v (Value.int .i64 x),T.v (Value.int .i64 0),T.v (Value.int .i64 0),T.v (Value.int .i64 0)],T.agg [T.v (Value.int .i64 y),T.v (Value.int .i64 0),T.v (Value.int .i64 0),T.v (Value.int .i64 0)]]:List T)=[tH (Hf.mk x 0 0 0),tH (Hf.mk y 0 0 0)]:=rfl
 rw[e,hr]
 rfl
theorem Tt{t:Tp}(hn:t.hs.length≤1000)(hR:t.rs.length≤1000):dN (oF t)=some (oF t):=by
 unfold dN oF
 simp only[rV (l:=[]) (m:=t.hs.map tH) (b:=32) (by simp only[cS,xC];omega) (by decide),rV (l:=[]) (m:=t.rs.map tR) (b:=24) (by simp only[cS,xC];omega) (by decide),fI,ZG]
def gQ(t:Tp)(a b c d:Nat):Bool:=decide ((t.hs.length:Int)+a≤256)&&(decide (t.V+b≤257)&&(decide (t.F+c≤257)&&decide ((t.rs.length:Int)+d≤257)))
theorem FZ{t:Tp}(ht:Sz t){a b c d:Nat}(ha:a≤2)(hb:b≤2)(hc:c≤2)(hd:d≤2):dD (t.V,t.F,t.hs.map tH,t.rs.map tR,(a:Int),(b:Int),(c:Int),(d:Int),())=some (gQ t a b c d,()):=by
 have h1:=ht.n
 have h2:=ht.V0
 have h3:=ht.V1
 have h4:=ht.F0
 have h5:=ht.F1
 have h6:=ht.R
 unfold dD gQ
 simp only[bL,bC,aO,gH,gN (n:=(t.hs.length:Int)+a) (by omega) (by omega),gN (n:=t.V+b) (by omega) (by omega),gN (n:=t.F+c) (by omega) (by omega),gN (n:=(t.rs.length:Int)+d) (by omega) (by omega)]
 cases decide ((t.hs.length:Int)+a≤256) <;> cases decide (t.V+b≤257) <;> cases decide (t.F+c≤257) <;> rfl
def ar(l:List Hf)(xs:List Nat)(r:Int):List Hf:=xs.foldl (fun l x=>sR l x r) l
theorem cF(xs:List Nat)(r:Int):∀l:List Hf,(ar l xs r).length=l.length:=by
 induction xs with
 | nil=>intro l;rfl
 | cons x xs ih=>intro l;show (ar (sR l x r) xs r).length=_;rw[ih,VP]
theorem dX(xs:List Nat)(r:Int):∀(l:List Hf) (j:Nat),(∀x∈xs,x<l.length)→hG (ar l xs r) j=if j∈xs then { hG l j with r:=r } else hG l j:=by
 induction xs with
 | nil=>intro l j _;simp[ar]
 | cons x xs ih=>
  intro l j h
  show hG (ar (sR l x r) xs r) j=_
  rw[ih _ _ (fun y hy=>by rw[VP];exact h y (eQ _ hy)),Ts (h x (by simp))]
  by_cases e:x=j
  ·subst e
   rw[aC rfl,aC (T7 ..)]
   by_cases e2:x∈xs
   ·rw[aC e2]
   ·rw[aA e2]
  ·rw[aA e]
   by_cases e2:j∈xs
   ·rw[aC e2,aC (eQ _ e2)]
   ·rw[aA e2,aA]
    intro h2
    rcases cN.1 h2 with h3 | h3
    ·exact e h3.symm
    ·exact e2 h3
def lJ(t:Tp)(x:Nat)(m:List Nat)(r:Nat):Tp:={ t with hs:=ar t.hs (x::m) (r:Int),rs:=t.rs.set r { rG t.rs r with h:=(x:Int),v:=-1 } }
def G0(t:Tp)(x r:Nat)(m:List Nat)(i:Nat):Int×Int×Unit×List T×Int×Int×Int×List T×List T×Unit:=((x:Int),(r:Int),(),tN (x::m),(i:Int),t.V,t.F,(ar t.hs ((x::m).take i) (r:Int)).map tH,t.rs.map tR,())
theorem Ls{t:Tp}(hn:t.hs.length≤1000){x r:Nat}{m:List Nat}(hc:bz (nx t) x m)(hb:∀y∈x::m,y<t.hs.length)(hi:∀y∈x::m,(hG t.hs y).n=(nx t y:Int))(hr:r<t.rs.length):
 cI (t.V,t.F,t.hs.map tH,t.rs.map tR,(x:Int),(r:Int),())=some ((lJ t x m r).hs.map tH,(lJ t x m r).rs.map tR,()):=by
 have hml:m.length+1≤t.hs.length:=by
  have:=QI hc.2 hb;simpa using this
 have hl:=bN (F:=oR) (m.length+1) (G0 t x r m) (fun i hi2=>by
  have hlt:decide ((i:Int)<((m.length+1:Nat):Int))=true:=aM (by omega)
  have hlen:aH (tN (x::m))=((m.length+1:Nat):Int):=by rw[jI,wE];rfl
  have hil:i<(x::m).length:=by simpa using hi2
  have hyb:=hb _ (OJ hil)
  generalize hy:(x::m)[i]=y at hyb
  have hg:(x::m)[i]?=some y:=by rw[dG hil,hy]
  have ht1:(x::m).take (i+1)=(x::m).take i++[y]:=by rw[UE hil,hy]
  have hs1:ar t.hs ((x::m).take (i+1)) (r:Int)=sR (ar t.hs ((x::m).take i) (r:Int)) y (r:Int):=by
   rw[ht1];unfold ar;rw[List.foldl_append];rfl
  unfold oR G0
  rw[hs1]
  have hl2:(ar t.hs ((x::m).take i) (r:Int)).length=t.hs.length:=cF _ _ _
  generalize ar t.hs ((x::m).take i) (r:Int)=L at *
  have hg2:(L.map tH)[y]?=some (tH (hG L y)):=gI (by omega)
  simp only[aK,hlen,hlt,bF,A5,CF hg,fI,oG,fO,bL,hl2,aG (n:=(t.hs.length:Int)) (i:=y) (by omega),aU,hg2,bS,Hy,CG,aO,wk (k:=i) (by omega)]
  rfl)
 have ho:oR (G0 t x r m (m.length+1))=some (.inr (.inl ((x:Int),(r:Int),(),t.V,t.F,(ar t.hs (x::m) (r:Int)).map tH,t.rs.map tR,()))):=by
  have hlen:aH (tN (x::m))=((m.length+1:Nat):Int):=by rw[jI,wE];rfl
  have hlt:decide (((m.length+1:Nat):Int)<((m.length+1:Nat):Int))=false:=aQ (by omega)
  have htk:(x::m).take (m.length+1)=x::m:=IF (by simp)
  unfold oR G0
  simp only[aK,hlen,hlt,bV,htk]
 have e0:((x:Int),(r:Int),(),tN (x::m),(0:Int),t.V,t.F,t.hs.map tH,t.rs.map tR,())=G0 t x r m 0:=rfl
 unfold cI
 simp only[Hr hn hc hb hi,fI]
 rw[e0,hl,bA ho]
 have hg3:∀z:Rg,((t.rs.set r z).map tR)[r]?=some (tR z):=fun z=>by rw[eW,iI hr];rfl
 simp only[fI,aW,bC,aG (n:=(t.rs.length:Int)) (i:=r) (by omega),aU,sO hr,bS,NO,wX,cW,hg3,FW,EN]
 rfl
def YO(P:Nat→Bool)(n:Nat)(o:Int):Nat→Int
 | 0=>o
 | j+1=>bif P (n-1-j) then ((n-1-j:Nat):Int) else YO P n o j
def YP(P:Nat→Bool)(n:Nat)(o:Int):Int:=if 0<av P n then fi P n else o
theorem YQ{P:Nat→Bool}{n:Nat}{k:Nat}(hk:k<n)(hp:P k=true)(hl:∀j,j<k→P j=false):fi P n=(k:Int):=by
 have h0:∀m,m≤k→fi P m=-1:=by
  intro m
  induction m with
  | zero=>intro _;rfl
  | succ m ih=>intro h;simp only[fi,hl m (by omega),bV];exact ih (by omega)
 have h1:∀m,k<m→m≤n→fi P m=(k:Int):=by
  intro m
  induction m with
  | zero=>intro h;omega
  | succ m ih=>
   intro h h2
   simp only[fi]
   by_cases e:m=k
   ·subst e
    rw[hp,h0 m (gU _)];rfl
   ·have h3:=ih (by omega) (by omega)
    rw[h3]
    have hd:decide ((k:Int)<0)=false:=aQ (by omega)
    rw[hd];cases P m <;> rfl
 exact h1 n hk (gU _)
theorem Lt(P:Nat→Bool)(n:Nat)(o:Int):YO P n o n=YP P n o:=by
 have key:∀j,j≤n→((∀k,n-j≤k→k<n→P k=false)∧YO P n o j=o)∨∃k,n-j≤k∧k<n∧P k=true∧(∀i,n-j≤i→i<k→P i=false)∧YO P n o j=(k:Int):=by
  intro j
  induction j with
  | zero=>intro _;exact .inl ⟨fun k h1 h2=>by omega,rfl⟩
  | succ j ih=>
   intro hj
   simp only[YO]
   cases hp:P (n-1-j) with
   | true=>exact .inr ⟨n-1-j,by omega,by omega,hp,fun i h1 h2=>by omega,rfl⟩
   | false=>
    rcases ih (by omega) with⟨h1,h2⟩ | ⟨k,h1,h2,h3,h4,h5⟩
    ·refine .inl ⟨fun k hk1 hk2=>?_,h2⟩
     by_cases e:k=n-1-j
     ·rw[e];exact hp
     ·exact h1 k (by omega) hk2
    ·refine .inr ⟨k,by omega,h2,h3,fun i hi1 hi2=>?_,h5⟩
     by_cases e:i=n-1-j
     ·rw[e];exact hp
     ·exact h4 i (by omega) hi2
 unfold YP
 rcases key n (gU _) with⟨h1,h2⟩ | ⟨k,h1,h2,h3,h4,h5⟩
 ·rw[aA,h2]
  rw[sM.2 fun k hk=>h1 k (by omega) hk];omega
 ·rw[aC (pF.2 ⟨k,h2,h3⟩),h5,YQ h2 h3 fun j hj=>h4 j (by omega) hj]
def KV(t:Tp)(r:Nat):Rg:=bif decide ((rG t.rs r).h=-1) then rG t.rs r else { rG t.rs r with h:=YP (eK t r) t.hs.length (rG t.rs r).h }
def R2(t:Tp):Nat→List Rg
 | 0=>t.rs
 | r+1=>(R2 t r).set r (KV t r)
def lz(t:Tp):Tp:={ t with rs:=R2 t t.rs.length }
theorem N7(t:Tp)(r:Nat):(R2 t r).length=t.rs.length:=by
 induction r with
 | zero=>rfl
 | succ r ih=>simp[R2,ih]
theorem N8(t:Tp){r:Nat}(hr:r≤t.rs.length)(i:Nat):rG (R2 t r) i=if i<r then KV t i else rG t.rs i:=by
 induction r with
 | zero=>simp[R2]
 | succ r ih=>
  simp only[R2]
  rw[iD (by rw[N7];omega),ih (by omega)]
  by_cases e:r=i
  ·subst e;rw[aC rfl,aC (by omega)]
  ·rw[aA e]
   by_cases e2:i<r
   ·rw[aC e2,aC (by omega)]
   ·rw[aA e2,aA (by omega)]
theorem kT(t:Tp):(lz t).rs.length=t.rs.length:=N7 _ _
theorem uT(t:Tp){i:Nat}(hi:i<t.rs.length):rG (lz t).rs i=KV t i:=by
 show rG (R2 t t.rs.length) i=_
 rw[N8 t (gU _),aC hi]
def D1(t:Tp)(r:Nat)(j:Nat):Unit×Unit×Int×Int×Int×Int×List T×List T×Int×Int×T×T×Unit:=((),(),(r:Int),(t.hs.length:Int)-1-(j:Int),t.V,t.F,t.hs.map tH,((R2 t r).set r { rG t.rs r with h:=YO (eK t r) t.hs.length (rG t.rs r).h j }).map tR,0,0,T.v (.slice none 0 0),T.v (.slice none 0 0),())
def D0(t:Tp)(r:Nat):Unit×Unit×Int×Int×Int×List T×List T×Int×Int×T×T×Unit:=((),(),(r:Int),t.V,t.F,t.hs.map tH,(R2 t r).map tR,0,0,T.v (.slice none 0 0),T.v (.slice none 0 0),())
theorem Eo{t:Tp}(hn:t.hs.length≤1000)(hR:t.rs.length≤1000):cJ (oF t)=some (oF (lz t)):=by
 have hl:=bN (F:=pQ) t.rs.length (D0 t) (fun r hr=>by
  have hlt:decide ((r:Int)<(t.rs.length:Int))=true:=aM (by omega)
  have hlen:(R2 t r).length=t.rs.length:=N7 _ _
  have hg:((R2 t r).map tR)[r]?=some (tR (rG t.rs r)):=by
   rw[sO (by omega),N8 t (by omega),aA (by omega)]
  have hD:D0 t (r+1)=((),(),((r+1:Nat):Int),t.V,t.F,t.hs.map tH,((R2 t r).set r (KV t r)).map tR,0,0,T.v (.slice none 0 0),T.v (.slice none 0 0),()):=rfl
  rw[hD]
  unfold pQ D0 KV
  simp only[zS,aK,bC,hlen,hlt,aG (n:=(t.rs.length:Int)) (i:=r) (by omega),aU,hg,y0]
  cases hh:decide ((rG t.rs r).h=-1) with
  | true=>
   have hsame:(R2 t r).set r (rG t.rs r)=R2 t r:=by
    refine kQ ?_
    rw[wD _ _ (by omega),N8 t (by omega),aA (by omega)]
   simp only[bF,fI,aW,aO,wk (k:=r) (by omega),hsame]
  | false=>
   have h1:=bN (F:=pP) t.hs.length (D1 t r) (fun j hj=>by
    have hge:decide ((0:Int)≤(t.hs.length:Int)-1-(j:Int))=true:=aM (by omega)
    have hcast:(t.hs.length:Int)-1-(j:Int)=((t.hs.length-1-j:Nat):Int):=by omega
    have hnext:(t.hs.length:Int)-1-((j+1:Nat):Int)=(t.hs.length:Int)-1-(j:Int)-1:=by omega
    have hw:wr .i64 ((t.hs.length:Int)-1-(j:Int)-1)=(t.hs.length:Int)-1-(j:Int)-1:=gN (by omega) (by omega)
    unfold pP D1
    have hxg:=dW (l:=t.hs) (i:=(t.hs.length:Int)-1-(j:Int)) (by omega) (by omega)
    simp only[zS,gH,hge,hxg,jK,YO,hnext]
    have hPe:decide ((hG t.hs ((t.hs.length:Int)-1-(j:Int))).r=(r:Int))=eK t r (t.hs.length-1-j):=by
     unfold eK;rw[hcast]
    rw[hPe]
    cases eK t r (t.hs.length-1-j) with
    | false=>simp only[bV,fI,aW,nO,hw]
    | true=>
     have hg2:∀z:Rg,(((R2 t r).set r z).map tR)[r]?=some (tR z):=fun z=>by rw[eW,iI (by omega)];rfl
     simp only[bF,bC,cW,hlen,aG (n:=(t.rs.length:Int)) (i:=r) (by omega),fI,aU,hg2,bS,NO,wX,EN,aW,nO,hw,←hcast])
   have ho:pP (D1 t r t.hs.length)=some (.inr (.inl ((),(),(r:Int),t.V,t.F,t.hs.map tH,((R2 t r).set r { rG t.rs r with h:=YP (eK t r) t.hs.length (rG t.rs r).h }).map tR,0,0,T.v (.slice none 0 0),T.v (.slice none 0 0),()))):=by
    have hge:decide ((0:Int)≤(t.hs.length:Int)-1-(t.hs.length:Int))=false:=aQ (by omega)
    unfold pP D1
    simp only[gH,hge,bV,Lt]
   have hw0:wr .i64 ((t.hs.length:Int)-1)=(t.hs.length:Int)-1:=gN (by omega) (by omega)
   have hsame:(R2 t r).set r { rG t.rs r with h:=(rG t.rs r).h }=R2 t r:=by
    refine kQ ?_
    rw[wD _ _ (by omega),N8 t (by omega),aA (by omega)]
   have e0:((),(),(r:Int),((t.hs.length:Int)-1),t.V,t.F,t.hs.map tH,(R2 t r).map tR,(0:Int),(0:Int),T.v (Value.slice none 0 0),T.v (Value.slice none 0 0),())=D1 t r 0:=by
    unfold D1 YO;rw[hsame];simp
   simp only[bV,bL,nO,hw0]
   rw[e0,h1,bA ho]
   simp only[fI,aW,aO,wk (k:=r) (by omega)])
 have ho:pQ (D0 t t.rs.length)=some (.inr (.inl ((),(),t.V,t.F,t.hs.map tH,(R2 t t.rs.length).map tR,0,0,T.v (.slice none 0 0),T.v (.slice none 0 0),()))):=by
  have hlt:decide ((t.rs.length:Int)<(t.rs.length:Int))=false:=aQ (by omega)
  unfold pQ D0
  simp only[aK,bC,N7,hlt,bV]
 unfold cJ oF
 have e0:((),(),(0:Int),t.V,t.F,t.hs.map tH,t.rs.map tR,(0:Int),(0:Int),T.v (Value.slice none 0 0),T.v (Value.slice none 0 0),())=D0 t 0:=rfl
 simp only[]
 rw[e0,hl,bA ho]
 rfl
theorem YR(t:Tp)(r:Nat):(KV t r).v=(rG t.rs r).v:=by unfold KV;cases decide ((rG t.rs r).h=-1) <;> rfl
theorem F2(t:Tp)(r:Nat):(KV t r).c=(rG t.rs r).c:=by unfold KV;cases decide ((rG t.rs r).h=-1) <;> rfl
theorem Ro(t:Tp){r:Nat}(h:(rG t.rs r).h=-1):KV t r=rG t.rs r:=by unfold KV;rw[aM h];rfl
theorem Rp(t:Tp){r:Nat}(h:(rG t.rs r).h≠-1){k:Nat}(hk:k<t.hs.length)(hp:eK t r k=true):∃j:Nat,j<t.hs.length∧eK t r j=true∧(KV t r).h=(j:Int)∧fi (eK t r) t.hs.length=(j:Int):=by
 have h0:0<av (eK t r) t.hs.length:=pF.2 ⟨k,hk,hp⟩
 obtain⟨j,h1,h2,h3⟩:=DU h0
 refine⟨j,h1,h3,?_,h2⟩
 unfold KV
 rw[aQ h]
 show YP (eK t r) t.hs.length (rG t.rs r).h=_
 unfold YP
 rw[aC h0,h2]
theorem CKP.lz{t:Tp}(ht:CKP t):CKP (lz t):=by
 have hl:=kT t
 have hR:∀r:Nat,r<t.rs.length→rG (Tl.lz t).rs r=KV t r:=fun r h=>uT t h
 have halo:∀(v:Int) (r:Nat),r<t.rs.length→CM (Tl.lz t) v r=CM t v r:=fun v r hr=>by
  unfold CM
  rw[hR r hr,YR]
  by_cases h:(rG t.rs r).h=-1
  ·rw[Ro t h]
  ·rcases ht.rr r hr with⟨h1,_⟩ | ⟨h1,h2,h3,_⟩
   ·exact absurd h1 h
   ·obtain⟨k,hk⟩:∃k:Nat,(rG t.rs r).h=(k:Int):=⟨(rG t.rs r).h.toNat,by omega⟩
    obtain⟨j,_,_,h5,_⟩:=Rp t h (k:=k) (by omega) (by unfold eK;rw[←hk];exact aM h3)
    have e1:decide ((KV t r).h=-1)=false:=aQ (by omega)
    have e2:decide ((rG t.rs r).h=-1)=false:=aQ h
    rw[e1,e2]
 have hsz:Sz (Tl.lz t):=⟨ht.n,ht.e,ht.V0,ht.V1,ht.F0,ht.F1,by rw[hl];exact ht.R⟩
 exact { hsz with
  b1:=fun k hk=>by
   have:=ht.b1 k hk
   rw[iJ] at this ⊢
   rw[hl];exact this
  b2:=fun k hk=>ht.b2 k hk
  rc:=fun r hr=>by
   rw[hl] at hr
   rw[hR r hr,F2];exact ht.rc r hr
  rr:=fun r hr=>by
   rw[hl] at hr
   rw[hR r hr,YR]
   rcases ht.rr r hr with⟨h1,h2⟩ | ⟨h1,h2,h3,h4,h5⟩
   ·exact .inl ⟨by rw[Ro t h1];exact h1,h2⟩
   ·obtain⟨k,hk⟩:∃k:Nat,(rG t.rs r).h=(k:Int):=⟨(rG t.rs r).h.toNat,by omega⟩
    obtain⟨j,h6,h7,h8,_⟩:=Rp t (r:=r) (by omega) (k:=k) (by omega) (by unfold eK;rw[←hk];exact aM h3)
    refine .inr ⟨by omega,?_,?_,h4,h5⟩
    ·rw[h8];show (j:Int)<(t.hs.length:Int);omega
    ·rw[h8];exact cH h7
  fc:=fun f hf=>by
   obtain⟨j,h1,h2⟩:=ht.fc f hf
   exact⟨j,by rw[hl];exact h1,by rw[hR j h1,F2];exact h2⟩
  vv:=fun v hv=>by
   rcases ht.vv v hv with⟨h1,h2⟩ | ⟨h1,h2⟩
   ·exact .inl ⟨by rw[hl,Hn fun r hr=>halo v r hr];exact h1,h2⟩
   ·exact .inr ⟨fun r hr=>by rw[hl] at hr;rw[halo v r hr];exact h1 r hr,h2⟩ }
def gD(t:Tp)(r h:Nat):Tp:=⟨t.V+1,t.F,sN (sP (t.hs++[Hf.mk (hG t.hs h).f ((t.hs.length+1:Nat):Int) (pv t h:Nat) (r:Int),Hf.mk t.V (h:Int) (t.hs.length:Int) (r:Int)]) h ((t.hs.length+1:Nat):Int)) (pv t h) (t.hs.length:Int),t.rs⟩
theorem wF(t:Tp)(r h:Nat):(gD t r h).hs.length=t.hs.length+2:=by simp[gD]
theorem lK{t:Tp}(ht:Hok t){r h:Nat}(hh:h<t.hs.length){j:Nat}(hj:j<t.hs.length):hG (gD t r h).hs j=⟨(hG t.hs j).f,if pv t h=j then (t.hs.length:Int) else (hG t.hs j).n,if h=j then ((t.hs.length+1:Nat):Int) else (hG t.hs j).p,(hG t.hs j).r⟩:=by
 have hp:=ht.aj hh
 unfold gD
 simp only[]
 rw[VQ (by simp;omega),VR (by simp;omega),fQ hj]
 by_cases e1:pv t h=j
 ·by_cases e2:h=j
  ·simp only[aC e1,aC e2]
  ·simp only[aC e1,aA e2]
 ·by_cases e2:h=j
  ·simp only[aA e1,aC e2]
  ·simp only[aA e1,aA e2]
theorem rQ{t:Tp}(ht:Hok t){r h:Nat}(hh:h<t.hs.length):hG (gD t r h).hs (t.hs.length:Nat)=⟨(hG t.hs h).f,((t.hs.length+1:Nat):Int),(pv t h:Nat),(r:Int)⟩:=by
 have hp:=ht.aj hh
 unfold gD
 simp only[]
 rw[VQ (by simp;omega),aA (by omega),VR (by simp;omega),aA (by omega),oH]
theorem wG{t:Tp}(ht:Hok t){r h:Nat}(hh:h<t.hs.length):hG (gD t r h).hs ((t.hs.length+1:Nat):Int)=⟨t.V,(h:Int),(t.hs.length:Int),(r:Int)⟩:=by
 have hp:=ht.aj hh
 unfold gD
 simp only[]
 rw[VQ (by simp;omega),aA (by omega),VR (by simp;omega),aA (by omega),oJ]
theorem Ep{t:Tp}(ht:Hok t){r h:Nat}(hh:h<t.hs.length){j:Nat}(hj:j<t.hs.length):nx (gD t r h) j=if pv t h=j then t.hs.length else nx t j:=by
 unfold nx;rw[lK ht hh hj]
 by_cases e:pv t h=j
 ·simp only[aC e,nR]
 ·simp only[aA e]
theorem Qd{t:Tp}(ht:Hok t){r h:Nat}(hh:h<t.hs.length){j:Nat}(hj:j<t.hs.length):pv (gD t r h) j=if h=j then t.hs.length+1 else pv t j:=by
 unfold pv;rw[lK ht hh hj]
 by_cases e:h=j
 ·simp only[aC e,nR]
 ·simp only[aA e]
theorem Lu{t:Tp}(ht:Hok t){r h:Nat}(hh:h<t.hs.length):nx (gD t r h) t.hs.length=t.hs.length+1:=by unfold nx;rw[rQ ht hh];rfl
theorem Lv{t:Tp}(ht:Hok t){r h:Nat}(hh:h<t.hs.length):nx (gD t r h) (t.hs.length+1)=h:=by unfold nx;rw[wG ht hh];rfl
theorem Lw{t:Tp}(ht:Hok t){r h:Nat}(hh:h<t.hs.length):pv (gD t r h) t.hs.length=pv t h:=by
 unfold pv;rw[rQ ht hh];rfl
theorem Lx{t:Tp}(ht:Hok t){r h:Nat}(hh:h<t.hs.length):pv (gD t r h) (t.hs.length+1)=t.hs.length:=by unfold pv;rw[wG ht hh];rfl
theorem Er{n:Nat}(h:n%2=0):mt n=n+1:=by have:=nH n;have:=oY n;omega
theorem Ly{n:Nat}(h:n%2=0):mt (n+1)=n:=by have:=nH (n+1);have:=oY (n+1);omega
theorem YS{t:Tp}(ht:Hok t){r h:Nat}(hh:h<t.hs.length)(hr:eK t r h=true)(ho:bx (nx t) t.hs.length (eK t r)):bx (nx (gD t r h)) (t.hs.length+2) (eK (gD t r h) r):=by
 have hp:=ht.aj hh
 have hpr:eK t r (pv t h)=true:=by
  have:=ht.rg hp
  rw[ht.np hh] at this
  unfold eK at *;rw[←this];exact hr
 have h1:bx (fun y=>if y=pv t h then t.hs.length else if y=t.hs.length then h else nx t y) (t.hs.length+1) (fun y=>decide (y=t.hs.length)||eK t r y&&decide (y<t.hs.length)):=by
  refine ho.ins (x:=pv t h) (a:=t.hs.length) hp hpr (gU _) (by simp) ?_ ?_ ?_
  ·rw[aA (by omega),aC rfl,ht.np hh]
  ·intro y hy _ hne;rw[aA hne,aA (by omega)]
  ·intro y;simp only[pD,cM,cK]
   constructor
   ·rintro ⟨_,h | ⟨h,h2⟩⟩
    ·exact .inr h
    ·exact .inl ⟨h2,h⟩
   ·rintro (⟨h,h2⟩ | h)
    ·exact⟨by omega,.inr ⟨h2,h⟩⟩
    ·exact⟨by omega,.inl h⟩
 refine h1.ins (x:=t.hs.length) (a:=t.hs.length+1) (by omega) (by simp) (gU _) (Lu ht hh) ?_ ?_ ?_
 ·rw[Lv ht hh];simp only[eP];rw[aA (by omega)]
 ·intro y hy hyp hne
  have hyl:y<t.hs.length:=by omega
  rw[Ep ht hh hyl,aA (show ¬y=t.hs.length by omega)]
  by_cases e:pv t h=y
  ·rw[aC e,aC e.symm]
  ·rw[aA e,aA fun e2=>e e2.symm]
 ·intro y
  simp only[pD,cM,cK]
  constructor
  ·rintro ⟨hy,hyp⟩
   by_cases e1:y<t.hs.length
   ·have:eK t r y=true:=by unfold eK at *;rw[lK ht hh e1] at hyp;exact hyp
    exact .inl ⟨by omega,.inr ⟨this,e1⟩⟩
   ·by_cases e2:y=t.hs.length
    ·exact .inl ⟨by omega,.inl e2⟩
    ·exact .inr (by omega)
  ·rintro (⟨_,h2 | ⟨h2,h3⟩⟩ | h2)
   ·subst h2
    exact⟨by omega,by unfold eK;rw[rQ ht hh];exact aM rfl⟩
   ·refine⟨by omega,?_⟩
    unfold eK at *;rw[lK ht hh h3];exact h2
   ·subst h2
    exact⟨by omega,by unfold eK;rw[wG ht hh];exact aM rfl⟩
theorem YT{t:Tp}(ht:Hok t){r h:Nat}(hh:h<t.hs.length)(hr:eK t r h=true)(hrl:r<t.rs.length)(hn:t.hs.length+2≤256)(hV:t.V+1≤257):Hok (gD t r h):=by
 have hp:=ht.aj hh
 have hr':(hG t.hs h).r=(r:Int):=cH hr
 have hl:=wF t r h
 have hV0:=ht.V0
 have he:=ht.e
 obtain⟨⟨f1,f2⟩,_⟩:=iJ.1 (ht.b1 h hh)
 have hsz:Sz (gD t r h):=⟨by rw[hl];exact hn,by rw[hl];omega,by show 1≤t.V+1;omega,hV,ht.F0,ht.F1,ht.R⟩
 have hVe:(gD t r h).V=t.V+1:=rfl
 have hRe:(gD t r h).rs=t.rs:=rfl
 have hpr:(hG t.hs (pv t h:Nat)).r=(r:Int):=by
  have:=ht.rg hp
  rw[ht.np hh] at this
  rw[←this];exact hr'
 exact { hsz with
  b1:=fun k hk=>by
   rw[hl] at hk
   rw[iJ,hl,hVe,hRe]
   by_cases e1:k<t.hs.length
   ·obtain⟨a1,a2,a3,a4⟩:=iJ.1 (ht.b1 k e1)
    rw[lK ht hh e1]
    simp only[]
    refine⟨by omega,?_,?_,a4⟩
    ·by_cases e:pv t h=k
     ·rw[aC e];omega
     ·rw[aA e];omega
    ·by_cases e:h=k
     ·rw[aC e];omega
     ·rw[aA e];omega
   ·by_cases e2:k=t.hs.length
    ·subst e2
     rw[rQ ht hh]
     simp only[]
     omega
    ·have e3:k=t.hs.length+1:=by omega
     subst e3
     rw[wG ht hh]
     simp only[]
     omega
  b2:=fun k hk=>by
   rw[hl] at hk
   rw[L5]
   by_cases e1:k<t.hs.length
   ·have hx:=lK (r:=r) ht hh e1
    have hnl:=ht.bf e1
    have hpl:=ht.aj e1
    have hni:=ht.bd e1
    have hpi:=ht.bo e1
    have hm:=kS he e1
    have hmx:=lK (r:=r) ht hh hm
    rw[hx]
    simp only[]
    refine⟨?_,?_,?_,?_⟩
    ·by_cases e:pv t h=k
     ·rw[aC e,rQ ht hh];simp only[e]
     ·rw[aA e,hni,lK ht hh hnl]
      have hne:h≠nx t k:=fun e2=>e (by rw[e2,ht.pn e1])
      simp only[aA hne]
      rw[ht.bo hnl,ht.pn e1]
    ·by_cases e:h=k
     ·subst e;rw[aC rfl,wG ht hh]
     ·rw[aA e,hpi,lK ht hh hpl]
      have hne:pv t h≠pv t k:=fun e2=>e (by rw[←ht.np hh,e2,ht.np e1])
      simp only[aA hne]
      rw[ht.bd hpl,ht.np e1]
    ·by_cases e:pv t h=k
     ·rw[aC e,rQ ht hh];simp only[];rw[←e,hpr]
     ·rw[aA e,hni,lK ht hh hnl]
      exact ht.rg e1
    ·rw[hmx]
     by_cases e:pv t h=k
     ·rw[aC e,rQ ht hh]
      simp only[]
      have:=ht.fr hp
      rw[ht.np hh,e] at this;exact this
     ·rw[aA e,hni,lK ht hh hnl]
      exact ht.fr e1
   ·by_cases e2:k=t.hs.length
    ·subst e2
     rw[rQ ht hh]
     simp only[]
     rw[wG ht hh,lK ht hh hp,Er he,wG ht hh]
     simp only[eP]
     refine⟨?_,?_,?_,?_⟩ <;> first | trivial | assumption
    ·have e3:k=t.hs.length+1:=by omega
     subst e3
     rw[wG ht hh]
     simp only[]
     rw[lK ht hh hh,rQ ht hh,Ly he,rQ ht hh]
     simp only[eP]
     refine⟨?_,?_,?_,?_⟩ <;> first | trivial | assumption }
theorem QO{t:Tp}(ht:CKP t){r h:Nat}(hh:h<t.hs.length)(hr:eK t r h=true)(hrl:r<t.rs.length)(hn:t.hs.length+2≤256)(hV:t.V+1≤257):CKP (gD t r h):=by
 have hk:=ht.toHok
 have hk':=YT hk hh hr hrl hn hV
 have hl:=wF t r h
 have he:=ht.e
 have hr':(hG t.hs h).r=(r:Int):=cH hr
 have hV0:=ht.V0
 have hRe:(gD t r h).rs=t.rs:=rfl
 have halo:∀v s,CM (gD t r h) v s=CM t v s:=fun _ _=>rfl
 obtain⟨⟨f1,f2⟩,_⟩:=iJ.1 (ht.b1 h hh)
 have hp:=hk.aj hh
 have hinR:∀(s:Int) (y:Nat),y<t.hs.length→eK (gD t r h) s y=eK t s y:=fun s y hy=>by unfold eK;rw[lK hk hh hy]
 have hvof:∀(s:Int) (y:Nat),y<t.hs.length→nP (gD t r h) s y=nP t s y:=fun s y hy=>by unfold nP;rw[lK hk hh hy]
 have ha:∀s:Int,eK (gD t r h) s t.hs.length=decide ((r:Int)=s):=fun s=>by unfold eK;rw[rQ hk hh]
 have hb:∀s:Int,eK (gD t r h) s (t.hs.length+1)=decide ((r:Int)=s):=fun s=>by unfold eK;rw[wG hk hh]
 have va:∀s:Int,nP (gD t r h) s t.hs.length=decide ((hG t.hs h).f=s):=fun s=>by unfold nP;rw[rQ hk hh]
 have vb:∀s:Int,nP (gD t r h) s (t.hs.length+1)=decide (t.V=s):=fun s=>by unfold nP;rw[wG hk hh]
 have sga:sg (gD t r h) t.hs.length=sg t h:=by unfold sg;rw[Lw hk hh]
 have sgb:sg (gD t r h) (t.hs.length+1)=t.hs.length+1:=by unfold sg;rw[Lx hk hh,Er he]
 have sgl:∀y,y<t.hs.length→sg (gD t r h) y=if h=y then t.hs.length else sg t y:=fun y hy=>by
  unfold sg;rw[Qd hk hh hy]
  by_cases e:h=y
  ·rw[aC e,aC e,Ly he]
  ·rw[aA e,aA e]
 exact { hk' with
  rc:=ht.rc
  rr:=fun s hs=>by
   rw[hRe] at hs
   rw[hRe,hl]
   rcases ht.rr s hs with⟨h1,h2,h3,h4⟩ | ⟨h1,h2,h3,h4,h5⟩
   ·have hne:(r:Int)≠(s:Int):=fun e=>by
     have:=h4 h hh
     rw[←e,hr] at this;cases this
    refine .inl ⟨h1,h2,by show _<t.V+1;omega,fun k hk2=>?_⟩
    by_cases e1:k<t.hs.length
    ·rw[hinR _ _ e1];exact h4 k e1
    ·by_cases e2:k=t.hs.length
     ·rw[e2,ha];exact aQ hne
     ·have e3:k=t.hs.length+1:=by omega
      rw[e3,hb];exact aQ hne
   ·obtain⟨k,hk2⟩:∃k:Nat,(rG t.rs s).h=(k:Int):=⟨(rG t.rs s).h.toNat,by omega⟩
    have hkl:k<t.hs.length:=by omega
    refine .inr ⟨h1,by omega,?_,h4,?_⟩
    ·rw[hk2] at h3 ⊢;rw[lK hk hh hkl];exact h3
    ·by_cases e:s=r
     ·subst e;exact YS hk hh hr h5
     ·refine h5.ext ?_ ?_
      ·intro y hy hyp
       rw[Ep hk hh hy,aA]
       intro e2
       subst e2
       have h6:=hk.rg hp
       rw[hk.np hh,hr'] at h6
       have h7:=cH hyp
       omega
      ·intro y
       constructor
       ·rintro ⟨h6,h7⟩
        by_cases e1:y<t.hs.length
        ·rw[hinR _ _ e1] at h7;exact⟨e1,h7⟩
        ·by_cases e2:y=t.hs.length
         ·rw[e2,ha] at h7;have:=cH h7;omega
         ·have e3:y=t.hs.length+1:=by omega
          rw[e3,hb] at h7;have:=cH h7;omega
       ·rintro ⟨h6,h7⟩
        exact⟨by omega,by rw[hinR _ _ h6];exact h7⟩
  fc:=ht.fc
  vv:=fun v hv=>by
   have hv':v<(t.V+1).toNat:=hv
   rw[hl,hRe]
   by_cases ev:v<t.V.toNat
   ·rcases ht.vv v ev with⟨h1,h2⟩ | ⟨h1,h2⟩
    ·refine .inl ⟨h1,fun k hk2=>?_⟩
     by_cases e1:k<t.hs.length
     ·rw[hvof _ _ e1];exact h2 k e1
     ·by_cases e2:k=t.hs.length
      ·rw[e2,va]
       have:=h2 h hh
       exact this
      ·have e3:k=t.hs.length+1:=by omega
       rw[e3,vb];exact aQ (by omega)
    ·refine .inr ⟨h1,?_⟩
     by_cases e:(hG t.hs h).f=(v:Int)
     ·refine h2.ins (x:=h) (a:=t.hs.length) hh (aM e) (gU _) (by rw[sgl h hh,aC rfl]) sga ?_ ?_
      ·intro y hy _ hne;rw[sgl y hy,aA fun e2=>hne e2.symm]
      ·intro y
       constructor
       ·rintro ⟨h6,h7⟩
        by_cases e1:y<t.hs.length
        ·rw[hvof _ _ e1] at h7;exact .inl ⟨e1,h7⟩
        ·by_cases e2:y=t.hs.length
         ·exact .inr e2
         ·have e3:y=t.hs.length+1:=by omega
          rw[e3,vb] at h7;have:=cH h7;omega
       ·rintro (⟨h6,h7⟩ | h6)
        ·exact⟨by omega,by rw[hvof _ _ h6];exact h7⟩
        ·exact⟨by omega,by rw[h6,va];exact aM e⟩
     ·refine h2.ext ?_ ?_
      ·intro y hy hyp
       rw[sgl y hy,aA]
       intro e2;subst e2;exact e (cH hyp)
      ·intro y
       constructor
       ·rintro ⟨h6,h7⟩
        by_cases e1:y<t.hs.length
        ·rw[hvof _ _ e1] at h7;exact⟨e1,h7⟩
        ·by_cases e2:y=t.hs.length
         ·rw[e2,va] at h7;exact absurd (cH h7) e
         ·have e3:y=t.hs.length+1:=by omega
          rw[e3,vb] at h7;have:=cH h7;omega
       ·rintro ⟨h6,h7⟩
        exact⟨by omega,by rw[hvof _ _ h6];exact h7⟩
   ·have ev2:(v:Int)=t.V:=by omega
    refine .inr ⟨fun s hs=>?_,bx.one sgb fun y=>?_⟩
    ·unfold CM
     cases h1:decide ((rG t.rs s).h=-1) with
     | false=>show (decide ((rG (gD t r h).rs s).h=-1)&&_)=false;rw[hRe,h1];rfl
     | true=>
      have h1':=cH h1
      rcases ht.rr s hs with⟨_,h2,h3,_⟩ | ⟨h2,_⟩
      ·show (decide ((rG (gD t r h).rs s).h=-1)&&decide ((rG (gD t r h).rs s).v=v))=false
       rw[hRe,h1]
       have:decide ((rG t.rs s).v=(v:Int))=false:=aQ (by omega)
       rw[this];rfl
      ·omega
    ·constructor
     ·rintro ⟨h6,h7⟩
      by_cases e1:y<t.hs.length
      ·rw[hvof _ _ e1] at h7
       have:=cH h7
       obtain⟨⟨_,h8⟩,_⟩:=iJ.1 (ht.b1 y e1)
       omega
      ·by_cases e2:y=t.hs.length
       ·rw[e2,va] at h7;have:=cH h7;omega
       ·omega
     ·intro e;subst e
      exact⟨by omega,by rw[vb];exact aM ev2.symm⟩ }
def wY(t:Tp)(e:Int):Int×Int×List T×List T×Int×Unit:=(t.V,t.F,t.hs.map tH,t.rs.map tR,e,())
theorem aY{l:List Hf}{a b j:Nat}(ha:a<l.length)(hb:b<l.length):hG (lk l a b) j=⟨(hG l j).f,if a=j then (b:Int) else (hG l j).n,if b=j then (a:Int) else (hG l j).p,(hG l j).r⟩:=by
 unfold lk
 rw[VR (by simpa using hb),VQ ha]
 by_cases e1:b=j
 ·by_cases e2:a=j
  ·simp only[aC e1,aC e2]
  ·simp only[aC e1,aA e2]
 ·by_cases e2:a=j
  ·simp only[aA e1,aC e2]
  ·simp only[aA e1,aA e2]
theorem QP{s t:Tp}(hV:s.V=t.V)(hF:s.F=t.F)(hh:s.hs=t.hs)(hl:s.rs.length=t.rs.length)(h:∀i,i<t.rs.length→KV s i=KV t i):lz s=lz t:=by
 have hr:(lz s).rs=(lz t).rs:=by
  refine L7 (by rw[kT,kT,hl]) fun j hj=>?_
  rw[kT] at hj
  rw[uT s hj,uT t (by omega),h j (by omega)]
 have e1:lz s=⟨s.V,s.F,s.hs,(lz s).rs⟩:=rfl
 have e2:lz t=⟨t.V,t.F,t.hs,(lz t).rs⟩:=rfl
 rw[e1,e2,hV,hF,hh,hr]
theorem Xb{h:Int}:decide (h=-1)=true↔h=-1:=decide_eq_true_iff
theorem bD{t:Tp}(h:CKP t):eO (t.V,t.F,t.hs.map tH,t.rs.map tR,())=some (true,()):=by
 have:=QN t;rw[HC.2 h] at this;exact this
theorem bE{t:Tp}(h:CKP t):bW (t.V,t.F,t.hs.map tH,t.rs.map tR,())=some (true,()):=by
 have:=J5 t;rw[HC.2 h] at this;exact this
theorem mM{t:Tp}(h:Sz t):dN (t.V,t.F,t.hs.map tH,t.rs.map tR,())=some (t.V,t.F,t.hs.map tH,t.rs.map tR,()):=Tt (by have:=h.n;omega) (by have:=h.R;omega)
theorem DW{t:Tp}(ht:Sz t):dD (t.V,t.F,t.hs.map tH,t.rs.map tR,(2:Int),(1:Int),(0:Int),(0:Int),())=some (gQ t 2 1 0 0,()):=FZ ht (by decide) (by decide) (by decide) (by decide)
theorem xM{V F:Int}{hs:List Hf}{rs:List Rg}(hn:hs.length≤1000){x r:Nat}{m:List Nat}(hc:bz (nx ⟨V,F,hs,rs⟩) x m)(hb:∀y∈x::m,y<hs.length)(hi:∀y∈x::m,(hG hs y).n=(nx ⟨V,F,hs,rs⟩ y:Int))(hr:r<rs.length):
 cI (V,F,hs.map tH,rs.map tR,(x:Int),(r:Int),())=some ((lJ ⟨V,F,hs,rs⟩ x m r).hs.map tH,(lJ ⟨V,F,hs,rs⟩ x m r).rs.map tR,()):=Ls (t:=⟨V,F,hs,rs⟩) hn hc hb hi hr
theorem F3{V F:Int}{hs:List Hf}{rs:List Rg}(hn:hs.length≤1000)(hR:rs.length≤1000):cJ (V,F,hs.map tH,rs.map tR,())=some (oF (lz ⟨V,F,hs,rs⟩)):=Eo (t:=⟨V,F,hs,rs⟩) hn hR
def ZE(t:Tp)(x:Int):List Hf:=t.hs++[Hf.mk x 0 0 0,Hf.mk t.V 0 0 0]
def TH(t:Tp)(h:Nat):List Hf:=lk (lk (lk (ZE t (hG t.hs h).f) t.hs.length (t.hs.length+1)) (pv t h) t.hs.length) (t.hs.length+1) h
theorem Es(t:Tp)(x:Int):(ZE t x).length=t.hs.length+2:=by simp[ZE]
theorem Qe(t:Tp)(h:Nat):(TH t h).length=t.hs.length+2:=by simp[TH,ZE]
theorem VS{t:Tp}(ht:Hok t)(r:Nat){h:Nat}(hh:h<t.hs.length){y:Nat}(hy:y<t.hs.length+2):hG (TH t h) y={ hG (gD t r h).hs y with r:=if y<t.hs.length then (hG t.hs y).r else 0 }:=by
 have hp:=ht.aj hh
 have hl:(ZE t (hG t.hs h).f).length=t.hs.length+2:=Es _ _
 unfold TH
 rw[aY (by simp only[aF,hl];omega) (by simp only[aF,hl];omega),aY (by simp only[aF,hl];omega) (by simp only[aF,hl];omega),aY (by omega) (by omega)]
 by_cases e1:y<t.hs.length
 ·have hg:hG (ZE t (hG t.hs h).f) y=hG t.hs y:=fQ e1
  rw[lK ht hh e1,hg]
  simp only[aC e1,aA (show ¬t.hs.length+1=y by omega),aA (show ¬t.hs.length=y by omega)]
 ·by_cases e2:y=t.hs.length
  ·subst e2
   have hg:hG (ZE t (hG t.hs h).f) (t.hs.length:Nat)=⟨(hG t.hs h).f,0,0,0⟩:=oH
   rw[rQ ht hh,hg]
   simp only[aA e1,aA (show ¬t.hs.length+1=t.hs.length by omega),aA (show ¬pv t h=t.hs.length by omega),aA (show ¬h=t.hs.length by omega),eP]
  ·have e3:y=t.hs.length+1:=by omega
   subst e3
   have hg:hG (ZE t (hG t.hs h).f) ((t.hs.length+1:Nat):Int)=⟨t.V,0,0,0⟩:=oJ
   rw[wG ht hh,hg]
   simp only[aA e1,aA (show ¬t.hs.length=t.hs.length+1 by omega),aA (show ¬pv t h=t.hs.length+1 by omega),aA (show ¬h=t.hs.length+1 by omega),eP]
theorem I4{t:Tp}(ht:CKP t){r:Nat}(hr:r<t.rs.length){h:Nat}(hh:h<t.hs.length)(cj:eK t r h=true):0≤(rG t.rs r).h∧(rG t.rs r).h<t.hs.length∧(hG t.hs (rG t.rs r).h).r=r∧(rG t.rs r).v=-1∧bx (nx t) t.hs.length (eK t r):=by
 rcases ht.rr r hr with⟨_,_,_,h4⟩ | h
 ·rw[h4 h hh] at cj;cases cj
 ·exact h
theorem Lz{t:Tp}(ht:CKP t){r h:Nat}(hr:r<t.rs.length)(hh:h<t.hs.length)(cj:eK t r h=true)(hn:t.hs.length+2≤256)(hV:t.V+1≤257):
 gS (t.V,t.F,t.hs.map tH,t.rs.map tR,(r:Int),(h:Int),())=some (wY (lz (gD t r h)) 0):=by
 have hk:=ht.toHok
 have hz:=hk.toSz
 have hV0:=ht.V0
 have hF0:=ht.F0
 have hF1:=ht.F1
 have hR:=ht.R
 have hp:=hk.aj hh
 obtain⟨c1,c2,c3,c4,ho⟩:=I4 ht hr hh cj
 have hro:gQ t 2 1 0 0=true:=by
  unfold gQ
  simp only[cM,cK]
  omega
 have hi1:rJ (r:Int) (t.rs.length:Int)=true:=bR.2 ⟨by omega,by omega⟩
 have hi2:rJ (h:Int) (t.hs.length:Int)=true:=bR.2 ⟨by omega,by omega⟩
 have d1:decide ((h:Int)=-1)=false:=aQ (by omega)
 have d2:decide ((rG t.rs r).h=-1)=false:=aQ (by omega)
 have d3:decide ((hG t.hs h).r=(r:Int))=true:=cj
 have hwV:wr .i64 (t.V+1)=t.V+1:=gN (by omega) (by omega)
 have hl1:=Es t (hG t.hs h).f
 have hl4:=Qe t h
 obtain⟨m,hm,cm⟩:=(YS hk hh cj ho).at (a:=t.hs.length) (by omega) (by unfold eK;rw[rQ hk hh];exact aM rfl)
 have hnx:∀y,y<t.hs.length+2→nx ⟨t.V+1,t.F,TH t h,t.rs⟩ y=nx (gD t r h) y:=fun y hy=>by
  unfold nx;simp only[];rw[VS hk r hh hy]
 have hc4:bz (nx ⟨t.V+1,t.F,TH t h,t.rs⟩) t.hs.length m:=hm.ext fun y hy=>(hnx y ((cm y).1 hy).1).symm
 have hb4:∀y∈t.hs.length::m,y<(TH t h).length:=fun y hy=>by rw[hl4];exact((cm y).1 hy).1
 have hmk:=YT hk hh cj hr hn hV
 have hi4:∀y∈t.hs.length::m,(hG (TH t h) y).n=(nx ⟨t.V+1,t.F,TH t h,t.rs⟩ y:Int):=fun y hy=>by
  have hyl:=((cm y).1 hy).1
  rw[hnx y hyl,VS hk r hh hyl]
  exact hmk.bd (by rw[wF];exact hyl)
 have hset:=xM (V:=t.V+1) (F:=t.F) (rs:=t.rs) (by omega) hc4 hb4 hi4 hr
 have hfin:lz (lJ ⟨t.V+1,t.F,TH t h,t.rs⟩ t.hs.length m r)=lz (gD t r h):=by
  have hse:(lJ ⟨t.V+1,t.F,TH t h,t.rs⟩ t.hs.length m r).hs=(gD t r h).hs:=by
   refine uS ?_ fun j hj=>?_
   ·show (ar _ _ _).length=_
    rw[cF,hl4,wF]
   ·have hj':j<t.hs.length+2:=by
     have:(lJ ⟨t.V+1,t.F,TH t h,t.rs⟩ t.hs.length m r).hs.length=t.hs.length+2:=by show (ar _ _ _).length=_;rw[cF,hl4]
     omega
    show hG (ar _ _ _) j=_
    rw[dX _ _ _ _ hb4,VS hk r hh hj']
    by_cases e1:j∈t.hs.length::m
    ·rw[aC e1]
     have h5:=cH ((cm j).1 e1).2
     generalize hG (gD t r h).hs j=z at h5
     cases z;simp only[] at h5 ⊢;rw[h5]
    ·rw[aA e1]
     have e2:j<t.hs.length:=by
      by_cases e3:j<t.hs.length
      ·exact e3
      ·exfalso;apply e1
       refine(cm j).2 ⟨hj',?_⟩
       by_cases e4:j=t.hs.length
       ·subst e4;unfold eK;rw[rQ hk hh];exact aM rfl
       ·have e5:j=t.hs.length+1:=by omega
        subst e5;unfold eK;rw[wG hk hh];exact aM rfl
     simp only[aC e2]
     rw[lK hk hh e2]
  have hsr:(lJ ⟨t.V+1,t.F,TH t h,t.rs⟩ t.hs.length m r).rs=t.rs.set r { rG t.rs r with h:=((t.hs.length:Nat):Int),v:=-1 }:=rfl
  refine QP rfl rfl hse (by rw[hsr,cW];rfl) fun i hi=>?_
  have hil:i<t.rs.length:=hi
  have hP:eK (lJ ⟨t.V+1,t.F,TH t h,t.rs⟩ t.hs.length m r) (i:Int)=eK (gD t r h) (i:Int):=by funext k;unfold eK;rw[hse]
  have hm1:0<av (eK (gD t r h) (r:Int)) (gD t r h).hs.length:=pF.2 ⟨t.hs.length,by rw[wF];omega,by unfold eK;rw[rQ hk hh];exact aM rfl⟩
  unfold KV
  rw[hP,hse,hsr,iD hr]
  have hrs:(gD t r h).rs=t.rs:=rfl
  rw[hrs]
  by_cases e:r=i
  ·subst e
   rw[aC rfl]
   have d4:decide (((t.hs.length:Nat):Int)=-1)=false:=aQ (by omega)
   simp only[d4,d2,bV]
   unfold YP
   simp only[aC hm1,c4]
  ·simp only[aA e]
 unfold gS
 have hL1:t.hs++[Hf.mk (hG t.hs h).f 0 0 0,Hf.mk t.V 0 0 0]=ZE t (hG t.hs h).f:=rfl
 have hk1:=xL (V:=t.V+1) (F:=t.F) (rs:=t.rs.map tR) (hs:=ZE t (hG t.hs h).f) (a:=t.hs.length) (b:=t.hs.length+1) (by omega) (by omega)
 have hg2:hG (lk (ZE t (hG t.hs h).f) t.hs.length (t.hs.length+1)) h=hG t.hs h:=by
  rw[aY (by omega) (by omega),aA (by omega),aA (by omega)]
  have:hG (ZE t (hG t.hs h).f) h=hG t.hs h:=fQ hh
  rw[this]
 have hk2:=xL (V:=t.V+1) (F:=t.F) (rs:=t.rs.map tR) (hs:=lk (ZE t (hG t.hs h).f) t.hs.length (t.hs.length+1)) (a:=pv t h) (b:=t.hs.length) (by simp only[aF];omega) (by simp only[aF];omega)
 have hk3:=xL (V:=t.V+1) (F:=t.F) (rs:=t.rs.map tR) (hs:=lk (lk (ZE t (hG t.hs h).f) t.hs.length (t.hs.length+1)) (pv t h) t.hs.length) (a:=t.hs.length+1) (b:=h) (by simp only[aF];omega) (by simp only[aF];omega)
 have hL4:lk (lk (lk (ZE t (hG t.hs h).f) t.hs.length (t.hs.length+1)) (pv t h) t.hs.length) (t.hs.length+1) h=TH t h:=rfl
 simp only[zS,bD ht,mM hz,DW hz,hro,fP,bC,bL,hi1,hi2,d1,d2,d3,hJ (l:=t.rs) (i:=(r:Int)) (by omega) (by omega),dW (l:=t.hs) (i:=(h:Int)) (by omega) (by omega),y0,FU,jK,sX,PL,Aa,aG (n:=(t.rs.length:Int)) (i:=r) (by omega),aG (n:=(t.hs.length:Int)) (i:=h) (by omega),aU,sO hr,gI hh,aW,aO,hwV,FX (hs:=t.hs) (by omega),hL1,hk1,aF,hl1,aG (n:=((t.hs.length+2:Nat):Int)) (i:=h) (by omega),gI (l:=lk (ZE t (hG t.hs h).f) t.hs.length (t.hs.length+1)) (k:=h) (by simp only[aF];omega),hg2,mK,hk.bo hh,hk2,hk3,hL4,hset]
 have hls:=F3 (V:=t.V+1) (F:=t.F) (hs:=(lJ ⟨t.V+1,t.F,TH t h,t.rs⟩ t.hs.length m r).hs) (rs:=(lJ ⟨t.V+1,t.F,TH t h,t.rs⟩ t.hs.length m r).rs) (by show (ar (TH t h) _ _).length≤_;rw[cF];omega) (by show (t.rs.set _ _).length≤_;rw[cW];omega)
 rw[hls]
 simp only[fI]
 have hfin':lz ⟨t.V+1,t.F,(lJ ⟨t.V+1,t.F,TH t h,t.rs⟩ t.hs.length m r).hs,(lJ ⟨t.V+1,t.F,TH t h,t.rs⟩ t.hs.length m r).rs⟩=lz (gD t r h):=hfin
 rw[hfin']
 rfl
theorem QQ{R:Type}(a:Option R):PV a a=a:=by unfold PV;rw[aC rfl]
theorem Ma{hs:List Hf}(hn:hs.length≤1000):dZ (hs.map tH,())=some (hs.map tH,()):=by
 have hr:qH [] (hs.map tH) 32=some (hs.map tH):=by rw[rV (by simp only[cS,xC];omega) (by decide)];rfl
 unfold dZ
 simp only[hr,fI]
 cases h:RN (hs.map tH) with
 | false=>rfl
 | true=>
  have:hs.map tH=[]:=by unfold RN at h;exact K7.1 h
  rw[this]
  simp only[bF,QQ]
theorem Mb{rs:List Rg}(hn:rs.length≤1000):eC (rs.map tR,())=some (rs.map tR,()):=by
 have hr:qH [] (rs.map tR) 24=some (rs.map tR):=by rw[rV (by simp only[cS,xC];omega) (by decide)];rfl
 unfold eC
 simp only[hr,fI]
 cases h:RN (rs.map tR) with
 | false=>rfl
 | true=>
  have:rs.map tR=[]:=by unfold RN at h;exact K7.1 h
  rw[this]
  simp only[bF,QQ]
theorem oZ{t:Tp}(h:Sz t):cQ (t.V,t.F,t.hs.map tH,t.rs.map tR,())=some (t.V,t.F,t.hs.map tH,t.rs.map tR,()):=by
 have h1:=h.n
 have h2:=h.R
 unfold cQ wS
 simp only[Ma (hs:=t.hs) (by omega),Mb (rs:=t.rs) (by omega),fI]
theorem F4{V F:Int}{hs:List Hf}{rs:List T}{x y r s:Int}(hn:hs.length≤1000):
 bJ ((),x,y,r,s,V,F,hs.map tH,rs,())=some ((hs.length:Int),((hs.length+1:Nat):Int),V,F,(hs++[Hf.mk x 0 0 r,Hf.mk y 0 0 s]).map tH,rs,()):=by
 have hr:qH (hs.map tH) [tH (Hf.mk x 0 0 r),tH (Hf.mk y 0 0 s)] 32=some ((hs++[Hf.mk x 0 0 r,Hf.mk y 0 0 s]).map tH):=by
  rw[rV (by simp only[cS,oB,xC];omega) (by decide),EM];rfl
 unfold bJ
 simp only[bL,aO,wk (k:=hs.length) (by omega)]
 have e:([T.agg [T.v (Value.int .i64 x),T.v (Value.int .i64 0),T.v (Value.int .i64 0),T.v (Value.int .i64 r)],T.agg [T.v (Value.int .i64 y),T.v (Value.int .i64 0),T.v (Value.int .i64 0),T.v (Value.int .i64 s)]]:List T)=[tH (Hf.mk x 0 0 r),tH (Hf.mk y 0 0 s)]:=rfl
 rw[e,hr]
 rfl
theorem xN{V F:Int}{hs:List Hf}{rs:List T}{a b:Nat}(ha:a<hs.length)(hb:b<hs.length):
 aB ((),(a:Int),(b:Int),V,F,hs.map tH,rs,())=some (V,F,(lk hs a b).map tH,rs,()):=by
 unfold aB
 simp only[bL,aG (n:=(hs.length:Int)) (i:=a) (by omega),fI,aU,gI ha,bS,YM,CG,cW,aG (n:=(hs.length:Int)) (i:=b) (by omega)]
 have hg:((hs.set a { hG hs a with n:=(b:Int) }).map tH)[b]?=some (tH (hG (sN hs a b) b)):=gI (by simpa using hb)
 simp only[hg,fI,YN,CG]
 rfl
theorem F5{t:Tp}(ht:Sz t){a b c d:Nat}(ha:a≤2)(hb:b≤2)(hc:c≤2)(hd:d≤2):bT (t.V,t.F,t.hs.map tH,t.rs.map tR,(a:Int),(b:Int),(c:Int),(d:Int),())=some (gQ t a b d c,()):=by
 have h1:=ht.n
 have h2:=ht.V0
 have h3:=ht.V1
 have h4:=ht.F0
 have h5:=ht.F1
 have h6:=ht.R
 unfold bT gQ
 simp only[bL,bC,aO,gH,gN (n:=(t.hs.length:Int)+a) (by omega) (by omega),gN (n:=t.V+b) (by omega) (by omega),gN (n:=t.F+d) (by omega) (by omega),gN (n:=(t.rs.length:Int)+c) (by omega) (by omega)]
 cases decide ((t.hs.length:Int)+a≤256) <;> cases decide (t.V+b≤257) <;> cases decide (t.F+d≤257) <;> cases decide ((t.rs.length:Int)+c≤257) <;> rfl
theorem cE(V F:Int)(hs:List Hf)(rs:List T)(h:Int):eD (V,F,hs.map tH,rs,h,())=some (rJ h hs.length,()):=by
 unfold eD;simp only[bL,bM,fI]
theorem aX(e:Int):aE (e,())=some (0,0,[],[],e,()):=rfl
def rR(x:Nat)(m:List Nat)(k:Nat):Nat:=(x::m).getD k 0
theorem F6{x:Nat}{m:List Nat}{k:Nat}(h:k<(x::m).length):(x::m)[k]=rR x m k:=by
 unfold rR;rw[jY,dG h];rfl
theorem lS{x:Nat}{m:List Nat}{k:Nat}(h:k<(x::m).length):rR x m k∈x::m:=by rw[←F6 h];exact OJ h
def A0(V F:Int)(hs:List Hf)(rs:List T)(last:Nat)(r:Int)(x:Nat)(m:List Nat)(k:Nat):Unit×Int×Int×Int×Int×Int×List T×List T×Unit:=((),(last:Int),r,(rR x m k:Int),V,F,(ar hs ((x::m).take k) r).map tH,rs,())
theorem Cj(xs:List Nat)(r:Int)(l:List Hf)(j:Nat)(h:∀x∈xs,x<l.length):(hG (ar l xs r) j).n=(hG l j).n:=by
 rw[dX xs r l j h]
 by_cases e:j∈xs
 ·rw[aC e]
 ·rw[aA e]
theorem F7{V F:Int}{hs:List Hf}{rs:List T}{r:Int}{x:Nat}{m:List Nat}(hn:(x::m).Nodup)(hb:∀y∈x::m,y<hs.length)(hch:∀k,k<m.length→(hG hs (rR x m k:Nat)).n=(rR x m (k+1):Nat)){last:Nat}(hlast:last=rR x m m.length):
 aR ((),(x:Int),(last:Int),r,V,F,hs.map tH,rs,())=some (V,F,(ar hs (x::m) r).map tH,rs,()):=by
 have hstep:∀k,k<(x::m).length→(x::m).take (k+1)=(x::m).take k++[rR x m k]:=fun k hk=>by
  rw[UE hk,F6 hk]
 have hset:∀k,k<(x::m).length→ar hs ((x::m).take (k+1)) r=sR (ar hs ((x::m).take k) r) (rR x m k) r:=fun k hk=>by
  rw[hstep k hk];unfold ar;rw[List.foldl_append];rfl
 have hinj:∀k,k<m.length→rR x m k≠rR x m m.length:=fun k hk e=>by
  have h1:=F6 (x:=x) (m:=m) (k:=k) (by simp;omega)
  have h2:=F6 (x:=x) (m:=m) (k:=m.length) (by simp)
  have h3:(x::m)[k]?=some (rR x m k):=by rw[dG (by simp;omega),h1]
  have h4:(x::m)[m.length]?=some (rR x m k):=by rw[dG (by simp),h2,e]
  have:=G2 hn h3 h4
  omega
 have htake:∀k,∀y∈(x::m).take k,y<hs.length:=fun k y hy=>hb y (IE hy)
 have hl:=bN (F:=fU) m.length (A0 V F hs rs last r x m) (fun k hk=>by
  have hkl:k<(x::m).length:=by simp;omega
  have hy:=hb _ (lS hkl)
  have hne:=hinj k hk
  have hd:decide (((rR x m k:Nat):Int)=(last:Int))=false:=aQ (by rw[hlast];omega)
  have hnx:(hG (sR (ar hs ((x::m).take k) r) (rR x m k) r) (rR x m k:Nat)).n=(rR x m (k+1):Nat):=by
   rw[←hset k hkl,Cj _ _ _ _ (htake _),hch k hk]
  unfold fU A0
  rw[hset k hkl]
  have hl2:(ar hs ((x::m).take k) r).length=hs.length:=cF _ _ _
  generalize ar hs ((x::m).take k) r=L at *
  have hg1:(L.map tH)[rR x m k]?=some (tH (hG L (rR x m k:Nat))):=gI (by omega)
  have hsr:L.set (rR x m k) { hG L (rR x m k:Nat) with r:=r }=sR L (rR x m k) r:=rfl
  have hg2:((sR L (rR x m k) r).map tH)[rR x m k]?=some (tH (hG (sR L (rR x m k) r) (rR x m k:Nat))):=gI (by rw[VP];omega)
  simp only[zS,bL,hl2,aG (n:=(hs.length:Int)) (i:=rR x m k) (by omega),aU,hg1,hd,bS,Hy,CG,hsr,VP,hg2,mZ,hnx])
 have ho:fU (A0 V F hs rs last r x m m.length)=some (.inr (.inl (V,F,(ar hs (x::m) r).map tH,rs,()))):=by
  have hkl:m.length<(x::m).length:=by simp
  have hy:=hb _ (lS hkl)
  have hd:decide (((rR x m m.length:Nat):Int)=(last:Int))=true:=aM (by rw[hlast])
  have hfull:ar hs (x::m) r=sR (ar hs ((x::m).take m.length) r) (rR x m m.length) r:=by
   rw[←hset m.length hkl,IF (by simp)]
  unfold fU A0
  rw[hfull]
  have hl2:(ar hs ((x::m).take m.length) r).length=hs.length:=cF _ _ _
  generalize ar hs ((x::m).take m.length) r=L at *
  have hg1:(L.map tH)[rR x m m.length]?=some (tH (hG L (rR x m m.length:Nat))):=gI (by omega)
  simp only[bL,hl2,aG (n:=(hs.length:Int)) (i:=rR x m m.length) (by omega),fI,aU,hg1,uR,hd,bF,bS,Hy,CG]
  rfl
 have e0:((),(last:Int),r,(x:Int),V,F,hs.map tH,rs,())=A0 V F hs rs last r x m 0:=rfl
 unfold aR
 simp only[]
 rw[e0,hl,bA ho]
 rfl
def Ia(t:Tp)(i:Nat):Rg:=bif decide ((rG t.rs i).v<0) then { rG t.rs i with h:=-1 } else rG t.rs i
def Ib(t:Tp):Nat→List Rg
 | 0=>t.rs
 | r+1=>(Ib t r).set r (Ia t r)
theorem HD(t:Tp)(r:Nat):(Ib t r).length=t.rs.length:=by
 induction r with
 | zero=>rfl
 | succ r ih=>simp[Ib,ih]
theorem VT(t:Tp){r:Nat}(hr:r≤t.rs.length)(i:Nat):rG (Ib t r) i=if i<r then Ia t i else rG t.rs i:=by
 induction r with
 | zero=>simp[Ib]
 | succ r ih=>
  simp only[Ib]
  rw[iD (by rw[HD];omega),ih (by omega)]
  by_cases e:r=i
  ·subst e;rw[aC rfl,aC (by omega)]
  ·rw[aA e]
   by_cases e2:i<r
   ·rw[aC e2,aC (by omega)]
   ·rw[aA e2,aA (by omega)]
def Ck(t:Tp)(k i:Nat):Rg:=bif decide ((Ia t i).h<0)&&decide (0<av (eK t i) k) then { Ia t i with h:=fi (eK t i) k } else Ia t i
def VU(t:Tp)(k:Nat):List Rg:=(List.range t.rs.length).map (Ck t k)
theorem tA(t:Tp)(k:Nat):(VU t k).length=t.rs.length:=by simp[VU]
theorem DX(t:Tp)(k:Nat){i:Nat}(h:i<t.rs.length):rG (VU t k) i=Ck t k i:=by
 unfold rG VU;rw[nR,jY];simp[h]
def dn(t:Tp):Tp:={ t with rs:=VU t t.hs.length }
theorem Mc{t:Tp}{k r:Nat}(hr:r<t.rs.length)(hk:(hG t.hs k).r=(r:Int))(hh:¬(Ck t k r).h<0):VU t (k+1)=VU t k:=by
 refine L7 (by rw[tA,tA]) fun i hi=>?_
 rw[tA] at hi
 rw[DX t _ hi,DX t _ hi]
 by_cases e:i=r
 ·subst e
  have hp:eK t i k=true:=aM hk
  unfold Ck at hh ⊢
  by_cases h0:(Ia t i).h<0
  ·rw[aM h0,fM] at hh ⊢
   have hc:0<av (eK t i) k:=by
    by_cases h1:0<av (eK t i) k
    ·exact h1
    ·rw[aQ h1,bV] at hh;exact absurd h0 hh
   obtain⟨j,hj1,hj2,hj3⟩:=DU hc
   have hc2:0<av (eK t i) (k+1):=by simp only[av];omega
   rw[aM hc,aM hc2,fM,bF,bF]
   have hfi:fi (eK t i) (k+1)=fi (eK t i) k:=by
    simp only[fi,hp,bF,hj2]
    rw[aQ (by omega:¬((j:Int)<0)),bV]
   rw[hfi]
  ·rw[aQ h0,MR,MR];rfl
 ·have hp:eK t i k=false:=aQ (by rw[hk];omega)
  unfold Ck
  have e1:av (eK t i) (k+1)=av (eK t i) k:=by simp only[av,hp,pB,iK,rS]
  have e2:fi (eK t i) (k+1)=fi (eK t i) k:=by simp only[fi,hp,bV]
  rw[e1,e2]
theorem Qf{t:Tp}{k r:Nat}(hr:r<t.rs.length)(hk:(hG t.hs k).r=(r:Int))(hh:(Ck t k r).h<0):VU t (k+1)=(VU t k).set r { Ck t k r with h:=(k:Int) }:=by
 refine L7 (by rw[cW,tA,tA]) fun i hi=>?_
 rw[tA] at hi
 rw[iD (by rw[tA];exact hr),DX t _ hi,DX t _ hi]
 by_cases e:r=i
 ·subst e
  rw[aC rfl]
  have hp:eK t r k=true:=aM hk
  unfold Ck at hh ⊢
  have hcz:¬0<av (eK t r) k∨¬(Ia t r).h<0:=by
   by_cases h1:0<av (eK t r) k
   ·by_cases h2:(Ia t r).h<0
    ·obtain⟨j,hj1,hj2,hj3⟩:=DU h1
     rw[aM h1,aM h2,fM,bF] at hh
     simp only[hj2] at hh;omega
    ·exact .inr h2
   ·exact .inl h1
  have h2:(Ia t r).h<0:=by
   rcases hcz with h | h
   ·rw[aQ h,OX,bV] at hh;exact hh
   ·rw[aQ h,MR,bV] at hh;exact absurd hh h
  have h1:¬0<av (eK t r) k:=by
   rcases hcz with h | h
   ·exact h
   ·exact absurd h2 h
  have hc2:0<av (eK t r) (k+1):=by simp only[av,hp,eP];omega
  rw[aM h2,aM hc2,aQ h1,fM,fM,bF,bV]
  have hfi:fi (eK t r) (k+1)=(k:Int):=YQ (by omega) hp fun j hj=>sM.1 (by omega) j hj
  rw[hfi]
 ·rw[aA e]
  have hp:eK t i k=false:=aQ (by rw[hk];omega)
  unfold Ck
  have e1:av (eK t i) (k+1)=av (eK t i) k:=by simp only[av,hp,pB,iK,rS]
  have e2:fi (eK t i) (k+1)=fi (eK t i) k:=by simp only[fi,hp,bV]
  rw[e1,e2]
def B0(t:Tp)(r:Nat):Unit×Unit×Int×Int×Int×Int×List T×List T×Int×Int×T×T×Unit:=((),(),(t.rs.length:Int),(r:Int),t.V,t.F,t.hs.map tH,(Ib t r).map tR,0,0,T.v (.slice none 0 0),T.v (.slice none 0 0),())
def B2(t:Tp)(k:Nat):Unit×Unit×List T×Int×Int×Int×Int×List T×List T×Int×Int×T×T×Unit:=((),(),t.hs.map tH,(t.hs.length:Int),(k:Int),t.V,t.F,t.hs.map tH,(VU t k).map tR,0,0,T.v (.slice none 0 0),T.v (.slice none 0 0),())
theorem Md{t:Tp}(hn:t.hs.length≤1000)(hR:t.rs.length≤1000)(hr:∀k,k<t.hs.length→0≤(hG t.hs k).r∧(hG t.hs k).r<t.rs.length):
 aN ((),t.V,t.F,t.hs.map tH,t.rs.map tR,())=some (t.V,t.F,t.hs.map tH,(dn t).rs.map tR,0,t.V,t.F,t.hs.map tH,(dn t).rs.map tR,()):=by
 have l0:=bN (F:=gJ) t.rs.length (B0 t) (fun r hr2=>by
  have hlt:decide ((r:Int)<(t.rs.length:Int))=true:=aM (by omega)
  have hg:((Ib t r).map tR)[r]?=some (tR (rG t.rs r)):=by
   rw[sO (by rw[HD];omega),VT t (by omega),aA (by omega)]
  have hl:(Ib t r).length=t.rs.length:=HD _ _
  have hB:B0 t (r+1)=((),(),(t.rs.length:Int),((r+1:Nat):Int),t.V,t.F,t.hs.map tH,((Ib t r).set r (Ia t r)).map tR,0,0,T.v (.slice none 0 0),T.v (.slice none 0 0),()):=rfl
  rw[hB]
  unfold gJ B0 Ia
  simp only[aK,hlt,bF,bC,hl,aG (n:=(t.rs.length:Int)) (i:=r) (by omega),fI,aU,hg,FU,jX]
  cases decide ((rG t.rs r).v<0) with
  | true=>simp only[bF,fI,bS,NO,wX,aW,aO,wk (k:=r) (by omega)]
  | false=>
   have hsame:(Ib t r).set r (rG t.rs r)=Ib t r:=by
    refine kQ ?_
    rw[wD _ _ (by rw[HD];omega),VT t (by omega),aA (by omega)]
   simp only[bV,fI,aW,aO,wk (k:=r) (by omega),hsame])
 have hd0:Ib t t.rs.length=VU t 0:=by
  refine L7 (by rw[HD,tA]) fun i hi=>?_
  rw[HD] at hi
  rw[VT t (gU _),aC hi,DX t _ hi]
  unfold Ck;simp[av]
 have o0:gJ (B0 t t.rs.length)=some (.inr (.inl ((),(),t.V,t.F,t.hs.map tH,(VU t 0).map tR,0,0,T.v (.slice none 0 0),T.v (.slice none 0 0),()))):=by
  have hlt:decide ((t.rs.length:Int)<(t.rs.length:Int))=false:=aQ (by omega)
  rw[←hd0]
  unfold gJ B0
  simp only[aK,hlt,bV]
 have l2:=bN (F:=gK) t.hs.length (B2 t) (fun k hk=>by
  have hlt:decide ((k:Int)<(t.hs.length:Int))=true:=aM (by omega)
  obtain⟨h1,h2⟩:=hr k hk
  obtain⟨r,hrr⟩:∃r:Nat,(hG t.hs k).r=(r:Int):=⟨(hG t.hs k).r.toNat,by omega⟩
  have hrl:r<t.rs.length:=by omega
  have hg:((VU t k).map tR)[r]?=some (tR (Ck t k r)):=by rw[sO (by rw[tA];omega),DX t _ hrl]
  unfold gK B2
  simp only[aK,hlt,bF,dW (l:=t.hs) (i:=(k:Int)) (by omega) (by omega),fI,jK,fO,hrr,bC,tA,aG (n:=(t.rs.length:Int)) (i:=r) (by omega),aU,hg,y0,jX]
  by_cases hh:(Ck t k r).h<0
  ·rw[Qf hrl hrr hh]
   simp only[aM hh,bF,fI,bS,NO,wX,aW,aO,wk (k:=k) (by omega)]
  ·rw[Mc hrl hrr hh]
   simp only[aQ hh,bV,fI,aW,aO,wk (k:=k) (by omega)])
 have o2:gK (B2 t t.hs.length)=some (.inr (.inl ((),(),t.V,t.F,t.hs.map tH,(VU t t.hs.length).map tR,0,0,T.v (.slice none 0 0),T.v (.slice none 0 0),()))):=by
  have hlt:decide ((t.hs.length:Int)<(t.hs.length:Int))=false:=aQ (by omega)
  unfold gK B2
  simp only[aK,hlt,bV]
 have e0:((),(),(t.rs.length:Int),(0:Int),t.V,t.F,t.hs.map tH,t.rs.map tR,(0:Int),(0:Int),T.v (Value.slice none 0 0),T.v (Value.slice none 0 0),())=B0 t 0:=rfl
 have e2:((),(),t.hs.map tH,(t.hs.length:Int),(0:Int),t.V,t.F,t.hs.map tH,(VU t 0).map tR,(0:Int),(0:Int),T.v (Value.slice none 0 0),T.v (Value.slice none 0 0),())=B2 t 0:=rfl
 unfold aN
 simp only[bC]
 rw[e0,l0,bA o0]
 simp only[fI,aW,bL]
 rw[e2,l2,bA o2]
 rfl
def Ic(e l g:Nat):Nat:=if g/2=l then 2*e+g%2 else g
def VV(e l:Nat)(x:Hf):Hf:={ x with n:=(Ic e l x.n.toNat:Nat),p:=(Ic e l x.p.toNat:Nat) }
def Cl(L:List Hf)(e l:Nat):Nat→List Hf
 | 0=>L
 | k+1=>(Cl L e l k).set k (VV e l (hG L k))
theorem VW(L:List Hf)(e l k:Nat):(Cl L e l k).length=L.length:=by
 induction k with
 | zero=>rfl
 | succ k ih=>simp[Cl,ih]
theorem VX(L:List Hf)(e l:Nat){k:Nat}(hk:k≤L.length)(i:Nat):hG (Cl L e l k) i=if i<k then VV e l (hG L i) else hG L i:=by
 induction k with
 | zero=>simp[Cl]
 | succ k ih=>
  simp only[Cl]
  rw[DV (by rw[VW];omega),ih (by omega)]
  by_cases e1:k=i
  ·subst e1;rw[aC rfl,aC (by omega)]
  ·rw[aA e1]
   by_cases e2:i<k
   ·rw[aC e2,aC (by omega)]
   ·rw[aA e2,aA (by omega)]
def RC(hs:List Hf)(h:Nat):List Hf:=((hs.set (2*(h/2)) (hG hs (2*(hs.length/2-1):Nat))).set (2*(h/2)+1) (hG hs (2*(hs.length/2-1)+1:Nat))).take (2*(hs.length/2-1))
def dE(hs:List Hf)(h:Nat):List Hf:=Cl (RC hs h) (h/2) (hs.length/2-1) (RC hs h).length
theorem N9(hs:List Hf)(h:Nat):(RC hs h).length=2*(hs.length/2-1):=by
 unfold RC;rw[mU,cW,cW];omega
theorem kU(hs:List Hf)(h:Nat):(dE hs h).length=2*(hs.length/2-1):=by unfold dE;rw[VW,N9]
theorem Qg{l:List Hf}{k j:Nat}(h:j<k):hG (l.take k) j=hG l j:=by
 unfold hG;rw[nR,jY,jY,List.getElem?_take_of_lt h]
theorem Et{hs:List Hf}(he:hs.length%2=0){h:Nat}(hh:h<hs.length){j:Nat}(hj:j<2*(hs.length/2-1)):hG (RC hs h) j=if j/2=h/2 then hG hs ((2*(hs.length/2-1)+j%2:Nat):Int) else hG hs j:=by
 unfold RC
 rw[Qg hj,DV (by rw[cW];omega),DV (by omega)]
 by_cases e1:2*(h/2)+1=j
 ·rw[aC e1,aC (by omega)]
  have:j%2=1:=by omega
  rw[this]
 ·rw[aA e1]
  by_cases e2:2*(h/2)=j
  ·rw[aC e2,aC (by omega)]
   have:j%2=0:=by omega
   rw[this];rfl
  ·rw[aA e2,aA (by omega)]
theorem Tu(x:Hf)(a b c d:Int):T.aw 4 (tH x) 0 [tI a,tI b,tI c,tI d]=tH ⟨a,b,c,d⟩:=by unfold T.aw;rfl
theorem NA(a:Nat):((a:Int)).tdiv 2=((a/2:Nat):Int):=rfl
theorem Eu(a:Nat):((a:Int)).tmod 2=((a%2:Nat):Int):=rfl
def N0(V F:Int)(rs:List T)(L:List Hf)(e l:Nat)(k:Nat):Unit×Unit×Int×Int×Int×Int×List T×List T×Int×Int×Unit:=((),(),(L.length:Int),(k:Int),V,F,(Cl L e l k).map tH,rs,(l:Int),(e:Int),())
theorem Qh{V F:Int}{rs:List T}{L:List Hf}{e l:Nat}(hn:L.length≤1000)(he:e≤1000)(hl:l≤1000)(hr:∀k:Nat,k<L.length→0≤(hG L k).n∧(hG L k).n≤1000∧0≤(hG L k).p∧(hG L k).p≤1000){k:Nat}(hk:k<L.length):
 dO (N0 V F rs L e l k)=some (.inl (N0 V F rs L e l (k+1))):=by
 have hlt:decide ((k:Int)<(L.length:Int))=true:=aM (by omega)
 obtain⟨h1,h2,h3,h4⟩:=hr k hk
 obtain⟨a,ha⟩:∃a:Nat,(hG L k).n=(a:Int):=⟨(hG L k).n.toNat,by omega⟩
 obtain⟨b,hb⟩:∃b:Nat,(hG L k).p=(b:Int):=⟨(hG L k).p.toNat,by omega⟩
 have hlen:(Cl L e l k).length=L.length:=VW _ _ _ _
 have hx:hG (Cl L e l k) k=hG L k:=by rw[VX L e l (by omega),aA (by omega)]
 have hg:((Cl L e l k).map tH)[k]?=some (tH (hG L k)):=by rw[gI (by omega),hx]
 have hg2:∀z:Hf,(((Cl L e l k).set k z).map tH)[k]?=some (tH z):=fun z=>by rw[eW,iI (by omega)];rfl
 have wa:wr .i64 ((a:Int).tdiv 2)=((a/2:Nat):Int):=by rw[NA,gN (by omega) (by omega)]
 have wb:wr .i64 ((b:Int).tdiv 2)=((b/2:Nat):Int):=by rw[NA,gN (by omega) (by omega)]
 have we:wr .i64 (2*(e:Int))=2*(e:Int):=gN (by omega) (by omega)
 have wa2:wr .i64 (2*(e:Int)+(a:Int).tmod 2)=((2*e+a%2:Nat):Int):=by rw[Eu,gN (by omega) (by omega)];push_cast;rfl
 have wb2:wr .i64 (2*(e:Int)+(b:Int).tmod 2)=((2*e+b%2:Nat):Int):=by rw[Eu,gN (by omega) (by omega)];push_cast;rfl
 have ga:decide ((0:Int)≤(a:Int))=true:=aM (by omega)
 have gb:decide ((0:Int)≤(b:Int))=true:=aM (by omega)
 have hN:N0 V F rs L e l (k+1)=((),(),(L.length:Int),((k+1:Nat):Int),V,F,((Cl L e l k).set k (VV e l (hG L k))).map tH,rs,(l:Int),(e:Int),()):=rfl
 rw[hN]
 unfold VV
 rw[ha,hb,nR,nR]
 unfold dO N0 Ic
 have hcast:∀x y:Nat,x=y→decide ((x:Int)=(y:Int))=true:=fun x y h=>aM (by omega)
 have hcast':∀x y:Nat,x≠y→decide ((x:Int)=(y:Int))=false:=fun x y h=>aQ (by omega)
 by_cases e1:a/2=l
 ·by_cases e2:b/2=l
  ·simp only[zS,aK,hlt,bL,hlen,aG (n:=(L.length:Int)) (i:=k) (by omega),aU,hg,mZ,mK,ha,hb,vY,wa,wb,hcast _ _ e1,hcast _ _ e2,gH,ga,gb,yB,we,qJ,aO,wa2,wb2,bS,YM,YN,CG,cW,hg2,EN,wk (k:=k) (by omega),aC e1,aC e2]
  ·simp only[zS,aK,hlt,bL,hlen,aG (n:=(L.length:Int)) (i:=k) (by omega),aU,hg,mZ,mK,ha,hb,vY,wa,wb,hcast _ _ e1,hcast' _ _ e2,gH,ga,gb,yB,we,qJ,aO,wa2,wb2,bS,YM,YN,CG,cW,hg2,EN,wk (k:=k) (by omega),aC e1,aA e2]
 ·by_cases e2:b/2=l
  ·simp only[zS,aK,hlt,bL,hlen,aG (n:=(L.length:Int)) (i:=k) (by omega),aU,hg,mZ,mK,ha,hb,vY,wa,wb,hcast' _ _ e1,hcast _ _ e2,gH,ga,gb,yB,we,qJ,aO,wa2,wb2,bS,YM,YN,CG,cW,hg2,EN,wk (k:=k) (by omega),aA e1,aC e2]
  ·have hsame:(Cl L e l k).set k { hG L k with n:=(a:Int),p:=(b:Int) }=Cl L e l k:=by
    refine kQ ?_
    rw[sL _ _ (by omega),hx,←ha,←hb]
   simp only[zS,aK,hlt,bL,hlen,aG (n:=(L.length:Int)) (i:=k) (by omega),aU,hg,mZ,mK,ha,hb,vY,wa,wb,hcast' _ _ e1,hcast' _ _ e2,aO,wk (k:=k) (by omega),aA e1,aA e2,hsame]
theorem DY{V F:Int}{rs:List T}{hs:List Hf}(hn:hs.length≤1000)(he:hs.length%2=0){h:Nat}(hh:h<hs.length)(hr:∀k:Nat,k<hs.length→0≤(hG hs k).n∧(hG hs k).n≤1000∧0≤(hG hs k).p∧(hG hs k).p≤1000):
 bU ((),(h:Int),V,F,hs.map tH,rs,())=some (V,F,(dE hs h).map tH,rs,()):=by
 obtain⟨l,hl⟩:∃l,l=hs.length/2-1:=⟨_,rfl⟩
 obtain⟨e,hee⟩:∃e,e=h/2:=⟨_,rfl⟩
 have hlen:=N9 hs h
 have hrd:∀k:Nat,k<(RC hs h).length→0≤(hG (RC hs h) k).n∧(hG (RC hs h) k).n≤1000∧0≤(hG (RC hs h) k).p∧(hG (RC hs h) k).p≤1000:=fun k hk=>by
  rw[Et he hh (by omega)]
  by_cases e1:k/2=h/2
  ·rw[aC e1];exact hr _ (by omega)
  ·rw[aA e1];exact hr _ (by omega)
 have hlp:=bN (F:=dO) (RC hs h).length (N0 V F rs (RC hs h) (h/2) (hs.length/2-1)) (fun k hk=>Qh (by omega) (by omega) (by omega) hrd hk)
 have ho:dO (N0 V F rs (RC hs h) (h/2) (hs.length/2-1) (RC hs h).length)=some (.inr (.inl (V,F,(dE hs h).map tH,rs,()))):=by
  have hlt:decide (((RC hs h).length:Int)<((RC hs h).length:Int))=false:=aQ (by omega)
  unfold dO N0
  simp only[aK,hlt,bV]
  rfl
 have w1:wr .i64 ((hs.length:Int).tdiv 2)=((hs.length/2:Nat):Int):=by rw[NA,gN (by omega) (by omega)]
 have w2:wr .i64 (((hs.length/2:Nat):Int)-1)=((hs.length/2-1:Nat):Int):=by rw[gN (by omega) (by omega)];omega
 have w3:wr .i64 (2*((hs.length/2-1:Nat):Int))=((2*(hs.length/2-1):Nat):Int):=by rw[gN (by omega) (by omega)];push_cast;rfl
 have w4:wr .i64 (((2*(hs.length/2-1):Nat):Int)+1)=((2*(hs.length/2-1)+1:Nat):Int):=by rw[gN (by omega) (by omega)];push_cast;rfl
 have w5:wr .i64 ((h:Int).tdiv 2)=((h/2:Nat):Int):=by rw[NA,gN (by omega) (by omega)]
 have w6:wr .i64 (2*((h/2:Nat):Int))=((2*(h/2):Nat):Int):=by rw[gN (by omega) (by omega)];push_cast;rfl
 have w7:wr .i64 (((2*(h/2):Nat):Int)+1)=((2*(h/2)+1:Nat):Int):=by rw[gN (by omega) (by omega)];push_cast;rfl
 have hg1:(hs.map tH)[2*(hs.length/2-1)]?=some (tH (hG hs (2*(hs.length/2-1):Nat))):=gI (by omega)
 have hg2:(hs.map tH)[2*(hs.length/2-1)+1]?=some (tH (hG hs (2*(hs.length/2-1)+1:Nat))):=gI (by omega)
 have hg3:(hs.map tH)[2*(h/2)]?=some (tH (hG hs (2*(h/2):Nat))):=gI (by omega)
 have heta:∀z:Hf,(⟨z.f,z.n,z.p,z.r⟩:Hf)=z:=fun z=>rfl
 have hg4:((hs.set (2*(h/2)) (hG hs (2*(hs.length/2-1):Nat))).map tH)[2*(h/2)+1]?=some (tH (hG (hs.set (2*(h/2)) (hG hs (2*(hs.length/2-1):Nat))) (2*(h/2)+1:Nat))):=gI (by rw[cW];omega)
 have hcut:JJ (hs.length:Int) 0 ((2*(hs.length/2-1):Nat):Int)=some (0,2*(hs.length/2-1)):=by
  unfold JJ;rw[aC ⟨by omega,by omega,by omega⟩,Int.sub_zero,nR];rfl
 have hnat:UM (2*(hs.length/2-1))=((RC hs h).length:Int):=by unfold UM;rw[hlen]
 have hcn:∀M:List Hf,oC (M.map tH) 0 (2*(hs.length/2-1))=(M.take (2*(hs.length/2-1))).map tH:=fun M=>by unfold oC;rw[T0,LE]
 have hdp:((hs.set (2*(h/2)) (hG hs (2*(hs.length/2-1):Nat))).set (2*(h/2)+1) (hG hs (2*(hs.length/2-1)+1:Nat))).take (2*(hs.length/2-1))=RC hs h:=rfl
 unfold bU
 simp only[bL,vY,w1,nO,w2,yB,w3,aO,w4,w5,w6,w7,aG (n:=(hs.length:Int)) (i:=2*(hs.length/2-1)) (by omega),aG (n:=(hs.length:Int)) (i:=2*(hs.length/2-1)+1) (by omega),aG (n:=(hs.length:Int)) (i:=2*(h/2)) (by omega),aG (n:=(hs.length:Int)) (i:=2*(h/2)+1) (by omega),fI,aU,hg1,hg2,hg3,sX,mZ,mK,jK,jX,bS,Tu,heta,CG,cW,hg4,hcut,hnat,hcn,hdp]
 have e0:((),(),((RC hs h).length:Int),(0:Int),V,F,(RC hs h).map tH,rs,((hs.length/2-1:Nat):Int),((h/2:Nat):Int),())=N0 V F rs (RC hs h) (h/2) (hs.length/2-1) 0:=rfl
 rw[e0,hlp,bA ho]
 rfl
theorem I5{l m:List Nat}{k:Nat}(h:k<l.length):(l++m).getD k 0=l.getD k 0:=by
 rw[jY,jY,AR h]
theorem Cm{l:List Nat}{x:Nat}:(l++[x]).getD l.length 0=x:=by simp
theorem nX{f:Nat→Nat}{x z a:Nat}{m:List Nat}(h:Path f x (a::m) z):f (rR a m m.length)=z:=by
 have:=(FT h).2 m.length (by simp)
 rw[I5 (by simp)] at this
 have e:(a::m++[z]).getD (m.length+1) 0=z:=by
  have:=Cm (l:=a::m) (x:=z)
  simp
 rw[e] at this;exact this
theorem HE{f:Nat→Nat}{x z a:Nat}{m:List Nat}(h:Path f x (a::m) z){k:Nat}(hk:k<m.length):f (rR a m k)=rR a m (k+1):=by
 have:=(FT h).2 k (by simp;omega)
 rw[I5 (by simp;omega),I5 (by simp;omega)] at this;exact this
def zB(t:Tp)(h:Nat)(A B:List Nat):List Hf:=
 match A,B with
 | [],[]=>t.hs
 | [],_::_=>lk t.hs (pv t h) (nx t (mt h))
 | _::_,[]=>ar (lk t.hs (pv t (mt h)) (nx t h)) A t.rs.length
 | _::_,_::_=>lk (ar (lk t.hs (pv t (mt h)) (nx t h)) A t.rs.length) (pv t h) (nx t (mt h))
def Cn(t:Tp)(h r:Nat)(A B:List Nat):List Rg:=
 match A,B with
 | [],[]=>(t.rs.set r { rG t.rs r with h:=-1,v:=(hG t.hs h).f })++[⟨-1,(hG t.hs (mt h:Nat)).f,(rG t.rs r).c⟩]
 | [],_::_=>t.rs++[⟨-1,(hG t.hs (mt h:Nat)).f,(rG t.rs r).c⟩]
 | _::_,[]=>(t.rs.set r { rG t.rs r with h:=-1,v:=(hG t.hs h).f })++[⟨-1,-1,(rG t.rs r).c⟩]
 | _::_,_::_=>t.rs++[⟨-1,-1,(rG t.rs r).c⟩]
def RD(t:Tp)(h r:Nat)(A B:List Nat):Tp:=⟨t.V,t.F,dE (zB t h A B) h,Cn t h r A B⟩
theorem yD(t:Tp)(h:Nat)(A B:List Nat):(zB t h A B).length=t.hs.length:=by
 unfold zB
 split
 ·rfl
 ·rw[aF]
 ·rw[cF,aF]
 ·rw[aF,cF,aF]
theorem VZ(t:Tp)(h r:Nat)(A B:List Nat):(Cn t h r A B).length=t.rs.length+1:=by
 unfold Cn
 split <;> simp
theorem Qi{t:Tp}{h r:Nat}{A B:List Nat}:(RD t h r A B).hs.length=2*(t.hs.length/2-1):=by
 show (dE _ _).length=_
 rw[kU,yD]
def dq(l:List Hf):Prop:=∀k:Nat,k<l.length→0≤(hG l k).n∧(hG l k).n≤1000∧0≤(hG l k).p∧(hG l k).p≤1000
theorem dq.lk{l:List Hf}(h:dq l){a b:Nat}(ha:a<l.length)(hb:b<l.length)(hl:l.length≤1000):dq (lk l a b):=fun k hk=>by
 rw[aF] at hk
 obtain⟨h1,h2,h3,h4⟩:=h k hk
 rw[aY ha hb]
 refine⟨?_,?_,?_,?_⟩
 ·by_cases e:a=k
  ·simp only[aC e];omega
  ·simp only[aA e];exact h1
 ·by_cases e:a=k
  ·simp only[aC e];omega
  ·simp only[aA e];exact h2
 ·by_cases e:b=k
  ·simp only[aC e];omega
  ·simp only[aA e];exact h3
 ·by_cases e:b=k
  ·simp only[aC e];omega
  ·simp only[aA e];exact h4
theorem dq.ar{l:List Hf}(h:dq l){xs:List Nat}(hx:∀x∈xs,x<l.length)(r:Int):dq (ar l xs r):=fun k hk=>by
 rw[cF] at hk
 have:=h k hk
 rw[dX xs r l k hx]
 by_cases e:k∈xs
 ·rw[aC e];exact this
 ·rw[aA e];exact this
theorem Hok.kz{t:Tp}(h:Hok t):dq t.hs:=fun k hk=>by
 obtain⟨_,h1,h2,_⟩:=iJ.1 (h.b1 k hk)
 have:=h.n
 omega
def eg(l:List Hf)(n:Nat):Prop:=∀k:Nat,k<l.length→0≤(hG l k).r∧(hG l k).r<n
theorem Hok.kg{t:Tp}(h:Hok t):eg t.hs t.rs.length:=fun k hk=>(iJ.1 (h.b1 k hk)).2.2.2
theorem eg.mono{l:List Hf}{n m:Nat}(h:eg l n)(hm:n≤m):eg l m:=fun k hk=>by have:=h k hk;omega
theorem eg.lk{l:List Hf}{n:Nat}(h:eg l n){a b:Nat}(ha:a<l.length)(hb:b<l.length):eg (lk l a b) n:=fun k hk=>by
 rw[aF] at hk
 rw[aY ha hb];exact h k hk
theorem eg.ar{l:List Hf}{n:Nat}(h:eg l n){xs:List Nat}(hx:∀x∈xs,x<l.length){r:Nat}(hr:r<n):eg (ar l xs r) n:=fun k hk=>by
 rw[cF] at hk
 have:=h k hk
 rw[dX xs r l k hx]
 by_cases e:k∈xs
 ·rw[aC e];show 0≤(r:Int)∧(r:Int)<n;omega
 ·rw[aA e];exact this
theorem Me{hs:List Hf}(he:hs.length%2=0){h:Nat}(hh:h<hs.length){j:Nat}(hj:j<2*(hs.length/2-1)):hG (dE hs h) j=VV (h/2) (hs.length/2-1) (if j/2=h/2 then hG hs ((2*(hs.length/2-1)+j%2:Nat):Int) else hG hs j):=by
 unfold dE
 rw[VX _ _ _ (gU _),aC (by rw[N9];exact hj),Et he hh hj]
theorem eg.dE{hs:List Hf}{n:Nat}(h0:eg hs n)(he:hs.length%2=0){h:Nat}(hh:h<hs.length):eg (dE hs h) n:=fun k hk=>by
 rw[kU] at hk
 rw[Me he hh hk]
 by_cases e:k/2=h/2
 ·rw[aC e];exact h0 _ (by omega)
 ·rw[aA e];exact h0 _ (by omega)
theorem Tv{t:Tp}(ht:CKP t){h r:Nat}{A B:List Nat}(hh:h<t.hs.length)(hr:r<t.rs.length)(cj:eK t r h=true)(hrm:eK t r (mt h)=true)(hc:bz (nx t) h (A++mt h::B))(hb:∀y∈h::(A++mt h::B),y<t.hs.length)(hR:t.rs.length+1≤257):
 eU (t.V,t.F,t.hs.map tH,t.rs.map tR,(h:Int),())=some (wY (dn (RD t h r A B)) 0):=by
 have hk:=ht.toHok
 have hz:=hk.toSz
 have hn:=ht.n
 have he:=ht.e
 have hV1:=ht.V1
 have hF1:=ht.F1
 have hm:=kS he hh
 have hpm:=hk.aj hm
 have hph:=hk.aj hh
 have hnm:=hk.bf hm
 have hnh:=hk.bf hh
 have hro:gQ t 0 0 0 1=true:=by
  unfold gQ;simp only[cM,cK];omega
 have hroom:=F5 hz (a:=0) (b:=0) (c:=1) (d:=0) (by decide) (by decide) (by decide) (by decide)
 have hroom':bT (t.V,t.F,t.hs.map tH,t.rs.map tR,(0:Int),(0:Int),(1:Int),(0:Int),())=some (true,()):=by rw[←hro];exact hroom
 have hi2:rJ (h:Int) (t.hs.length:Int)=true:=bR.2 ⟨by omega,by omega⟩
 have hr1:(hG t.hs h).r=(r:Int):=cH cj
 have hr2:(hG t.hs (mt h:Nat)).r=(r:Int):=cH hrm
 obtain⟨hP1,hP2⟩:=kA.1 hc.1
 have hnd:((h::A)++(mt h::B)).Nodup:=hc.2
 have hrr:qH (t.rs.map tR) [tR ⟨-1,-1,(rG t.rs r).c⟩] 24=some ((t.rs++[(⟨-1,-1,(rG t.rs r).c⟩:Rg)]).map tR):=by
  rw[rV (by simp only[cS,oB,xC];omega) (by decide),EM];rfl
 have hfold:T.agg [tI (-1),tI (-1),tI (rG t.rs r).c]=tR ⟨-1,-1,(rG t.rs r).c⟩:=rfl
 have hsm:=hk.kz
 have hrg:=hk.kg.mono (m:=t.rs.length+1) (by omega)
 have hbA:∀y∈A,y<t.hs.length:=fun y hy=>hb y (eQ _ (EL _ hy))
 have fin:∀(hs2:List Hf) (WO:List Rg),hs2.length=t.hs.length→dq hs2→eg hs2 (t.rs.length+1)→WO.length=t.rs.length+1 →
  (ob (bU ((),(h:Int),t.V,t.F,hs2.map tH,WO.map tR,())) fun x58=>ob (aN ((),x58.1,x58.2.1,x58.2.2.1,x58.2.2.2.1,())) fun x59=>some (x59.1,x59.2.1,x59.2.2.1,x59.2.2.2.1,x59.2.2.2.2.1,()))=some (wY (dn ⟨t.V,t.F,dE hs2 h,WO⟩) 0):=fun hs2 WO h1 h2 h3 h4=>by
  rw[DY (by omega) (by omega) (by omega) h2]
  simp only[fI]
  have:=Md (t:=⟨t.V,t.F,dE hs2 h,WO⟩) (by show (dE hs2 h).length≤_;rw[kU];omega) (by show WO.length≤_;omega) (by
   show eg (dE hs2 h) WO.length
   rw[h4];exact h3.dE (by omega) (by omega))
  simp only[] at this
  rw[this]
  rfl
 have hlenq:∀z:Rg,(t.rs++[z]).length=t.rs.length+1:=fun z=>by simp
 have hgR:∀z:Rg,((t.rs++[z]).map tR)[t.rs.length]?=some (tR z):=fun z=>by
  rw[EM,HS (by simp)];simp
 have hsetR:∀z w:Rg,(t.rs++[z]).set t.rs.length w=t.rs++[w]:=fun z w=>by
  rw[JE];simp
 have hgr:∀z:Rg,((t.rs++[z]).map tR)[r]?=some (tR (rG t.rs r)):=fun z=>by
  rw[EM,AR (by simpa using hr)];exact sO hr
 have hsetr:∀z w:Rg,(t.rs++[z]).set r w=t.rs.set r w++[z]:=fun z w=>by
  rw[JE,aC hr]
 have hgr2:∀z w:Rg,((t.rs.set r w++[z]).map tR)[r]?=some (tR w):=fun z w=>by
  rw[EM,AR (by simpa using hr),eW,iI hr];rfl
 have hsetr2:∀z w w':Rg,(t.rs.set r w++[z]).set r w'=t.rs.set r w'++[z]:=fun z w w'=>by
  rw[JE,aC (by simpa using hr),EN]
 have hlenr:∀z w:Rg,(t.rs.set r w++[z]).length=t.rs.length+1:=fun z w=>by simp
 have lkh:∀(l:List Hf) (R:List T),l.length=t.hs.length→∀a b:Nat,a<t.hs.length→b<t.hs.length→aB ((),(a:Int),(b:Int),t.V,t.F,l.map tH,R,())=some (t.V,t.F,(lk l a b).map tH,R,()):=fun l R h1 a b h2 h3=>xN (by omega) (by omega)
 unfold eU
 cases A with
 | nil=>
  have hfm:nx t h=mt h:=hP1
  have d1:decide ((nx t h:Int)=(mt h:Int))=true:=aM (by omega)
  cases B with
  | nil=>
   have hbh:nx t (mt h)=h:=hP2
   have d2:decide ((nx t (mt h):Int)=(h:Int))=true:=aM (by omega)
   simp only[zS,bE ht,cE,hi2,hroom',rP (k:=h) (by omega),oZ hz,bL,bC,dW (l:=t.hs) (i:=(h:Int)) (by omega) (by omega),dW (l:=t.hs) (i:=((mt h:Nat):Int)) (by omega) (by omega),aG (n:=(t.hs.length:Int)) (i:=h) (by omega),aG (n:=(t.hs.length:Int)) (i:=mt h) (by omega),aG (n:=(t.rs.length:Int)) (i:=r) (by omega),aU,gI hh,gI hm,sO hr,sX,mZ,mK,jK,fA,fO,hr1,hr2,hk.bd hh,hk.bo hh,hk.bd hm,hk.bo hm,bS,hfold,hrr,d1,d2,hlenq,hlenr,aG (n:=((t.rs.length+1:Nat):Int)) (i:=t.rs.length) (by omega),aG (n:=((t.rs.length+1:Nat):Int)) (i:=r) (by omega),hgR,FW,NO,wX,hsetR,aW,hgr,hsetr,hgr2,hsetr2]
   exact fin _ _ rfl hsm hrg (by simp)
  | cons b0 B'=>
   have hbh:nx t (mt h)=b0:=hP2.1
   have hne:b0≠h:=fun e=>by
    have h1:=cY.1 hc.2
    exact h1.1 (by rw[←e];simp)
   have d2:decide ((nx t (mt h):Int)=(h:Int))=false:=aQ (by omega)
   simp only[zS,bE ht,cE,hi2,hroom',rP (k:=h) (by omega),oZ hz,bL,bC,dW (l:=t.hs) (i:=(h:Int)) (by omega) (by omega),dW (l:=t.hs) (i:=((mt h:Nat):Int)) (by omega) (by omega),aG (n:=(t.hs.length:Int)) (i:=h) (by omega),aG (n:=(t.hs.length:Int)) (i:=mt h) (by omega),aG (n:=(t.rs.length:Int)) (i:=r) (by omega),aU,gI hh,gI hm,sO hr,sX,mZ,mK,jK,fA,fO,hr1,hr2,hk.bd hh,hk.bo hh,hk.bd hm,hk.bo hm,bS,hfold,hrr,d1,d2,hlenq,aG (n:=((t.rs.length+1:Nat):Int)) (i:=t.rs.length) (by omega),hgR,FW,wX,hsetR,aW,lkh t.hs _ rfl _ _ hph hnm]
   exact fin _ _ (by rw[aF]) (hsm.lk hph hnm (by omega)) (hrg.lk hph hnm) (by simp)
 | cons a A'=>
  have hfa:nx t h=a:=hP1.1
  have hne1:a≠mt h:=fun e=>by
   have:=(rT.1 hnd).2.2 a (by simp) (mt h) (by simp)
   exact this e
  have d1:decide ((nx t h:Int)=(mt h:Int))=false:=aQ (by omega)
  have hlast:pv t (mt h)=rR a A' A'.length:=by
   have h1:=nX hP1
   have h2:=hbA _ (lS (x:=a) (m:=A') (k:=A'.length) (by simp))
   rw[←h1,hk.pn h2]
  have hlk:(lk t.hs (pv t (mt h)) (nx t h)).length=t.hs.length:=by rw[aF]
  have hasg:=F7 (V:=t.V) (F:=t.F) (hs:=lk t.hs (pv t (mt h)) (nx t h)) (rs:=(t.rs++[(⟨-1,-1,(rG t.rs r).c⟩:Rg)]).map tR) (r:=(t.rs.length:Int)) (x:=a) (m:=A') (by
   have:=(rT.1 hnd).1
   exact(cY.1 this).2) (fun y hy=>by rw[hlk];exact hbA y hy) (fun k hk2=>by
   have hyl:=hbA _ (lS (x:=a) (m:=A') (k:=k) (by simp;omega))
   rw[aY hpm hnh]
   have hne:pv t (mt h)≠rR a A' k:=fun e=>by
    rw[hlast] at e
    have hndA:(a::A').Nodup:=(cY.1 (rT.1 hnd).1).2
    have i1:(a::A')[A'.length]?=some (rR a A' A'.length):=by rw[dG (by simp),F6]
    have i2:(a::A')[k]?=some (rR a A' A'.length):=by rw[dG (by simp;omega),F6,e]
    have:=G2 hndA i1 i2
    omega
   simp only[aA hne]
   rw[hk.bd hyl,HE hP1 hk2]) hlast
  rw[←hfa] at hasg
  have hbA2:∀y∈a::A',y<(lk t.hs (pv t (mt h)) (nx t h)).length:=fun y hy=>by rw[hlk];exact hbA y hy
  have hsm2:dq (ar (lk t.hs (pv t (mt h)) (nx t h)) (a::A') t.rs.length):=(hsm.lk hpm hnh (by omega)).ar hbA2 _
  have hrg2:eg (ar (lk t.hs (pv t (mt h)) (nx t h)) (a::A') t.rs.length) (t.rs.length+1):=(hrg.lk hpm hnh).ar hbA2 (by omega)
  have hl2:(ar (lk t.hs (pv t (mt h)) (nx t h)) (a::A') (t.rs.length:Int)).length=t.hs.length:=by rw[cF,aF]
  rw[hfa] at hasg
  have hasg':aR ((),(nx t h:Int),(pv t (mt h):Int),(t.rs.length:Int),t.V,t.F,(lk t.hs (pv t (mt h)) (nx t h)).map tH,(t.rs++[(⟨-1,-1,(rG t.rs r).c⟩:Rg)]).map tR,())=some (t.V,t.F,(ar (lk t.hs (pv t (mt h)) (nx t h)) (a::A') (t.rs.length:Int)).map tH,(t.rs++[(⟨-1,-1,(rG t.rs r).c⟩:Rg)]).map tR,()):=by
   rw[hfa];exact hasg
  cases B with
  | nil=>
   have hbh:nx t (mt h)=h:=hP2
   have d2:decide ((nx t (mt h):Int)=(h:Int))=true:=aM (by omega)
   generalize hG2:ar (lk t.hs (pv t (mt h)) (nx t h)) (a::A') (t.rs.length:Int)=L2 at *
   have hgf:(L2.map tH)[h]?=some (tH (hG L2 h)):=gI (by omega)
   have hff:(hG L2 h).f=(hG t.hs h).f:=by
    rw[←hG2,dX _ _ _ _ hbA2]
    by_cases e:h∈a::A'
    ·rw[aC e,aY hpm hnh]
    ·rw[aA e,aY hpm hnh]
   simp only[zS,bE ht,cE,hi2,hroom',rP (k:=h) (by omega),oZ hz,bL,bC,dW (l:=t.hs) (i:=(h:Int)) (by omega) (by omega),dW (l:=t.hs) (i:=((mt h:Nat):Int)) (by omega) (by omega),aG (n:=(t.hs.length:Int)) (i:=h) (by omega),aG (n:=(t.hs.length:Int)) (i:=mt h) (by omega),aG (n:=(t.rs.length:Int)) (i:=r) (by omega),aU,gI hh,gI hm,sO hr,sX,mZ,mK,jK,fA,fO,hr1,hr2,hk.bd hh,hk.bo hh,hk.bd hm,hk.bo hm,bS,hfold,hrr,d1,d2,hlenq,hlenr,lkh t.hs _ rfl _ _ hpm hnh,hasg',aW,hl2,hgf,hff,aG (n:=((t.rs.length+1:Nat):Int)) (i:=r) (by omega),FW,NO,wX,hgr,hsetr,hgr2,hsetr2]
   have:=fin L2 (t.rs.set r { rG t.rs r with h:=-1,v:=(hG t.hs h).f }++[(⟨-1,-1,(rG t.rs r).c⟩:Rg)]) hl2 hsm2 hrg2 (by simp)
   rw[this]
   unfold RD zB Cn
   simp only[hG2]
  | cons b0 B'=>
   have hbh:nx t (mt h)=b0:=hP2.1
   have hne:b0≠h:=fun e=>by
    have h1:=cY.1 hc.2
    exact h1.1 (by rw[←e];simp)
   have d2:decide ((nx t (mt h):Int)=(h:Int))=false:=aQ (by omega)
   generalize hG2:ar (lk t.hs (pv t (mt h)) (nx t h)) (a::A') (t.rs.length:Int)=L2 at *
   simp only[zS,bE ht,cE,hi2,hroom',rP (k:=h) (by omega),oZ hz,bL,bC,dW (l:=t.hs) (i:=(h:Int)) (by omega) (by omega),dW (l:=t.hs) (i:=((mt h:Nat):Int)) (by omega) (by omega),aG (n:=(t.hs.length:Int)) (i:=h) (by omega),aG (n:=(t.hs.length:Int)) (i:=mt h) (by omega),aG (n:=(t.rs.length:Int)) (i:=r) (by omega),aU,gI hh,gI hm,sO hr,sX,mZ,mK,jK,fA,fO,hr1,hr2,hk.bd hh,hk.bo hh,hk.bd hm,hk.bo hm,bS,hfold,hrr,d1,d2,hlenq,lkh t.hs _ rfl _ _ hpm hnh,hasg',aW,lkh L2 _ hl2 _ _ hph hnm]
   have:=fin (lk L2 (pv t h) (nx t (mt h))) (t.rs++[(⟨-1,-1,(rG t.rs r).c⟩:Rg)]) (by rw[aF,hl2]) (hsm2.lk (by omega) (by omega) (by omega)) (hrg2.lk (by omega) (by omega)) (by simp)
   rw[this]
   unfold RD zB Cn
   simp only[hG2]
theorem L8{X Y:Tp}(hV:X.V=Y.V)(hF:X.F=Y.F)(hh:X.hs=Y.hs)(hl:X.rs.length=Y.rs.length)
 (h:∀i:Nat,i<Y.rs.length→(rG X.rs i).c=(rG Y.rs i).c∧(rG X.rs i).v=(rG Y.rs i).v∧(((∃k,k<Y.hs.length∧eK Y i k=true)∧(rG X.rs i).h≠-1∧(rG Y.rs i).v<0)∨((∀k,k<Y.hs.length→eK Y i k=false)∧(rG X.rs i).h=-1∧((rG Y.rs i).v<0∨(rG Y.rs i).h=-1)))):lz X=dn Y:=by
 have hr:(lz X).rs=(dn Y).rs:=by
  refine L7 (by rw[kT,hl];exact(tA Y _).symm) fun i hi=>?_
  rw[kT] at hi
  rw[uT X hi]
  have e1:rG (dn Y).rs i=Ck Y Y.hs.length i:=DX Y _ (by omega)
  rw[e1]
  have hP:eK X (i:Int)=eK Y (i:Int):=by funext k;unfold eK;rw[hh]
  obtain⟨h1,h2,h3⟩:=h i (by omega)
  rcases h3 with⟨⟨k,hk,hp⟩,h4,h5⟩ | ⟨h3,h4,h5⟩
  ·have hc:0<av (eK Y i) Y.hs.length:=pF.2 ⟨k,hk,hp⟩
   unfold KV Ck Ia YP
   rw[hP,hh,aQ h4,bV,aC hc,aM h5]
   simp only[bF,aM hc,ML]
   have d:decide ((-1:Int)<0)=true:=rfl
   rw[d]
   simp only[bF,h1,h2]
  ·have hc:¬0<av (eK Y i) Y.hs.length:=by rw[sM.2 h3];omega
   unfold KV Ck
   rw[aM h4,bF,aQ hc,OX,bV]
   unfold Ia
   have e2:∀z:Rg,rG X.rs i=z↔(rG X.rs i).h=z.h∧(rG X.rs i).v=z.v∧(rG X.rs i).c=z.c:=fun z=>by
    generalize rG X.rs i=w;cases w;cases z;simp
   rw[e2]
   cases hd:decide ((rG Y.rs i).v<0) with
   | true=>simp only[bF];exact⟨h4,h2,h1⟩
   | false=>
    simp only[bV]
    have:=tM hd
    rcases h5 with h5 | h5
    ·omega
    ·exact⟨h4.trans h5.symm,h2,h1⟩
 have e1:lz X=⟨X.V,X.F,X.hs,(lz X).rs⟩:=rfl
 have e2:dn Y=⟨Y.V,Y.F,Y.hs,(dn Y).rs⟩:=rfl
 rw[e1,e2,hV,hF,hh,hr]
theorem CKP.two{t:Tp}(ht:CKP t){i:Nat}(hi:i<t.rs.length):((∃k,k<t.hs.length∧eK t i k=true)∧(rG t.rs i).h≠-1∧(rG t.rs i).v=-1)∨((∀k,k<t.hs.length→eK t i k=false)∧(rG t.rs i).h=-1∧0≤(rG t.rs i).v):=by
 rcases ht.rr i hi with⟨h1,h2,h3,h4⟩ | ⟨h1,h2,h3,h4,h5⟩
 ·exact .inr ⟨h4,h1,h2⟩
 ·obtain⟨k,hk⟩:∃k:Nat,(rG t.rs i).h=(k:Int):=⟨(rG t.rs i).h.toNat,by omega⟩
  exact .inl ⟨⟨k,by omega,by unfold eK;rw[←hk];exact aM h3⟩,by omega,h4⟩
theorem CKP.gn{t:Tp}(ht:CKP t):Tl.lz t=dn t:=L8 rfl rfl rfl rfl fun i hi=>⟨rfl,rfl,by
 rcases ht.two hi with⟨h1,h2,h3⟩ | ⟨h1,h2,h3⟩
 ·exact .inl ⟨h1,h2,by omega⟩
 ·exact .inr ⟨h1,h2,.inr h2⟩⟩
theorem AC{V F:Int}{hs:List Hf}{rs:List Rg}(hn:hs.length≤1000)(hR:rs.length≤1000)(hr:eg hs rs.length):
 aN ((),V,F,hs.map tH,rs.map tR,())=some (V,F,hs.map tH,(dn ⟨V,F,hs,rs⟩).rs.map tR,0,V,F,hs.map tH,(dn ⟨V,F,hs,rs⟩).rs.map tR,()):=Md (t:=⟨V,F,hs,rs⟩) hn hR hr
def Z:Tp:=⟨0,0,[],[]⟩
def RO(X:Tp)(e:Int):Prop:=X.rs.length≤1000∧(e=0→0<X.rs.length)∧-1≤X.V∧X.V≤2000
theorem RO.of{t X:Tp}{e:Int}(ht:Sz t)(hV:X.V=t.V∨X.V=t.V+1∨X.V=t.V-1)(h:0<X.rs.length∧X.rs.length≤1000):RO X e:=by
 have:=ht.V0
 have:=ht.V1
 exact⟨h.2,fun _=>h.1,by omega,by omega⟩
theorem sZ{e:Int}(h:e≠0:=by decide):Z.hs.length≤1000∧RO Z e:=⟨HU _,HU _,fun x=>absurd x h,by decide,by decide⟩
theorem Tw{t:Tp}(ht:Hok t){r h:Nat}(hh:h<t.hs.length){y:Nat}(hy:y<t.hs.length+2):hG (lk (lk (lk (t.hs++[Hf.mk (hG t.hs h).f 0 0 r,Hf.mk t.V 0 0 r]) (pv t h) t.hs.length) t.hs.length (t.hs.length+1)) (t.hs.length+1) h) y=hG (gD t r h).hs y:=by
 have hp:=ht.aj hh
 have hl:(t.hs++[Hf.mk (hG t.hs h).f 0 0 r,Hf.mk t.V 0 0 r]).length=t.hs.length+2:=by simp
 rw[aY (by simp only[aF,hl];omega) (by simp only[aF,hl];omega),aY (by simp only[aF,hl];omega) (by simp only[aF,hl];omega),aY (by omega) (by omega)]
 by_cases e1:y<t.hs.length
 ·rw[fQ e1,lK ht hh e1]
  simp only[aA (show ¬t.hs.length+1=y by omega),aA (show ¬t.hs.length=y by omega)]
 ·by_cases e2:y=t.hs.length
  ·subst e2
   rw[oH,rQ ht hh]
   simp only[aA (show ¬t.hs.length+1=t.hs.length by omega),aA (show ¬pv t h=t.hs.length by omega),aA (show ¬h=t.hs.length by omega),eP]
  ·have e3:y=t.hs.length+1:=by omega
   subst e3
   rw[oJ,wG ht hh]
   simp only[aA (show ¬t.hs.length=t.hs.length+1 by omega),aA (show ¬pv t h=t.hs.length+1 by omega),aA (show ¬h=t.hs.length+1 by omega),eP]
theorem DZ{t:Tp}(ht:Sz t):bT (t.V,t.F,t.hs.map tH,t.rs.map tR,(2:Int),(1:Int),(0:Int),(0:Int),())=some (gQ t 2 1 0 0,()):=F5 ht (by decide) (by decide) (by decide) (by decide)
theorem qO{t:Tp}{r h:Nat}(hr:r<t.rs.length)(hh:h<t.hs.length)(h0:0≤(rG t.rs r).h):cP (t.V,t.F,t.hs.map tH,t.rs.map tR,(r:Int),(h:Int),())=some (eK t r h,()):=by
 have d1:decide ((rG t.rs r).h<0)=false:=aQ (by omega)
 have d2:decide ((0:Int)≤(h:Int))=true:=aM (by omega)
 unfold cP
 simp only[zS,hJ (l:=t.rs) (i:=(r:Int)) (by omega) (by omega),y0,aK,d1,gH,d2,dW (l:=t.hs) (i:=(h:Int)) (by omega) (by omega),jK]
 rfl
theorem qP{t:Tp}{r:Nat}{h:Int}(hr:r<t.rs.length)(h0:(rG t.rs r).h=-1):cP (t.V,t.F,t.hs.map tH,t.rs.map tR,(r:Int),h,())=some (decide (h=-1),()):=by
 have d1:decide ((-1:Int)<0)=true:=rfl
 unfold cP
 simp only[zS,hJ (l:=t.rs) (i:=(r:Int)) (by omega) (by omega),y0,h0,aK,d1]
theorem D7{t:Tp}{r:Nat}(hr:r<t.rs.length)(h0:0≤(rG t.rs r).h):cP (t.V,t.F,t.hs.map tH,t.rs.map tR,(r:Int),(-1:Int),())=some (false,()):=by
 have d1:decide ((rG t.rs r).h<0)=false:=aQ (by omega)
 have d2:decide ((0:Int)≤(-1:Int))=false:=rfl
 unfold cP
 simp only[hJ (l:=t.rs) (i:=(r:Int)) (by omega) (by omega),fI,y0,jX,aK,d1,bV,gH,d2]
theorem Ev{t:Tp}(ht:CKP t){r h:Nat}(hr:r<t.rs.length)(hh:h<t.hs.length)(cj:eK t r h=true)(hn:t.hs.length+2≤256)(hV:t.V+1≤257):
 cD (t.V,t.F,t.hs.map tH,t.rs.map tR,(r:Int),(h:Int),())=some (wY (lz (gD t r h)) 0):=by
 have hk:=ht.toHok
 have hz:=hk.toSz
 have hV0:=ht.V0
 have hF1:=ht.F1
 have hR:=ht.R
 have hp:=hk.aj hh
 obtain⟨c1,c2,c3,c4,ho⟩:=I4 ht hr hh cj
 have hro:gQ t 2 1 0 0=true:=by
  unfold gQ;simp only[cM,cK];omega
 have hi1:rJ (r:Int) (t.rs.length:Int)=true:=bR.2 ⟨by omega,by omega⟩
 have hi2:rJ (h:Int) (t.hs.length:Int)=true:=bR.2 ⟨by omega,by omega⟩
 have d1:decide ((h:Int)=-1)=false:=aQ (by omega)
 have d3:decide ((h:Int)<0)=false:=aQ (by omega)
 have hwV:wr .i64 (t.V+1)=t.V+1:=gN (by omega) (by omega)
 have hl1:(t.hs++[Hf.mk (hG t.hs h).f 0 0 r,Hf.mk t.V 0 0 r]).length=t.hs.length+2:=by simp
 have hL:lk (lk (lk (t.hs++[Hf.mk (hG t.hs h).f 0 0 r,Hf.mk t.V 0 0 r]) (pv t h) t.hs.length) t.hs.length (t.hs.length+1)) (t.hs.length+1) h=(gD t r h).hs:=
  uS (by simp only[aF,hl1,wF]) fun j hj=>Tw hk hh (by simp only[aF,hl1] at hj;exact hj)
 have hmk:=QO ht hh cj hr hn hV
 have k1:=xN (V:=t.V+1) (F:=t.F) (rs:=t.rs.map tR) (hs:=t.hs++[Hf.mk (hG t.hs h).f 0 0 r,Hf.mk t.V 0 0 r]) (a:=pv t h) (b:=t.hs.length) (by omega) (by omega)
 have k2:=xN (V:=t.V+1) (F:=t.F) (rs:=t.rs.map tR) (hs:=lk (t.hs++[Hf.mk (hG t.hs h).f 0 0 r,Hf.mk t.V 0 0 r]) (pv t h) t.hs.length) (a:=t.hs.length) (b:=t.hs.length+1) (by simp only[aF];omega) (by simp only[aF];omega)
 have k3:=xN (V:=t.V+1) (F:=t.F) (rs:=t.rs.map tR) (hs:=lk (lk (t.hs++[Hf.mk (hG t.hs h).f 0 0 r,Hf.mk t.V 0 0 r]) (pv t h) t.hs.length) t.hs.length (t.hs.length+1)) (a:=t.hs.length+1) (b:=h) (by simp only[aF];omega) (by simp only[aF];omega)
 have hd:=AC (V:=t.V+1) (F:=t.F) (hs:=(gD t r h).hs) (rs:=t.rs) (by rw[wF];omega) (by omega) hmk.toHok.kg
 unfold cD
 simp only[zS,bE ht,bM,cE,DZ hz,hro,bC,bL,hi1,hi2,aK,d1,d3,qO hr hh c1,cj,oZ hz,aG (n:=(t.hs.length:Int)) (i:=h) (by omega),aU,gI hh,sX,mK,hk.bo hh,aO,hwV,F4 (hs:=t.hs) (by omega),k1,k2,k3,hL,hd]
 rw[hmk.gn]
 rfl
def eM(t:Tp)(r:Nat):Tp:=⟨t.V+1,t.F,t.hs++[Hf.mk (rG t.rs r).v ((t.hs.length+1:Nat):Int) ((t.hs.length+1:Nat):Int) (r:Int),Hf.mk t.V (t.hs.length:Int) (t.hs.length:Int) (r:Int)],t.rs.set r { rG t.rs r with h:=(t.hs.length:Int),v:=-1 }⟩
theorem oK(t:Tp)(r:Nat):(eM t r).hs.length=t.hs.length+2:=by simp[eM]
theorem uH{t:Tp}{r j:Nat}(hj:j<t.hs.length):hG (eM t r).hs j=hG t.hs j:=fQ hj
theorem wH(t:Tp)(r:Nat):hG (eM t r).hs (t.hs.length:Nat)=⟨(rG t.rs r).v,((t.hs.length+1:Nat):Int),((t.hs.length+1:Nat):Int),(r:Int)⟩:=oH
theorem xO(t:Tp)(r:Nat):hG (eM t r).hs ((t.hs.length+1:Nat):Int)=⟨t.V,(t.hs.length:Int),(t.hs.length:Int),(r:Int)⟩:=oJ
theorem Mg(V F:Int)(n:Nat)(l:List Hf)(rs:List Rg)(h0:(hG l (n:Nat)).n=((n+1:Nat):Int))(h1:(hG l ((n+1:Nat):Int)).n=(n:Int)):bz (nx ⟨V,F,l,rs⟩) n [n+1]:=by
 refine⟨⟨?_,?_⟩,by simp⟩
 ·show ((hG l (n:Nat)).n).toNat=n+1
  rw[h0];rfl
 ·show ((hG l ((n+1:Nat):Int)).n).toNat=n
  rw[h1];rfl
theorem Mh{t:Tp}(ht:CKP t){r:Nat}(hr:r<t.rs.length):lz (eM t r)=dn { eM t r with rs:=t.rs.set r { rG t.rs r with v:=-1 } }:=by
 refine L8 rfl rfl rfl (by simp[eM]) fun i hi=>?_
 have hil:i<t.rs.length:=by simpa using hi
 have e1:(eM t r).rs=t.rs.set r { rG t.rs r with h:=(t.hs.length:Int),v:=-1 }:=rfl
 have e3:∀k,eK { eM t r with rs:=t.rs.set r { rG t.rs r with v:=-1 } } (i:Int) k=eK (eM t r) (i:Int) k:=fun k=>rfl
 have e4:({ eM t r with rs:=t.rs.set r { rG t.rs r with v:=-1 } }:Tp).hs=(eM t r).hs:=rfl
 rw[e1]
 simp only[e3,iD hr]
 by_cases e:r=i
 ·subst e
  simp only[eP]
  refine⟨trivial,trivial,.inl ⟨⟨t.hs.length,by rw[oK];omega,by unfold eK;rw[wH];exact aM rfl⟩,by omega,by decide⟩⟩
 ·simp only[aA e]
  refine⟨trivial,trivial,?_⟩
  rcases ht.two hil with⟨⟨k,hk,hp⟩,h2,h3⟩ | ⟨h1,h2,h3⟩
  ·exact .inl ⟨⟨k,by rw[oK];omega,by unfold eK at *;rw[uH hk];exact hp⟩,h2,by omega⟩
  ·refine .inr ⟨fun k hk=>?_,h2,.inr h2⟩
   rw[oK] at hk
   by_cases a1:k<t.hs.length
   ·have:=h1 k a1;unfold eK at *;rw[uH a1];exact this
   ·by_cases a2:k=t.hs.length
    ·subst a2;unfold eK;rw[wH];exact aQ (by show ¬(r:Int)=(i:Int);omega)
    ·have a3:k=t.hs.length+1:=by omega
     subst a3;unfold eK;rw[xO];exact aQ (by show ¬(r:Int)=(i:Int);omega)
theorem F8{t:Tp}(ht:CKP t){r:Nat}(hr:r<t.rs.length)(h:(rG t.rs r).h=-1):0≤(rG t.rs r).v∧(rG t.rs r).v<t.V∧∀k,k<t.hs.length→eK t r k=false:=by
 rcases ht.rr r hr with⟨_,h2,h3,h4⟩ | ⟨h1,_⟩
 ·exact⟨h2,h3,h4⟩
 ·omega
theorem Mi{t:Tp}(ht:CKP t){r:Nat}(hr:r<t.rs.length)(hs:(rG t.rs r).h=-1)(hn:t.hs.length+2≤256)(hV:t.V+1≤257):
 gS (t.V,t.F,t.hs.map tH,t.rs.map tR,(r:Int),(-1:Int),())=some (wY (lz (eM t r)) 0):=by
 have hk:=ht.toHok
 have hz:=hk.toSz
 have hV0:=ht.V0
 have hF1:=ht.F1
 have hR:=ht.R
 have hro:gQ t 2 1 0 0=true:=by
  unfold gQ;simp only[cM,cK];omega
 have hi1:rJ (r:Int) (t.rs.length:Int)=true:=bR.2 ⟨by omega,by omega⟩
 have d1:decide ((-1:Int)=-1)=true:=rfl
 have hwV:wr .i64 (t.V+1)=t.V+1:=gN (by omega) (by omega)
 obtain⟨L1,hL1⟩:∃L1,L1=t.hs++[Hf.mk (rG t.rs r).v 0 0 0,Hf.mk t.V 0 0 0]:=⟨_,rfl⟩
 have hl1:L1.length=t.hs.length+2:=by rw[hL1];simp
 obtain⟨L2,hL2⟩:∃L2,L2=lk (lk L1 t.hs.length (t.hs.length+1)) (t.hs.length+1) t.hs.length:=⟨_,rfl⟩
 have hl2:L2.length=t.hs.length+2:=by rw[hL2,aF,aF,hl1]
 have g2:∀y,y<t.hs.length+2→hG L2 y={ hG (eM t r).hs y with r:=if y<t.hs.length then (hG t.hs y).r else 0 }:=fun y hy=>by
  rw[hL2,aY (by simp only[aF,hl1];omega) (by simp only[aF,hl1];omega),aY (by omega) (by omega),hL1]
  by_cases a1:y<t.hs.length
  ·rw[fQ a1,uH a1]
   simp only[aC a1,aA (show ¬t.hs.length+1=y by omega),aA (show ¬t.hs.length=y by omega)]
  ·by_cases a2:y=t.hs.length
   ·subst a2
    rw[oH,wH]
    simp only[aA a1,aA (show ¬t.hs.length+1=t.hs.length by omega),eP]
   ·have a3:y=t.hs.length+1:=by omega
    subst a3
    rw[oJ,xO]
    simp only[aA a1,aA (show ¬t.hs.length=t.hs.length+1 by omega),eP]
 have k1:=xL (V:=t.V+1) (F:=t.F) (rs:=t.rs.map tR) (hs:=L1) (a:=t.hs.length) (b:=t.hs.length+1) (by omega) (by omega)
 have k2:=xL (V:=t.V+1) (F:=t.F) (rs:=t.rs.map tR) (hs:=lk L1 t.hs.length (t.hs.length+1)) (a:=t.hs.length+1) (b:=t.hs.length) (by simp only[aF];omega) (by simp only[aF];omega)
 have hcy:bz (nx ⟨t.V+1,t.F,L2,t.rs⟩) t.hs.length [t.hs.length+1]:=Mg _ _ _ _ _ (by rw[g2 _ (by omega),wH]) (by rw[g2 _ (by omega),xO])
 have hb:∀y∈t.hs.length::[t.hs.length+1],y<L2.length:=fun y hy=>by
  rw[hl2]
  simp only[cN,JF,FB] at hy
  omega
 have hset:=xM (V:=t.V+1) (F:=t.F) (rs:=t.rs) (by omega) hcy hb (fun y hy=>by
  simp only[cN,JF,FB] at hy
  rcases hy with e | e
  ·subst e;show _=(((hG L2 (t.hs.length:Nat)).n).toNat:Int);rw[g2 _ (by omega),wH];rfl
  ·subst e;show _=(((hG L2 ((t.hs.length+1:Nat):Int)).n).toNat:Int);rw[g2 _ (by omega),xO];rfl) hr
 have hst:lJ ⟨t.V+1,t.F,L2,t.rs⟩ t.hs.length [t.hs.length+1] r=eM t r:=by
  have h1:ar L2 (t.hs.length::[t.hs.length+1]) (r:Int)=(eM t r).hs:=by
   refine uS (by rw[cF,hl2,oK]) fun j hj=>?_
   rw[cF,hl2] at hj
   rw[dX _ _ _ _ hb,g2 j hj]
   by_cases a1:j<t.hs.length
   ·have hnm:j∉t.hs.length::[t.hs.length+1]:=by
     simp only[cN,JF,FB];omega
    rw[aA hnm,uH a1]
    simp only[aC a1]
   ·have hm:j∈t.hs.length::[t.hs.length+1]:=by
     simp only[cN,JF,FB];omega
    rw[aC hm]
    by_cases a2:j=t.hs.length
    ·subst a2;rw[wH]
    ·have a3:j=t.hs.length+1:=by omega
     subst a3;rw[xO]
  unfold lJ
  simp only[h1]
  rfl
 rw[hst] at hset
 have hls:=F3 (V:=t.V+1) (F:=t.F) (hs:=(eM t r).hs) (rs:=(eM t r).rs) (by rw[oK];omega) (by show (t.rs.set _ _).length≤_;rw[cW];omega)
 have hms:(⟨t.V+1,t.F,(eM t r).hs,(eM t r).rs⟩:Tp)=eM t r:=rfl
 unfold gS
 simp only[zS,bD ht,mM hz,DW hz,hro,fP,bC,bL,hi1,hJ (l:=t.rs) (i:=(r:Int)) (by omega) (by omega),y0,FU,hs,PL,Aa,aG (n:=(t.rs.length:Int)) (i:=r) (by omega),aU,sO hr,aW,aO,hwV,FX (hs:=t.hs) (by omega),←hL1,k1,k2,←hL2,hset,hls,hms]
 rfl
theorem Ew{t:Tp}(ht:CKP t){r:Nat}(hr:r<t.rs.length)(hs:(rG t.rs r).h=-1)(hn:t.hs.length+2≤256)(hV:t.V+1≤257):
 cD (t.V,t.F,t.hs.map tH,t.rs.map tR,(r:Int),(-1:Int),())=some (wY (lz (eM t r)) 0):=by
 have hk:=ht.toHok
 have hz:=hk.toSz
 have hV0:=ht.V0
 have hF1:=ht.F1
 have hR:=ht.R
 have hro:gQ t 2 1 0 0=true:=by
  unfold gQ;simp only[cM,cK];omega
 have hi1:rJ (r:Int) (t.rs.length:Int)=true:=bR.2 ⟨by omega,by omega⟩
 have d1:decide ((-1:Int)=-1)=true:=rfl
 have d3:decide ((-1:Int)<0)=true:=rfl
 have hwV:wr .i64 (t.V+1)=t.V+1:=gN (by omega) (by omega)
 obtain⟨L1,hL1⟩:∃L1,L1=t.hs++[Hf.mk (rG t.rs r).v 0 0 (r:Int),Hf.mk t.V 0 0 (r:Int)]:=⟨_,rfl⟩
 have hl1:L1.length=t.hs.length+2:=by rw[hL1];simp
 have hL2:lk (lk L1 t.hs.length (t.hs.length+1)) (t.hs.length+1) t.hs.length=(eM t r).hs:=by
  refine uS (by rw[aF,aF,hl1,oK]) fun y hy=>?_
  rw[aF,aF,hl1] at hy
  rw[aY (by simp only[aF,hl1];omega) (by simp only[aF,hl1];omega),aY (by omega) (by omega),hL1]
  by_cases a1:y<t.hs.length
  ·rw[fQ a1,uH a1]
   simp only[aA (show ¬t.hs.length+1=y by omega),aA (show ¬t.hs.length=y by omega)]
  ·by_cases a2:y=t.hs.length
   ·subst a2
    rw[oH,wH]
    simp only[aA (show ¬t.hs.length+1=t.hs.length by omega),eP]
   ·have a3:y=t.hs.length+1:=by omega
    subst a3
    rw[oJ,xO]
    simp only[aA (show ¬t.hs.length=t.hs.length+1 by omega),eP]
 have k1:=xN (V:=t.V+1) (F:=t.F) (rs:=t.rs.map tR) (hs:=L1) (a:=t.hs.length) (b:=t.hs.length+1) (by omega) (by omega)
 have k2:=xN (V:=t.V+1) (F:=t.F) (rs:=t.rs.map tR) (hs:=lk L1 t.hs.length (t.hs.length+1)) (a:=t.hs.length+1) (b:=t.hs.length) (by simp only[aF];omega) (by simp only[aF];omega)
 have hrg:eg (eM t r).hs t.rs.length:=fun k hk2=>by
  rw[oK] at hk2
  by_cases a1:k<t.hs.length
  ·rw[uH a1];exact hk.kg k a1
  ·by_cases a2:k=t.hs.length
   ·subst a2;rw[wH];show 0≤(r:Int)∧(r:Int)<_;omega
   ·have a3:k=t.hs.length+1:=by omega
    subst a3;rw[xO];show 0≤(r:Int)∧(r:Int)<_;omega
 have hd:=AC (V:=t.V+1) (F:=t.F) (hs:=(eM t r).hs) (rs:=t.rs.set r { rG t.rs r with v:=-1 }) (by rw[oK];omega) (by rw[cW];omega) (by rw[cW];exact hrg)
 unfold cD
 simp only[zS,bE ht,bM,cE,DZ hz,hro,bC,hi1,aK,d3,qP hr hs,oZ hz,aG (n:=(t.rs.length:Int)) (i:=r) (by omega),aU,sO hr,FU,aO,hwV,F4 (hs:=t.hs) (by omega),←hL1,k1,k2,hL2,bS,FW,wX,hd]
 rw[Mh ht hr]
 rfl
theorem yR{t:Tp}(h:¬CKP t):eO (t.V,t.F,t.hs.map tH,t.rs.map tR,())=some (false,())∧bW (t.V,t.F,t.hs.map tH,t.rs.map tR,())=some (false,()):=by
 have hf:Tr t=false:=UC.2 fun h2=>h (HC.1 h2)
 have h1:=QN t
 have h2:=J5 t
 rw[hf] at h1 h2
 exact⟨h1,h2⟩
def mk{α:Type}(g:α→α)(l:List α)(k:Nat):List α:=(l.take k).map g++l.drop k
theorem BB{α:Type}(g:α→α)(l:List α)(k:Nat):(mk g l k).length=l.length:=by unfold mk;simp;omega
theorem wI{α:Type}(g:α→α)(l:List α):mk g l 0=l:=by simp[mk]
theorem BC{α:Type}(g:α→α)(l:List α):mk g l l.length=l.map g:=by simp[mk]
theorem xP{α:Type}(g:α→α)(l:List α){k:Nat}(h:k<l.length):(mk g l k)[k]?=l[k]?:=by
 unfold mk
 rw[HS (by simp;omega),cS,mU,OP (by omega),UA,tV]
 rfl
theorem zC{α:Type}(g:α→α){l:List α}{k:Nat}{x:α}(h:l[k]?=some x):(mk g l k).set k (g x)=mk g l (k+1):=by
 obtain⟨hk,hx⟩:=dA.1 h
 unfold mk
 rw[JE,aA (by simp;omega),cS,mU,OP (by omega),UA,UE hk,EM,JD]
 congr 1
 rw[ZL hk,hx]
 rfl
theorem yE{α:Type}(g:α→α){l:List α}{k:Nat}{x:α}(h:l[k]?=some x)(hg:g x=x):mk g l (k+1)=mk g l k:=by
 rw[←zC g h,hg]
 exact kQ (by rw[xP g l (dA.1 h).1];exact h)
theorem qQ{l:List Hf}(g:Hf→Hf){j:Nat}(h:j<l.length):hG (l.map g) j=g (hG l j):=by
 have h1:(l.map g)[j]?=some (hG (l.map g) j):=sL _ _ (by simpa using h)
 rw[eW,sL _ _ h] at h1
 exact(Option.some.inj h1).symm
theorem uU{l:List Rg}(g:Rg→Rg){j:Nat}(h:j<l.length):rG (l.map g) j=g (rG l j):=by
 have h1:(l.map g)[j]?=some (rG (l.map g) j):=wD _ _ (by simpa using h)
 rw[eW,wD _ _ h] at h1
 exact(Option.some.inj h1).symm
theorem Qj{l:List Rg}{k j:Nat}(h:j<k):rG (l.take k) j=rG l j:=by
 unfold rG;rw[nR,jY,jY,List.getElem?_take_of_lt h]
def gF(a b:Int)(x:Hf):Hf:=if x.f=a then { x with f:=b } else x
def gR(a b:Int)(x:Hf):Hf:=if x.r=a then { x with r:=b } else x
def gV(a b:Int)(x:Rg):Rg:=if x.v=a then { x with v:=b } else x
def gC(a b:Int)(x:Rg):Rg:=if x.c=a then { x with c:=b } else x
def dV(t:Tp)(v:Int):Tp:=⟨t.V-1,t.F,t.hs.map (gF (t.V-1) v),t.rs.map (gV (t.V-1) v)⟩
def dF(t:Tp)(f:Int):Tp:=⟨t.V,t.F-1,t.hs,t.rs.map (gC (t.F-1) f)⟩
def dR(t:Tp)(r:Nat):Tp:=⟨t.V,t.F,t.hs.map (gR ((t.rs.length-1:Nat):Int) (r:Int)),(t.rs.set r (rG t.rs (t.rs.length-1:Nat))).take (t.rs.length-1)⟩
theorem QR{V F:Int}{hs:List Hf}{rs:List Rg}(h:1<rs.length∧rs.length≤1000)(b:Nat):0<(dR ⟨V,F,hs,rs⟩ b).rs.length∧(dR ⟨V,F,hs,rs⟩ b).rs.length≤1000:=by
 show 0<(List.take _ (List.set _ _ _)).length∧(List.take _ (List.set _ _ _)).length≤_
 rw[mU,cW]
 exact⟨Nat.lt_min.2 ⟨by show 0<rs.length-1;omega,by show 0<rs.length;omega⟩,IG (Nat.min_le_right _ _) h.2⟩
theorem Vv{V F:Int}{rs:List T}{l:List Hf}(hn:l.length≤1000)(v:Int):bH kC ((),v,0,V,F,l.map tH,rs,())=some (.inl ((),v,V,F,(l.map (gF V v)).map tH,rs,())):=by
 have h1:=bN (F:=kC) l.length (fun k=>((),v,(k:Int),V,F,(mk (gF V v) l k).map tH,rs,())) (fun k hk=>by
  have hlt:decide ((k:Int)<(l.length:Int))=true:=aM (by omega)
  have hx:=sL l k hk
  have hlen:(mk (gF V v) l k).length=l.length:=BB _ _ _
  have hg:((mk (gF V v) l k).map tH)[k]?=some (tH (hG l k)):=by rw[eW,xP _ _ hk,hx];rfl
  unfold kC
  simp only[zS,aK,bL,hlen,hlt,aG (n:=(l.length:Int)) (i:=k) (by omega),aU,hg,sX]
  by_cases e:(hG l k).f=V
  ·have hgx:gF V v (hG l k)={ hG l k with f:=v }:=aC e
   rw[←zC (gF V v) hx,hgx]
   simp only[aM e,bF,fI,bS,Vu,CG,aW,aO,wk (k:=k) (by omega)]
  ·rw[yE (gF V v) hx (aA e)]
   simp only[aQ e,bV,fI,aW,aO,wk (k:=k) (by omega)])
 have e0:((),v,(0:Int),V,F,l.map tH,rs,())=((),v,((0:Nat):Int),V,F,(mk (gF V v) l 0).map tH,rs,()):=by rw[wI];rfl
 rw[e0,h1]
 refine bA ?_
 have hlt:decide ((l.length:Int)<(l.length:Int))=false:=aQ (by omega)
 unfold kC
 simp only[aK,BC,bL,cS,hlt,bV]
theorem Vw{V F:Int}{hs:List T}{l:List Rg}(hn:l.length≤1000)(v:Int):bH kD ((),v,0,V,F,hs,l.map tR,())=some (.inl (V,F,hs,(l.map (gV V v)).map tR,())):=by
 have h1:=bN (F:=kD) l.length (fun k=>((),v,(k:Int),V,F,hs,(mk (gV V v) l k).map tR,())) (fun k hk=>by
  have hlt:decide ((k:Int)<(l.length:Int))=true:=aM (by omega)
  have hx:=wD l k hk
  have hlen:(mk (gV V v) l k).length=l.length:=BB _ _ _
  have hg:((mk (gV V v) l k).map tR)[k]?=some (tR (rG l k)):=by rw[eW,xP _ _ hk,hx];rfl
  unfold kD
  simp only[zS,aK,bC,hlen,hlt,aG (n:=(l.length:Int)) (i:=k) (by omega),aU,hg,FU]
  by_cases e:(rG l k).v=V
  ·have hgx:gV V v (rG l k)={ rG l k with v:=v }:=aC e
   rw[←zC (gV V v) hx,hgx]
   simp only[aM e,bF,fI,bS,FW,wX,aW,aO,wk (k:=k) (by omega)]
  ·rw[yE (gV V v) hx (aA e)]
   simp only[aQ e,bV,fI,aW,aO,wk (k:=k) (by omega)])
 have e0:((),v,(0:Int),V,F,hs,l.map tR,())=((),v,((0:Nat):Int),V,F,hs,(mk (gV V v) l 0).map tR,()):=by rw[wI];rfl
 rw[e0,h1]
 refine bA ?_
 have hlt:decide ((l.length:Int)<(l.length:Int))=false:=aQ (by omega)
 unfold kD
 simp only[aK,BC,bC,cS,hlt,bV]
theorem V2{t:Tp}(hn:t.hs.length≤1000)(hR:t.rs.length≤1000)(hV:0≤t.V∧t.V≤1000)(v:Int):qS ((),v,t.V,t.F,t.hs.map tH,t.rs.map tR,())=some (oF (dV t v)):=by
 have hw:wr .i64 (t.V-1)=t.V-1:=gN (by omega) (by omega)
 unfold qS
 simp only[nO,hw,Vv hn,fI,aW,Vw hR]
 rfl
theorem Vx{V F:Int}{hs:List T}{l:List Rg}(hn:l.length≤1000)(f:Int):bH mC ((),f,0,V,F,hs,l.map tR,())=some (.inl (V,F,hs,(l.map (gC F f)).map tR,())):=by
 have h1:=bN (F:=mC) l.length (fun k=>((),f,(k:Int),V,F,hs,(mk (gC F f) l k).map tR,())) (fun k hk=>by
  have hlt:decide ((k:Int)<(l.length:Int))=true:=aM (by omega)
  have hx:=wD l k hk
  have hlen:(mk (gC F f) l k).length=l.length:=BB _ _ _
  have hg:((mk (gC F f) l k).map tR)[k]?=some (tR (rG l k)):=by rw[eW,xP _ _ hk,hx];rfl
  unfold mC
  simp only[zS,aK,bC,hlen,hlt,aG (n:=(l.length:Int)) (i:=k) (by omega),aU,hg,fA]
  by_cases e:(rG l k).c=F
  ·have hgx:gC F f (rG l k)={ rG l k with c:=f }:=aC e
   rw[←zC (gC F f) hx,hgx]
   simp only[aM e,bF,fI,bS,Hz,wX,aW,aO,wk (k:=k) (by omega)]
  ·rw[yE (gC F f) hx (aA e)]
   simp only[aQ e,bV,fI,aW,aO,wk (k:=k) (by omega)])
 have e0:((),f,(0:Int),V,F,hs,l.map tR,())=((),f,((0:Nat):Int),V,F,hs,(mk (gC F f) l 0).map tR,()):=by rw[wI];rfl
 rw[e0,h1]
 refine bA ?_
 have hlt:decide ((l.length:Int)<(l.length:Int))=false:=aQ (by omega)
 unfold mC
 simp only[aK,BC,bC,cS,hlt,bV]
theorem Co{t:Tp}(hR:t.rs.length≤1000)(hF:0≤t.F∧t.F≤1000)(f:Int):kJ ((),f,t.V,t.F,t.hs.map tH,t.rs.map tR,())=some (oF (dF t f)):=by
 have hw:wr .i64 (t.F-1)=t.F-1:=gN (by omega) (by omega)
 unfold kJ
 simp only[nO,hw,Vx hR,fI,aW]
 rfl
theorem Vy{V F:Int}{rs:List T}{l:List Hf}(hn:l.length≤1000)(r q:Int):bH mD ((),r,q,0,V,F,l.map tH,rs,())=some (.inl (V,F,(l.map (gR q r)).map tH,rs,())):=by
 have h1:=bN (F:=mD) l.length (fun k=>((),r,q,(k:Int),V,F,(mk (gR q r) l k).map tH,rs,())) (fun k hk=>by
  have hlt:decide ((k:Int)<(l.length:Int))=true:=aM (by omega)
  have hx:=sL l k hk
  have hlen:(mk (gR q r) l k).length=l.length:=BB _ _ _
  have hg:((mk (gR q r) l k).map tH)[k]?=some (tH (hG l k)):=by rw[eW,xP _ _ hk,hx];rfl
  unfold mD
  simp only[zS,aK,bL,hlen,hlt,aG (n:=(l.length:Int)) (i:=k) (by omega),aU,hg,jK]
  by_cases e:(hG l k).r=q
  ·have hgx:gR q r (hG l k)={ hG l k with r:=r }:=aC e
   rw[←zC (gR q r) hx,hgx]
   simp only[aM e,bF,fI,bS,Hy,CG,aW,aO,wk (k:=k) (by omega)]
  ·rw[yE (gR q r) hx (aA e)]
   simp only[aQ e,bV,fI,aW,aO,wk (k:=k) (by omega)])
 have e0:((),r,q,(0:Int),V,F,l.map tH,rs,())=((),r,q,((0:Nat):Int),V,F,(mk (gR q r) l 0).map tH,rs,()):=by rw[wI];rfl
 rw[e0,h1]
 refine bA ?_
 have hlt:decide ((l.length:Int)<(l.length:Int))=false:=aQ (by omega)
 unfold mD
 simp only[aK,BC,bL,cS,hlt,bV]
theorem Vz(x:Rg)(a b c:Int):T.aw 3 (tR x) 0 [tI a,tI b,tI c]=tR ⟨a,b,c⟩:=by unfold T.aw;rfl
theorem Mj{n m:Nat}(h:m≤n):JJ (n:Int) 0 (m:Int)=some (0,m):=by
 unfold JJ;rw[aC ⟨by omega,by omega,by omega⟩,Int.sub_zero,nR];rfl
theorem Ml{α:Type}(l:List α)(m:Nat):oC l 0 m=l.take m:=by unfold oC;rw[T0]
theorem QS{t:Tp}(hn:t.hs.length≤1000)(hR:t.rs.length≤1000){r:Nat}(hr:r<t.rs.length):gO ((),(r:Int),t.V,t.F,t.hs.map tH,t.rs.map tR,())=some (oF (dR t r)):=by
 have hw:wr .i64 ((t.rs.length:Int)-1)=((t.rs.length-1:Nat):Int):=by rw[gN (by omega) (by omega)];omega
 have heta:∀z:Rg,(⟨z.h,z.v,z.c⟩:Rg)=z:=fun z=>rfl
 unfold gO
 simp only[bC,nO,hw,aG (n:=(t.rs.length:Int)) (i:=t.rs.length-1) (by omega),aG (n:=(t.rs.length:Int)) (i:=r) (by omega),fI,aU,sO (l:=t.rs) (k:=t.rs.length-1) (by omega),sO hr,y0,FU,fA,jX,bS,Vz,heta,wX,cW,Mj (n:=t.rs.length) (m:=t.rs.length-1) (by omega),Ml,Vy hn,aW]
 unfold oF dR
 simp only[LE]
theorem Wa{V F:Int}{rs:List T}{l:List Hf}(hn:l.length≤1000)(v:Int):bH eI ((),v,(l.length:Int),0,V,F,l.map tH,rs,())=some (.inl ((),v,V,F,(l.map (gF V v)).map tH,rs,())):=by
 have h1:=bN (F:=eI) l.length (fun k=>((),v,(l.length:Int),(k:Int),V,F,(mk (gF V v) l k).map tH,rs,())) (fun k hk=>by
  have hlt:decide ((k:Int)<(l.length:Int))=true:=aM (by omega)
  have hx:=sL l k hk
  have hlen:(mk (gF V v) l k).length=l.length:=BB _ _ _
  have hg:((mk (gF V v) l k).map tH)[k]?=some (tH (hG l k)):=by rw[eW,xP _ _ hk,hx];rfl
  unfold eI
  simp only[zS,aK,bL,hlen,hlt,aG (n:=(l.length:Int)) (i:=k) (by omega),aU,hg,sX]
  by_cases e:(hG l k).f=V
  ·have hgx:gF V v (hG l k)={ hG l k with f:=v }:=aC e
   rw[←zC (gF V v) hx,hgx]
   simp only[aM e,bF,fI,bS,Vu,CG,aW,aO,wk (k:=k) (by omega)]
  ·rw[yE (gF V v) hx (aA e)]
   simp only[aQ e,bV,fI,aW,aO,wk (k:=k) (by omega)])
 have e0:((),v,(l.length:Int),(0:Int),V,F,l.map tH,rs,())=((),v,(l.length:Int),((0:Nat):Int),V,F,(mk (gF V v) l 0).map tH,rs,()):=by rw[wI];rfl
 rw[e0,h1]
 refine bA ?_
 have hlt:decide ((l.length:Int)<(l.length:Int))=false:=aQ (by omega)
 unfold eI
 simp only[aK,BC,hlt,bV]
theorem Wb{V F:Int}{hs:List T}{l:List Rg}(hn:l.length≤1000)(v:Int):bH eJ ((),v,(l.length:Int),0,V,F,hs,l.map tR,())=some (.inl (V,F,hs,(l.map (gV V v)).map tR,())):=by
 have h1:=bN (F:=eJ) l.length (fun k=>((),v,(l.length:Int),(k:Int),V,F,hs,(mk (gV V v) l k).map tR,())) (fun k hk=>by
  have hlt:decide ((k:Int)<(l.length:Int))=true:=aM (by omega)
  have hx:=wD l k hk
  have hlen:(mk (gV V v) l k).length=l.length:=BB _ _ _
  have hg:((mk (gV V v) l k).map tR)[k]?=some (tR (rG l k)):=by rw[eW,xP _ _ hk,hx];rfl
  unfold eJ
  simp only[zS,aK,bC,hlen,hlt,aG (n:=(l.length:Int)) (i:=k) (by omega),aU,hg,FU]
  by_cases e:(rG l k).v=V
  ·have hgx:gV V v (rG l k)={ rG l k with v:=v }:=aC e
   rw[←zC (gV V v) hx,hgx]
   simp only[aM e,bF,fI,bS,FW,wX,aW,aO,wk (k:=k) (by omega)]
  ·rw[yE (gV V v) hx (aA e)]
   simp only[aQ e,bV,fI,aW,aO,wk (k:=k) (by omega)])
 have e0:((),v,(l.length:Int),(0:Int),V,F,hs,l.map tR,())=((),v,(l.length:Int),((0:Nat):Int),V,F,hs,(mk (gV V v) l 0).map tR,()):=by rw[wI];rfl
 rw[e0,h1]
 refine bA ?_
 have hlt:decide ((l.length:Int)<(l.length:Int))=false:=aQ (by omega)
 unfold eJ
 simp only[aK,BC,hlt,bV]
theorem J6{t:Tp}(hn:t.hs.length≤1000)(hR:t.rs.length≤1000)(hV:0≤t.V∧t.V≤1000)(v:Int):gZ ((),v,t.V,t.F,t.hs.map tH,t.rs.map tR,())=some (oF (dV t v)):=by
 have hw:wr .i64 (t.V-1)=t.V-1:=gN (by omega) (by omega)
 unfold gZ
 simp only[bL,bC,nO,hw,Wa hn,fI,aW,Wb hR]
 rfl
theorem Wc{V F:Int}{hs:List T}{l:List Rg}(hn:l.length≤1000)(f:Int):bH eX ((),f,(l.length:Int),0,V,F,hs,l.map tR,())=some (.inl (V,F,hs,(l.map (gC F f)).map tR,())):=by
 have h1:=bN (F:=eX) l.length (fun k=>((),f,(l.length:Int),(k:Int),V,F,hs,(mk (gC F f) l k).map tR,())) (fun k hk=>by
  have hlt:decide ((k:Int)<(l.length:Int))=true:=aM (by omega)
  have hx:=wD l k hk
  have hlen:(mk (gC F f) l k).length=l.length:=BB _ _ _
  have hg:((mk (gC F f) l k).map tR)[k]?=some (tR (rG l k)):=by rw[eW,xP _ _ hk,hx];rfl
  unfold eX
  simp only[zS,aK,bC,hlen,hlt,aG (n:=(l.length:Int)) (i:=k) (by omega),aU,hg,fA]
  by_cases e:(rG l k).c=F
  ·have hgx:gC F f (rG l k)={ rG l k with c:=f }:=aC e
   rw[←zC (gC F f) hx,hgx]
   simp only[aM e,bF,fI,bS,Hz,wX,aW,aO,wk (k:=k) (by omega)]
  ·rw[yE (gC F f) hx (aA e)]
   simp only[aQ e,bV,fI,aW,aO,wk (k:=k) (by omega)])
 have e0:((),f,(l.length:Int),(0:Int),V,F,hs,l.map tR,())=((),f,(l.length:Int),((0:Nat):Int),V,F,hs,(mk (gC F f) l 0).map tR,()):=by rw[wI];rfl
 rw[e0,h1]
 refine bA ?_
 have hlt:decide ((l.length:Int)<(l.length:Int))=false:=aQ (by omega)
 unfold eX
 simp only[aK,BC,hlt,bV]
theorem QT{t:Tp}(hR:t.rs.length≤1000)(hF:0≤t.F∧t.F≤1000)(f:Int):dJ ((),f,t.V,t.F,t.hs.map tH,t.rs.map tR,())=some (oF (dF t f)):=by
 have hw:wr .i64 (t.F-1)=t.F-1:=gN (by omega) (by omega)
 unfold dJ
 simp only[bC,nO,hw,Wc hR,fI,aW]
 rfl
theorem Wd{V F:Int}{rs:List T}{l:List Hf}(hn:l.length≤1000)(r q:Int):bH eZ ((),r,q,(l.length:Int),0,V,F,l.map tH,rs,())=some (.inl (V,F,(l.map (gR q r)).map tH,rs,())):=by
 have h1:=bN (F:=eZ) l.length (fun k=>((),r,q,(l.length:Int),(k:Int),V,F,(mk (gR q r) l k).map tH,rs,())) (fun k hk=>by
  have hlt:decide ((k:Int)<(l.length:Int))=true:=aM (by omega)
  have hx:=sL l k hk
  have hlen:(mk (gR q r) l k).length=l.length:=BB _ _ _
  have hg:((mk (gR q r) l k).map tH)[k]?=some (tH (hG l k)):=by rw[eW,xP _ _ hk,hx];rfl
  unfold eZ
  simp only[zS,aK,bL,hlen,hlt,aG (n:=(l.length:Int)) (i:=k) (by omega),aU,hg,jK]
  by_cases e:(hG l k).r=q
  ·have hgx:gR q r (hG l k)={ hG l k with r:=r }:=aC e
   rw[←zC (gR q r) hx,hgx]
   simp only[aM e,bF,fI,bS,Hy,CG,aW,aO,wk (k:=k) (by omega)]
  ·rw[yE (gR q r) hx (aA e)]
   simp only[aQ e,bV,fI,aW,aO,wk (k:=k) (by omega)])
 have e0:((),r,q,(l.length:Int),(0:Int),V,F,l.map tH,rs,())=((),r,q,(l.length:Int),((0:Nat):Int),V,F,(mk (gR q r) l 0).map tH,rs,()):=by rw[wI];rfl
 rw[e0,h1]
 refine bA ?_
 have hlt:decide ((l.length:Int)<(l.length:Int))=false:=aQ (by omega)
 unfold eZ
 simp only[aK,BC,hlt,bV]
theorem QU{t:Tp}(hn:t.hs.length≤1000)(hR:t.rs.length≤1000){r:Nat}(hr:r<t.rs.length):bI ((),(r:Int),t.V,t.F,t.hs.map tH,t.rs.map tR,())=some (oF (dR t r)):=by
 have hw:wr .i64 ((t.rs.length:Int)-1)=((t.rs.length-1:Nat):Int):=by rw[gN (by omega) (by omega)];omega
 have heta:∀z:Rg,(⟨z.h,z.v,z.c⟩:Rg)=z:=fun z=>rfl
 unfold bI
 simp only[bC,bL,nO,hw,aG (n:=(t.rs.length:Int)) (i:=t.rs.length-1) (by omega),aG (n:=(t.rs.length:Int)) (i:=r) (by omega),fI,aU,sO (l:=t.rs) (k:=t.rs.length-1) (by omega),sO hr,y0,FU,fA,jX,bS,Vz,heta,wX,cW,Mj (n:=t.rs.length) (m:=t.rs.length-1) (by omega),Ml,Wd hn,aW]
 unfold oF dR
 simp only[LE]
def Od(hs:List Hf)(h:Nat):List Hf:=(hs.set (2*(h/2)) (hG hs (2*(hs.length/2-1):Nat))).set (2*(h/2)+1) (hG hs (2*(hs.length/2-1)+1:Nat))
theorem HF(hs:List Hf)(h:Nat):(Od hs h).length=hs.length:=by simp[Od]
theorem Qk{V F:Int}{rs:List T}{hs:List Hf}(hn:hs.length≤1000)(he:hs.length%2=0){h:Nat}(hh:h<hs.length):
 bH jV ((),((h/2:Nat):Int),((hs.length/2-1:Nat):Int),0,V,F,hs.map tH,rs,())=some (.inl ((),((h/2:Nat):Int),((hs.length/2-1:Nat):Int),V,F,(Od hs h).map tH,rs,())):=by
 have heta:∀z:Hf,(⟨z.f,z.n,z.p,z.r⟩:Hf)=z:=fun z=>rfl
 by_cases hl:h/2=hs.length/2-1
 ·have hc:Od hs h=hs:=by
   unfold Od
   rw[hl]
   rw[kQ (l:=hs) (sL hs _ (by omega))]
   exact kQ (sL hs _ (by omega))
  rw[hc]
  refine bA ?_
  have d1:decide ((0:Int)<2)=true:=rfl
  have d2:decide (((h/2:Nat):Int)=((hs.length/2-1:Nat):Int))=true:=aM (by omega)
  unfold jV
  simp only[aK,d1,uR,d2,bF,BQ,bV]
 ·have d2:decide (((h/2:Nat):Int)=((hs.length/2-1:Nat):Int))=false:=aQ (by omega)
  have w3:wr .i64 (2*((hs.length/2-1:Nat):Int))=((2*(hs.length/2-1):Nat):Int):=by rw[gN (by omega) (by omega)];push_cast;rfl
  have w6:wr .i64 (2*((h/2:Nat):Int))=((2*(h/2):Nat):Int):=by rw[gN (by omega) (by omega)];push_cast;rfl
  have s0:jV ((),((h/2:Nat):Int),((hs.length/2-1:Nat):Int),0,V,F,hs.map tH,rs,())=some (.inl ((),((h/2:Nat):Int),((hs.length/2-1:Nat):Int),1,V,F,(hs.set (2*(h/2)) (hG hs (2*(hs.length/2-1):Nat))).map tH,rs,())):=by
   have d1:decide ((0:Int)<2)=true:=rfl
   have w4:wr .i64 (((2*(hs.length/2-1):Nat):Int)+0)=((2*(hs.length/2-1):Nat):Int):=by rw[gN (by omega) (by omega)];omega
   have w7:wr .i64 (((2*(h/2):Nat):Int)+0)=((2*(h/2):Nat):Int):=by rw[gN (by omega) (by omega)];omega
   have w1:wr .i64 ((0:Int)+1)=1:=gN (by omega) (by omega)
   unfold jV
   simp only[zS,aK,d1,d2,bL,yB,w3,w6,aO,w4,w7,w1,aG (n:=(hs.length:Int)) (i:=2*(hs.length/2-1)) (by omega),aG (n:=(hs.length:Int)) (i:=2*(h/2)) (by omega),aU,gI (l:=hs) (k:=2*(hs.length/2-1)) (by omega),gI (l:=hs) (k:=2*(h/2)) (by omega),sX,mZ,mK,jK,bS,Tu,heta,CG]
  have s1:jV ((),((h/2:Nat):Int),((hs.length/2-1:Nat):Int),1,V,F,(hs.set (2*(h/2)) (hG hs (2*(hs.length/2-1):Nat))).map tH,rs,())=some (.inl ((),((h/2:Nat):Int),((hs.length/2-1:Nat):Int),2,V,F,(Od hs h).map tH,rs,())):=by
   have d1:decide ((1:Int)<2)=true:=rfl
   have w4:wr .i64 (((2*(hs.length/2-1):Nat):Int)+1)=((2*(hs.length/2-1)+1:Nat):Int):=by rw[gN (by omega) (by omega)];push_cast;rfl
   have w7:wr .i64 (((2*(h/2):Nat):Int)+1)=((2*(h/2)+1:Nat):Int):=by rw[gN (by omega) (by omega)];push_cast;rfl
   have w1:wr .i64 ((1:Int)+1)=2:=gN (by omega) (by omega)
   have hx:hG (hs.set (2*(h/2)) (hG hs (2*(hs.length/2-1):Nat))) (2*(hs.length/2-1)+1:Nat)=hG hs (2*(hs.length/2-1)+1:Nat):=by rw[DV (by omega),aA (by omega)]
   unfold jV
   simp only[zS,aK,d1,d2,bL,cW,yB,w3,w6,aO,w4,w7,w1,aG (n:=(hs.length:Int)) (i:=2*(hs.length/2-1)+1) (by omega),aG (n:=(hs.length:Int)) (i:=2*(h/2)+1) (by omega),aU,gI (l:=hs.set (2*(h/2)) (hG hs (2*(hs.length/2-1):Nat))) (k:=2*(hs.length/2-1)+1) (by rw[cW];omega),gI (l:=hs.set (2*(h/2)) (hG hs (2*(hs.length/2-1):Nat))) (k:=2*(h/2)+1) (by rw[cW];omega),hx,sX,mZ,mK,jK,bS,Tu,heta,CG]
   rfl
  rw[vZ s0,vZ s1]
  refine bA ?_
  have d1:decide ((2:Int)<2)=false:=rfl
  unfold jV
  simp only[aK,d1,bV]
theorem Ql{V F:Int}{rs:List T}{L:List Hf}{e l:Nat}(hn:L.length≤1000)(he:e≤1000)(hl:l≤1000)(hr:dq L):
 bH rE ((),(e:Int),(l:Int),0,V,F,L.map tH,rs,())=some (.inl ((),(l:Int),V,F,(L.map (VV e l)).map tH,rs,())):=by
 have h1:=bN (F:=rE) L.length (fun k=>((),(e:Int),(l:Int),(k:Int),V,F,(mk (VV e l) L k).map tH,rs,())) (fun k hk=>by
  have hlt:decide ((k:Int)<(L.length:Int))=true:=aM (by omega)
  obtain⟨h1,h2,h3,h4⟩:=hr k hk
  obtain⟨a,ha⟩:∃a:Nat,(hG L k).n=(a:Int):=⟨(hG L k).n.toNat,by omega⟩
  obtain⟨b,hb⟩:∃b:Nat,(hG L k).p=(b:Int):=⟨(hG L k).p.toNat,by omega⟩
  have hx:=sL L k hk
  have hlen:(mk (VV e l) L k).length=L.length:=BB _ _ _
  have hg:((mk (VV e l) L k).map tH)[k]?=some (tH (hG L k)):=by rw[eW,xP _ _ hk,hx];rfl
  have hg2:∀z:Hf,(((mk (VV e l) L k).set k z).map tH)[k]?=some (tH z):=fun z=>by rw[eW,iI (by omega)];rfl
  have wa:wr .i64 ((a:Int).tdiv 2)=((a/2:Nat):Int):=by rw[NA,gN (by omega) (by omega)]
  have wb:wr .i64 ((b:Int).tdiv 2)=((b/2:Nat):Int):=by rw[NA,gN (by omega) (by omega)]
  have we:wr .i64 (2*(e:Int))=2*(e:Int):=gN (by omega) (by omega)
  have wa2:wr .i64 (2*(e:Int)+(a:Int).tmod 2)=((2*e+a%2:Nat):Int):=by rw[Eu,gN (by omega) (by omega)];push_cast;rfl
  have wb2:wr .i64 (2*(e:Int)+(b:Int).tmod 2)=((2*e+b%2:Nat):Int):=by rw[Eu,gN (by omega) (by omega)];push_cast;rfl
  have hcast:∀x y:Nat,x=y→decide ((x:Int)=(y:Int))=true:=fun x y h=>aM (by omega)
  have hcast':∀x y:Nat,x≠y→decide ((x:Int)=(y:Int))=false:=fun x y h=>aQ (by omega)
  rw[←zC (VV e l) hx]
  have hsame:(mk (VV e l) L k).set k { hG L k with n:=(a:Int),p:=(b:Int) }=mk (VV e l) L k:=by
   refine kQ ?_
   rw[xP _ _ hk,hx,←ha,←hb]
  generalize mk (VV e l) L k=M at *
  unfold VV
  rw[ha,hb,nR,nR]
  unfold rE Ic
  by_cases e1:a/2=l
  ·by_cases e2:b/2=l
   ·simp only[zS,aK,hlt,bL,hlen,aG (n:=(L.length:Int)) (i:=k) (by omega),aU,hg,mZ,mK,ha,hb,vY,wa,wb,hcast _ _ e1,hcast _ _ e2,yB,we,qJ,aO,wa2,wb2,bS,YM,YN,CG,hg2,EN,wk (k:=k) (by omega),aC e1,aC e2]
   ·simp only[zS,aK,hlt,bL,hlen,aG (n:=(L.length:Int)) (i:=k) (by omega),aU,hg,mZ,mK,ha,hb,vY,wa,wb,hcast _ _ e1,hcast' _ _ e2,yB,we,qJ,aO,wa2,wb2,bS,YM,YN,CG,hg2,EN,wk (k:=k) (by omega),aC e1,aA e2]
  ·by_cases e2:b/2=l
   ·simp only[zS,aK,hlt,bL,hlen,aG (n:=(L.length:Int)) (i:=k) (by omega),aU,hg,mZ,mK,ha,hb,vY,wa,wb,hcast' _ _ e1,hcast _ _ e2,yB,we,qJ,aO,wa2,wb2,bS,YM,YN,CG,hg2,EN,wk (k:=k) (by omega),aA e1,aC e2]
   ·simp only[zS,aK,hlt,bL,hlen,aG (n:=(L.length:Int)) (i:=k) (by omega),aU,hg,mZ,mK,ha,hb,vY,wa,wb,hcast' _ _ e1,hcast' _ _ e2,aO,wk (k:=k) (by omega),aA e1,aA e2,hsame])
 have e0:((),(e:Int),(l:Int),(0:Int),V,F,L.map tH,rs,())=((),(e:Int),(l:Int),((0:Nat):Int),V,F,(mk (VV e l) L 0).map tH,rs,()):=by rw[wI];rfl
 rw[e0,h1]
 refine bA ?_
 have hlt:decide ((L.length:Int)<(L.length:Int))=false:=aQ (by omega)
 unfold rE
 simp only[aK,BC,bL,cS,hlt,bV]
theorem dq.cp{hs:List Hf}(h0:dq hs)(he:hs.length%2=0){h:Nat}(hh:h<hs.length):dq (Od hs h):=fun k hk=>by
 rw[HF] at hk
 unfold Od
 rw[DV (by rw[cW];omega),DV (by omega)]
 by_cases e1:2*(h/2)+1=k
 ·rw[aC e1];exact h0 _ (by omega)
 ·rw[aA e1]
  by_cases e2:2*(h/2)=k
  ·rw[aC e2];exact h0 _ (by omega)
  ·rw[aA e2];exact h0 _ hk
theorem V4{V F:Int}{rs:List T}{hs:List Hf}(hn:hs.length≤1000)(he:hs.length%2=0){h:Nat}(hh:h<hs.length)(hr:dq hs):
 mQ ((),(h:Int),V,F,hs.map tH,rs,())=some (V,F,(dE hs h).map tH,rs,()):=by
 have w1:wr .i64 ((hs.length:Int).tdiv 2)=((hs.length/2:Nat):Int):=by rw[NA,gN (by omega) (by omega)]
 have w2:wr .i64 (((hs.length/2:Nat):Int)-1)=((hs.length/2-1:Nat):Int):=by rw[gN (by omega) (by omega)];omega
 have w3:wr .i64 (2*((hs.length/2-1:Nat):Int))=((2*(hs.length/2-1):Nat):Int):=by rw[gN (by omega) (by omega)];push_cast;rfl
 have w5:wr .i64 ((h:Int).tdiv 2)=((h/2:Nat):Int):=by rw[NA,gN (by omega) (by omega)]
 have hde:(((Od hs h).map (VV (h/2) (hs.length/2-1))).map tH).take (2*(hs.length/2-1))=(dE hs h).map tH:=by
  rw[←LE,←LE]
  congr 1
  refine uS (by rw[kU,cS,mU,HF];omega) fun j hj=>?_
  rw[cS,mU,HF] at hj
  rw[qQ _ (by rw[mU,HF];exact hj)]
  unfold dE
  rw[VX _ _ _ (gU _),aC (by rw[N9];omega)]
  rfl
 unfold mQ
 simp only[bL,vY,w1,w5,nO,w2,Qk hn he hh,fI,aW,Ql (L:=Od hs h) (e:=h/2) (l:=hs.length/2-1) (by rw[HF];exact hn) (by omega) (by omega) (hr.cp he hh),yB,w3,cS,HF,Mj (n:=hs.length) (m:=2*(hs.length/2-1)) (by omega),Ml,hde]
def CV(n h j:Nat):Nat:=if j/2=h/2 then 2*(n/2-1)+j%2 else j
theorem HG{n h j:Nat}(he:n%2=0)(hh:h<n)(hj:j<2*(n/2-1)):CV n h j<n∧CV n h j/2≠h/2:=by
 unfold CV
 by_cases e:j/2=h/2
 ·rw[aC e];omega
 ·rw[aA e];exact⟨by omega,e⟩
theorem YU{n h y:Nat}(he:n%2=0)(hh:h<n)(hy:y<n)(hne:y/2≠h/2):∃j,j<2*(n/2-1)∧CV n h j=y:=by
 by_cases e:y/2=n/2-1
 ·refine⟨2*(h/2)+y%2,by omega,?_⟩
  unfold CV
  rw[aC (by omega)];omega
 ·refine⟨y,by omega,?_⟩
  unfold CV
  rw[aA hne]
theorem BD{hs:List Hf}(he:hs.length%2=0){h:Nat}(hh:h<hs.length){j:Nat}(hj:j<2*(hs.length/2-1)):hG (dE hs h) j=VV (h/2) (hs.length/2-1) (hG hs (CV hs.length h j:Nat)):=by
 rw[Me he hh hj]
 unfold CV
 by_cases e:j/2=h/2
 ·rw[aC e,aC e]
 ·rw[aA e,aA e]
theorem Cp{hs:List Hf}(he:hs.length%2=0){h:Nat}(hh:h<hs.length)(i:Int):(∃k,k<(dE hs h).length∧(hG (dE hs h) (k:Nat)).r=i)↔∃y,y<hs.length∧y/2≠h/2∧(hG hs (y:Nat)).r=i:=by
 rw[kU]
 constructor
 ·rintro ⟨k,hk,hr⟩
  have h1:=HG he hh hk
  rw[BD he hh hk] at hr
  exact⟨_,h1.1,h1.2,hr⟩
 ·rintro ⟨y,hy,hne,hr⟩
  obtain⟨j,hj,e⟩:=YU he hh hy hne
  refine⟨j,hj,?_⟩
  rw[BD he hh hj,e];exact hr
theorem gn{X:Tp}(h:∀i:Nat,i<X.rs.length→((∃k,k<X.hs.length∧(hG X.hs (k:Nat)).r=(i:Int))∧(rG X.rs i).h≠-1∧(rG X.rs i).v<0)∨((¬∃k,k<X.hs.length∧(hG X.hs (k:Nat)).r=(i:Int))∧(rG X.rs i).h=-1)):lz X=dn X:=
 L8 rfl rfl rfl rfl fun i hi=>⟨rfl,rfl,by
  rcases h i hi with⟨⟨k,hk,hr⟩,h2,h3⟩ | ⟨h1,h2⟩
  ·exact .inl ⟨⟨k,hk,aM hr⟩,h2,h3⟩
  ·refine .inr ⟨fun k hk=>?_,h2,.inr h2⟩
   unfold eK
   exact aQ fun e=>h1 ⟨k,hk,e⟩⟩
theorem CKP.dy{t:Tp}(ht:CKP t){i:Nat}(hi:i<t.rs.length):((∃k,k<t.hs.length∧(hG t.hs (k:Nat)).r=(i:Int))∧(rG t.rs i).h≠-1∧(rG t.rs i).v=-1)∨((¬∃k,k<t.hs.length∧(hG t.hs (k:Nat)).r=(i:Int))∧(rG t.rs i).h=-1∧0≤(rG t.rs i).v):=by
 rcases ht.two hi with⟨⟨k,hk,hp⟩,h2,h3⟩ | ⟨h1,h2,h3⟩
 ·exact .inl ⟨⟨k,hk,cH hp⟩,h2,h3⟩
 ·refine .inr ⟨?_,h2,h3⟩
  rintro ⟨k,hk,hr⟩
  have:=h1 k hk
  unfold eK at this
  rw[aM hr] at this;cases this
theorem J7{X:Tp}(hn:X.hs.length≤1000)(hR:X.rs.length≤1000):cJ (X.V,X.F,X.hs.map tH,X.rs.map tR,())=some (oF (lz X)):=Eo hn hR
def CW(t:Tp)(h:Nat):List Hf:=if nx t (mt h)=h then t.hs else lk t.hs (pv t h) (nx t (mt h))
def HK(t:Tp)(h r:Nat):List Rg:=if nx t (mt h)=h then t.rs.set r { rG t.rs r with h:=-1,v:=(hG t.hs h).f } else t.rs
def BY(t:Tp)(h r:Nat):Tp:=dV ⟨t.V,t.F,dE (CW t h) h,HK t h r⟩ (hG t.hs (mt h:Nat)).f
theorem iR(t:Tp)(h:Nat):(CW t h).length=t.hs.length:=by
 unfold CW;by_cases e:nx t (mt h)=h
 ·rw[aC e]
 ·rw[aA e,aF]
theorem yF(t:Tp)(h r:Nat):(HK t h r).length=t.rs.length:=by
 unfold HK;by_cases e:nx t (mt h)=h
 ·rw[aC e,cW]
 ·rw[aA e]
theorem Mm{t:Tp}(ht:Hok t){h:Nat}(hh:h<t.hs.length)(y:Nat):(hG (CW t h) y).r=(hG t.hs y).r:=by
 unfold CW;by_cases e:nx t (mt h)=h
 ·rw[aC e]
 ·rw[aA e,aY (ht.aj hh) (ht.bf (kS ht.e hh))]
theorem V6{t:Tp}(ht:Hok t){h:Nat}(hh:h<t.hs.length):dq (CW t h):=by
 have:=ht.n
 unfold CW;by_cases e:nx t (mt h)=h
 ·rw[aC e];exact ht.kz
 ·rw[aA e];exact ht.kz.lk (ht.aj hh) (ht.bf (kS ht.e hh)) (by omega)
theorem We(a b:Int)(x:Rg):(gV a b x).h=x.h:=by unfold gV;split <;> rfl
theorem Cq(a b:Int)(x:Rg):(gC a b x).h=x.h:=by unfold gC;split <;> rfl
theorem Cr(a b:Int)(x:Rg):(gC a b x).v=x.v:=by unfold gC;split <;> rfl
theorem Tx(a b:Int)(x:Hf):(gF a b x).r=x.r:=by unfold gF;split <;> rfl
theorem Mn{a b:Int}(ha:0≤a){x:Rg}(hx:x.v=-1):(gV a b x).v=-1:=by
 unfold gV;rw[aA (by omega)];exact hx
theorem V7(h:Nat):mt h/2=h/2:=nH h
theorem qR{h y:Nat}(e:y/2=h/2):y=h∨y=mt h:=by have:=nH h;have:=oY h;omega
theorem Ex{t:Tp}(ht:CKP t){h r:Nat}(hh:h<t.hs.length)(hr:r<t.rs.length)(cj:eK t r h=true)(hnx:nx t h=mt h):lz (BY t h r)=dn (BY t h r):=by
 have hk:=ht.toHok
 have hm:=kS ht.e hh
 have hV0:=ht.V0
 have hr1:(hG t.hs h).r=(r:Int):=cH cj
 have hr2:(hG t.hs (mt h:Nat)).r=(r:Int):=by rw[←hnx,hk.rg hh];exact hr1
 have hmem:∀i:Int,(∃k,k<(BY t h r).hs.length∧(hG (BY t h r).hs (k:Nat)).r=i)↔∃y,y<t.hs.length∧y/2≠h/2∧(hG t.hs (y:Nat)).r=i:=fun i=>by
  have h1:=Cp (hs:=CW t h) (by rw[iR];exact ht.e) (h:=h) (by rw[iR];exact hh) i
  have h2:(∃k,k<(BY t h r).hs.length∧(hG (BY t h r).hs (k:Nat)).r=i)↔∃k,k<(dE (CW t h) h).length∧(hG (dE (CW t h) h) (k:Nat)).r=i:=by
   have e:(BY t h r).hs=(dE (CW t h) h).map (gF (t.V-1) (hG t.hs (mt h:Nat)).f):=rfl
   rw[e,cS]
   constructor
   ·rintro ⟨k,hk2,h3⟩;rw[qQ _ hk2,Tx] at h3;exact⟨k,hk2,h3⟩
   ·rintro ⟨k,hk2,h3⟩;exact⟨k,hk2,by rw[qQ _ hk2,Tx];exact h3⟩
  rw[h2,h1]
  constructor
  ·rintro ⟨y,a,b,c⟩;rw[iR] at a;rw[Mm hk hh] at c;exact⟨y,a,b,c⟩
  ·rintro ⟨y,a,b,c⟩;exact⟨y,by rw[iR];exact a,b,by rw[Mm hk hh];exact c⟩
 refine gn fun i hi=>?_
 have hi':i<t.rs.length:=by
  have:(BY t h r).rs.length=t.rs.length:=by show ((HK t h r).map _).length=_;rw[cS,yF]
  omega
 have hg:rG (BY t h r).rs i=gV (t.V-1) (hG t.hs (mt h:Nat)).f (rG (HK t h r) i):=uU _ (by rw[yF];exact hi')
 rw[hmem,hg,We]
 by_cases e:r=i
 ·subst e
  by_cases e2:nx t (mt h)=h
  ·refine .inr ⟨?_,?_⟩
   ·rintro ⟨y,a,b,c⟩
    rcases ht.rr r hr with⟨_,_,_,h4⟩ | ⟨_,_,_,_,ho⟩
    ·rw[h4 h hh] at cj;cases cj
    ·obtain⟨l,hl,hlm⟩:=ho.at hh cj
     have hc:bz (nx t) h [mt h]:=⟨⟨hnx,e2⟩,by simp[(rW h).symm]⟩
     have:=hl.uniq hc
     subst this
     have h5:=(hlm y).2 ⟨a,aM c⟩
     simp only[cN,JF,FB] at h5
     rcases h5 with h5 | h5
     ·exact b (by rw[h5])
     ·exact b (by rw[h5,V7])
   ·unfold HK;rw[aC e2,iD hr,aC rfl]
  ·have hx:=hk.bf hm
   refine .inl ⟨⟨nx t (mt h),hx,fun e3=>?_,by rw[hk.rg hm];exact hr2⟩,?_⟩
   ·rcases qR e3 with h5 | h5
    ·exact e2 h5
    ·have:h=mt h:=hk.iu hh hm (by rw[hnx,h5])
     exact rW h this.symm
   ·unfold HK;rw[aA e2]
    rcases ht.dy hr with⟨_,h2,h3⟩ | ⟨h1,_⟩
    ·exact⟨h2,by rw[Mn (by omega) h3];decide⟩
    ·exact absurd ⟨h,hh,hr1⟩ h1
 ·have hg2:rG (HK t h r) i=rG t.rs i:=by
   unfold HK;by_cases e2:nx t (mt h)=h
   ·rw[aC e2,iD hr,aA e]
   ·rw[aA e2]
  rw[hg2]
  rcases ht.dy hi' with⟨⟨k,hk2,h1⟩,h2,h3⟩ | ⟨h1,h2,_⟩
  ·refine .inl ⟨⟨k,hk2,fun e3=>?_,h1⟩,h2,by rw[Mn (by omega) h3];decide⟩
   rcases qR e3 with h5 | h5
   ·subst h5;rw[hr1] at h1;omega
   ·subst h5;rw[hr2] at h1;omega
  ·exact .inr ⟨fun⟨y,a,_,c⟩=>h1 ⟨y,a,c⟩,h2⟩
theorem OA(t:Tp)(h r:Nat):(BY t h r).hs.length=2*(t.hs.length/2-1)∧(BY t h r).rs.length=t.rs.length:=by
 constructor
 ·show ((dE (CW t h) h).map _).length=_
  rw[cS,kU,iR]
 ·show ((HK t h r).map _).length=_
  rw[cS,yF]
theorem Mo{t:Tp}(ht:Hok t){h r:Nat}(hh:h<t.hs.length):eg (BY t h r).hs (BY t h r).rs.length:=fun k hk=>by
 have hl:=OA t h r
 rw[hl.1] at hk
 have e:(BY t h r).hs=(dE (CW t h) h).map (gF (t.V-1) (hG t.hs (mt h:Nat)).f):=rfl
 rw[e,qQ _ (by rw[kU,iR];exact hk),Tx,hl.2]
 have h2:eg (CW t h) t.rs.length:=fun k hk=>by rw[Mm ht hh];exact ht.kg k (by rw[iR] at hk;exact hk)
 exact h2.dE (by rw[iR];exact ht.e) (by rw[iR];exact hh) k (by rw[kU,iR];exact hk)
theorem oL{f g:Nat→Nat}{w:Nat}:∀{m:List Nat} {x z:Nat},Path f x m z→(x::m).Nodup→(∀y∈x::m,y≠rR x m m.length→g y=f y)→g (rR x m m.length)=w→Path g x m w
 | [],x,z,_,_,_,hl=>hl
 | y::m,x,z,hp,hn,he,hl=>by
  have hlast:rR x (y::m) (y::m).length=rR y m m.length:=rfl
  rw[hlast] at he hl
  have hmem:rR y m m.length∈y::m:=lS (by simp)
  have hx:x≠rR y m m.length:=fun e=>(cY.1 hn).1 (by rw[e];exact hmem)
  exact⟨by rw[he x (by simp) hx];exact hp.1,oL hp.2 (cY.1 hn).2 (fun u hu hne=>he u (eQ _ hu) hne) hl⟩
theorem jM{l:List Rg}{z:Rg}{i:Nat}(h:i<l.length):rG (l++[z]) i=rG l i:=by
 unfold rG;rw[nR,jY,jY,AR h]
theorem Ms{l:List Rg}{z:Rg}:rG (l++[z]) (l.length:Nat)=z:=by
 unfold rG;rw[nR,jY,HS (by omega)];simp
theorem nB{l:List Rg}{z:Rg}{n:Nat}(h:n=l.length):rG (l++[z]) n=z:=by subst h;exact Ms
def rK(t:Tp)(h r:Nat)(A B:List Nat):List Rg:=
 t.rs.set r (match B with
  | []=>{ rG t.rs r with h:=-1,v:=(hG t.hs h).f }
  | b::_=>{ rG t.rs r with h:=(b:Int),v:=-1 })++[match A with
  | []=>⟨-1,(hG t.hs (mt h:Nat)).f,(rG t.rs r).c⟩
  | a::_=>⟨(a:Int),-1,(rG t.rs r).c⟩]
theorem AD(t:Tp)(h r:Nat)(A B:List Nat):(rK t h r A B).length=t.rs.length+1:=by unfold rK;simp
structure Km (t:Tp) (h r:Nat) (A B:List Nat):Prop where
 ht:CKP t
 hh:h<t.hs.length
 hr:r<t.rs.length
 cj:eK t r h=true
 hc:bz (nx t) h (A++mt h::B)
 hm:∀y,y∈h::(A++mt h::B)↔y<t.hs.length∧eK t r y=true
namespace Km
variable {t:Tp} {h r:Nat} {A B:List Nat}
theorem nd(k:Km t h r A B):((h::A)++(mt h::B)).Nodup:=k.hc.2
theorem pw(k:Km t h r A B):A.Nodup:=(cY.1 (rT.1 k.nd).1).2
theorem px(k:Km t h r A B):B.Nodup:=(cY.1 (rT.1 k.nd).2.1).2
theorem et(k:Km t h r A B){y:Nat}(hy:y∈A):y<t.hs.length∧eK t r y=true:=(k.hm y).1 (eQ _ (EL _ hy))
theorem ji(k:Km t h r A B){y:Nat}(hy:y∈B):y<t.hs.length∧eK t r y=true:=(k.hm y).1 (eQ _ (IK _ (eQ _ hy)))
theorem fl(k:Km t h r A B):mt h<t.hs.length∧eK t r (mt h)=true:=(k.hm _).1 (eQ _ (IK _ (by simp)))
theorem ah(k:Km t h r A B){y:Nat}(hy:y∈A):y≠h:=fun e=>(cY.1 (rT.1 k.nd).1).1 (e▸hy)
theorem am(k:Km t h r A B){y:Nat}(hy:y∈A):y≠mt h:=fun e=>(rT.1 k.nd).2.2 y (eQ _ hy) (mt h) (by simp) e
theorem bm(k:Km t h r A B){y:Nat}(hy:y∈B):y≠mt h:=fun e=>(cY.1 (rT.1 k.nd).2.1).1 (e▸hy)
theorem bh(k:Km t h r A B){y:Nat}(hy:y∈B):y≠h:=fun e=>(rT.1 k.nd).2.2 h (by simp) y (eQ _ hy) e.symm
theorem ab(k:Km t h r A B){y:Nat}(hy:y∈A)(hb:y∈B):False:=(rT.1 k.nd).2.2 y (eQ _ hy) y (eQ _ hb) rfl
theorem p1(k:Km t h r A B):Path (nx t) h A (mt h):=(kA.1 k.hc.1).1
theorem p2(k:Km t h r A B):Path (nx t) (mt h) B h:=(kA.1 k.hc.1).2
theorem r1(k:Km t h r A B):(hG t.hs h).r=(r:Int):=cH k.cj
theorem r2(k:Km t h r A B):(hG t.hs (mt h:Nat)).r=(r:Int):=cH k.fl.2
theorem ring(k:Km t h r A B){y:Nat}:(hG (zB t h A B) y).r=if y∈A then (t.rs.length:Int) else (hG t.hs y).r:=by
 have hk:=k.ht.toHok
 have hm:=k.fl.1
 have hpm:=hk.aj hm
 have hph:=hk.aj k.hh
 have hnm:=hk.bf hm
 have hnh:=hk.bf k.hh
 have hb:∀a A',A=a::A'→∀x∈a::A',x<(lk t.hs (pv t (mt h)) (nx t h)).length:=fun a A' e x hx=>by rw[aF];exact(k.et (e▸hx)).1
 unfold zB
 split
 ·simp
 ·rw[aY hph hnm];simp
 ·rename_i a A'
  rw[dX _ _ _ _ (hb a A' rfl)]
  by_cases e:y∈a::A'
  ·rw[aC e,aC e]
  ·rw[aA e,aA e,aY hpm hnh]
 ·rename_i a A' b B'
  rw[aY (by rw[cF,aF];exact hph) (by rw[cF,aF];exact hnm),dX _ _ _ _ (hb a A' rfl)]
  by_cases e:y∈a::A'
  ·rw[aC e,aC e]
  ·rw[aA e,aA e,aY hpm hnh]
theorem mem(k:Km t h r A B)(i:Int):(∃j,j<(RD t h r A B).hs.length∧(hG (RD t h r A B).hs (j:Nat)).r=i)↔∃y,y<t.hs.length∧y/2≠h/2∧(if y∈A then (t.rs.length:Int) else (hG t.hs y).r)=i:=by
 have h1:=Cp (hs:=zB t h A B) (by rw[yD];exact k.ht.e) (h:=h) (by rw[yD];exact k.hh) i
 rw[yD] at h1
 have e:(RD t h r A B).hs=dE (zB t h A B) h:=rfl
 rw[e,h1]
 constructor
 ·rintro ⟨y,a,b,c⟩;rw[k.ring] at c;exact⟨y,a,b,c⟩
 ·rintro ⟨y,a,b,c⟩;exact⟨y,a,b,by rw[k.ring];exact c⟩
theorem fin(k:Km t h r A B):lz ⟨t.V,t.F,dE (zB t h A B) h,rK t h r A B⟩=dn (RD t h r A B):=by
 have hk:=k.ht.toHok
 have hr:=k.hr
 have hv:(rG t.rs r).v=-1:=by
  rcases k.ht.dy hr with⟨_,_,h3⟩ | ⟨h1,_⟩
  ·exact h3
  ·exact absurd ⟨h,k.hh,k.r1⟩ h1
 have hrg:=hk.kg
 have gX:∀i,i<t.rs.length→r≠i→rG (rK t h r A B) i=rG t.rs i:=fun i hi e=>by
  unfold rK;rw[jM (by simpa using hi),iD hr,aA e]
 have gY:∀i,i<t.rs.length→r≠i→rG (Cn t h r A B) i=rG t.rs i:=fun i hi e=>by
  unfold Cn;split
  ·rw[jM (by simpa using hi),iD hr,aA e]
  ·rw[jM hi]
  ·rw[jM (by simpa using hi),iD hr,aA e]
  ·rw[jM hi]
 have fq:∀i:Nat,i<(RD t h r A B).rs.length→(rG (rK t h r A B) i).c=(rG (RD t h r A B).rs i).c∧(rG (rK t h r A B) i).v=(rG (RD t h r A B).rs i).v ∧
  (((∃j,j<(RD t h r A B).hs.length∧(hG (RD t h r A B).hs (j:Nat)).r=(i:Int))∧(rG (rK t h r A B) i).h≠-1∧(rG (RD t h r A B).rs i).v<0)∨((¬∃j,j<(RD t h r A B).hs.length∧(hG (RD t h r A B).hs (j:Nat)).r=(i:Int))∧(rG (rK t h r A B) i).h=-1∧((rG (RD t h r A B).rs i).v<0∨(rG (RD t h r A B).rs i).h=-1))):=by
  intro i hi
  have e0:(RD t h r A B).rs=Cn t h r A B:=rfl
  rw[e0,VZ] at hi
  rw[k.mem,e0]
  by_cases e1:i=t.rs.length
  ·-- the new ring
   subst e1
   cases A with
   | nil=>
    have x1:rG (rK t h r [] B) (t.rs.length:Nat)=⟨-1,(hG t.hs (mt h:Nat)).f,(rG t.rs r).c⟩:=by unfold rK;exact nB (by simp)
    have y1:rG (Cn t h r [] B) (t.rs.length:Nat)=⟨-1,(hG t.hs (mt h:Nat)).f,(rG t.rs r).c⟩:=by
     cases B with
     | nil=>exact nB (by simp)
     | cons b B=>exact nB rfl
    rw[x1,y1]
    refine⟨rfl,rfl,.inr ⟨?_,rfl,.inr rfl⟩⟩
    rintro ⟨y,ha,_,hc⟩
    rw[aA (by simp)] at hc
    have:=(hrg y ha).2;omega
   | cons a A'=>
    have x1:rG (rK t h r (a::A') B) (t.rs.length:Nat)=⟨(a:Int),-1,(rG t.rs r).c⟩:=by unfold rK;exact nB (by simp)
    have y1:rG (Cn t h r (a::A') B) (t.rs.length:Nat)=⟨-1,-1,(rG t.rs r).c⟩:=by
     cases B with
     | nil=>exact nB (by simp)
     | cons b B=>exact nB rfl
    rw[x1,y1]
    have ham:a∈a::A':=by simp
    refine⟨rfl,rfl,.inl ⟨⟨a,(k.et ham).1,fun e=>?_,by rw[aC ham]⟩,by show (a:Int)≠-1;omega,by show (-1:Int)<0;decide⟩⟩
    rcases qR e with e | e
    ·exact k.ah ham e
    ·exact k.am ham e
  ·have hil:i<t.rs.length:=by omega
   by_cases e2:r=i
   ·subst e2
    cases B with
    | nil=>
     have x1:rG (rK t h r A []) r={ rG t.rs r with h:=-1,v:=(hG t.hs h).f }:=by unfold rK;rw[jM (by simpa using hr),iD hr,aC rfl]
     have y1:rG (Cn t h r A []) r={ rG t.rs r with h:=-1,v:=(hG t.hs h).f }:=by
      cases A with
      | nil=>exact(jM (by simpa using hr)).trans (by rw[iD hr,aC rfl])
      | cons a A'=>exact(jM (by simpa using hr)).trans (by rw[iD hr,aC rfl])
     rw[x1,y1]
     refine⟨rfl,rfl,.inr ⟨?_,rfl,.inr rfl⟩⟩
     rintro ⟨y,ha,hb,hc⟩
     by_cases e3:y∈A
     ·rw[aC e3] at hc;omega
     ·rw[aA e3] at hc
      have h5:=(k.hm y).2 ⟨ha,aM hc⟩
      simp only[cN,fK,JF,FB] at h5
      rcases h5 with h5 | h5 | h5
      ·exact hb (by rw[h5])
      ·exact e3 h5
      ·exact hb (by rw[h5,V7])
    | cons b B'=>
     have x1:rG (rK t h r A (b::B')) r={ rG t.rs r with h:=(b:Int),v:=-1 }:=by unfold rK;rw[jM (by simpa using hr),iD hr,aC rfl]
     have y1:rG (Cn t h r A (b::B')) r=rG t.rs r:=by
      cases A with
      | nil=>exact jM hr
      | cons a A'=>exact jM hr
     rw[x1,y1]
     have hbm:b∈b::B':=by simp
     refine⟨rfl,hv.symm,.inl ⟨⟨b,(k.ji hbm).1,fun e=>?_,?_⟩,by show (b:Int)≠-1;omega,by omega⟩⟩
     ·rcases qR e with e | e
      ·exact k.bh hbm e
      ·exact k.bm hbm e
     ·rw[aA fun e=>k.ab e hbm];exact cH (k.ji hbm).2
   ·rw[gX i hil e2,gY i hil e2]
    refine⟨rfl,rfl,?_⟩
    rcases k.ht.dy hil with⟨⟨j,hj,h1⟩,h2,h3⟩ | ⟨h1,h2,_⟩
    ·refine .inl ⟨⟨j,hj,fun e=>?_,?_⟩,h2,by omega⟩
     ·rcases qR e with e | e
      ·subst e;rw[k.r1] at h1;omega
      ·subst e;rw[k.r2] at h1;omega
     ·rw[aA]
      ·exact h1
      ·intro e
       have:=cH (k.et e).2
       omega
    ·refine .inr ⟨?_,h2,.inr h2⟩
     rintro ⟨y,ha,_,hc⟩
     by_cases e3:y∈A
     ·rw[aC e3] at hc;omega
     ·rw[aA e3] at hc;exact h1 ⟨y,ha,hc⟩
 refine L8 rfl rfl rfl (by show (rK t h r A B).length=(Cn t h r A B).length;rw[AD,VZ]) fun i hi=>?_
 obtain⟨q1,q2,q3⟩:=fq i hi
 refine⟨q1,q2,?_⟩
 rcases q3 with⟨⟨j,hj,h1⟩,h2,h3⟩ | ⟨h1,h2,h3⟩
 ·exact .inl ⟨⟨j,hj,aM h1⟩,h2,h3⟩
 ·refine .inr ⟨fun j hj=>?_,h2,h3⟩
  unfold eK
  exact aQ fun e=>h1 ⟨j,hj,e⟩
theorem oo{a:Nat}{A':List Nat}(k:Km t h r (a::A') B)(V F:Int)(rs:List Rg):bz (nx ⟨V,F,lk t.hs (pv t (mt h)) (nx t h),rs⟩) a A'∧nx t h=a:=by
 have hk:=k.ht.toHok
 have hm:=k.fl.1
 have hpm:=hk.aj hm
 have hnh:=hk.bf k.hh
 have hfa:nx t h=a:=k.p1.1
 have hlast:pv t (mt h)=rR a A' A'.length:=by
  have h1:=nX k.p1
  have h2:=(k.et (lS (x:=a) (m:=A') (k:=A'.length) (by simp))).1
  rw[←h1,hk.pn h2]
 refine⟨⟨oL (f:=nx t) (z:=mt h) k.p1.2 k.pw ?_ ?_,k.pw⟩,hfa⟩
 ·intro y hy hne
  show ((hG (lk t.hs (pv t (mt h)) (nx t h)) y).n).toNat=nx t y
  rw[aY hpm hnh]
  simp only[aA (show ¬pv t (mt h)=y from fun e=>hne (by rw[←e,hlast]))]
  rfl
 ·show ((hG (lk t.hs (pv t (mt h)) (nx t h)) (rR a A' A'.length:Nat)).n).toNat=a
  rw[aY hpm hnh]
  simp only[aC hlast]
  rw[hfa];rfl
theorem ot{b:Nat}{B':List Nat}(k:Km t h r A (b::B'))(V F:Int)(rs:List Rg){L:List Hf}(hL:L.length=t.hs.length)(hLn:∀y,y∈b::B'→(hG L y).n=(hG t.hs y).n):bz (nx ⟨V,F,lk L (pv t h) (nx t (mt h)),rs⟩) b B'∧nx t (mt h)=b:=by
 have hk:=k.ht.toHok
 have hm:=k.fl.1
 have hph:=hk.aj k.hh
 have hnm:=hk.bf hm
 have hfb:nx t (mt h)=b:=k.p2.1
 have hlast:pv t h=rR b B' B'.length:=by
  have h1:=nX k.p2
  have h2:=(k.ji (lS (x:=b) (m:=B') (k:=B'.length) (by simp))).1
  rw[←h1,hk.pn h2]
 refine⟨⟨oL (f:=nx t) (z:=h) k.p2.2 k.px ?_ ?_,k.px⟩,hfb⟩
 ·intro y hy hne
  show ((hG (lk L (pv t h) (nx t (mt h))) y).n).toNat=nx t y
  rw[aY (by omega) (by omega)]
  simp only[aA (show ¬pv t h=y from fun e=>hne (by rw[←e,hlast])),hLn y hy]
  rfl
 ·show ((hG (lk L (pv t h) (nx t (mt h))) (rR b B' B'.length:Nat)).n).toNat=b
  rw[aY (by omega) (by omega)]
  simp only[aC hlast]
  rw[hfb];rfl
end Km
theorem Ez{l:List Hf}{xs:List Nat}{r:Int}(hb:∀x∈xs,x<l.length)(hr:∀x∈xs,(hG l x).r=r):ar l xs r=l:=by
 refine uS (cF _ _ _) fun j hj=>?_
 rw[dX _ _ _ _ hb]
 by_cases e:j∈xs
 ·rw[aC e]
  have:=hr j e
  generalize hG l j=z at this
  cases z;simp only at this ⊢;rw[this]
 ·rw[aA e]
theorem dq.mc{l:List Hf}(h:dq l){V F:Int}{rs:List Rg}{y:Nat}(hy:y<l.length):(hG l y).n=(nx ⟨V,F,l,rs⟩ y:Int):=by
 have:=h y hy
 show _=(((hG l y).n).toNat:Int)
 omega
theorem Ua{t:Tp}{h r:Nat}{A B:List Nat}(k:Km t h r A B)(hR:t.rs.length+1≤257):
 jQ (t.V,t.F,t.hs.map tH,t.rs.map tR,(h:Int),())=some (wY (dn (RD t h r A B)) 0):=by
 have ht:=k.ht
 have hh:=k.hh
 have hr:=k.hr
 have hk:=ht.toHok
 have hz:=hk.toSz
 have hn:=ht.n
 have he:=ht.e
 have hV1:=ht.V1
 have hF1:=ht.F1
 have hm:=k.fl.1
 have hpm:=hk.aj hm
 have hph:=hk.aj hh
 have hnm:=hk.bf hm
 have hnh:=hk.bf hh
 have hro:gQ t 0 0 0 1=true:=by
  unfold gQ;simp only[cM,cK];omega
 have hroom:=FZ hz (a:=0) (b:=0) (c:=0) (d:=1) (by decide) (by decide) (by decide) (by decide)
 have hroom':dD (t.V,t.F,t.hs.map tH,t.rs.map tR,(0:Int),(0:Int),(0:Int),(1:Int),())=some (true,()):=by rw[←hro];exact hroom
 have hi2:rJ (h:Int) (t.hs.length:Int)=true:=bR.2 ⟨by omega,by omega⟩
 have hr1:=k.r1
 have hr2:=k.r2
 have hsm:=hk.kz
 have hrr:qH (t.rs.map tR) [tR ⟨-1,(hG t.hs (mt h:Nat)).f,(rG t.rs r).c⟩] 24=some ((t.rs++[(⟨-1,(hG t.hs (mt h:Nat)).f,(rG t.rs r).c⟩:Rg)]).map tR):=by
  rw[rV (by simp only[cS,oB,xC];omega) (by decide),EM];rfl
 have hfold:T.agg [tI (-1),tI (hG t.hs (mt h:Nat)).f,tI (rG t.rs r).c]=tR ⟨-1,(hG t.hs (mt h:Nat)).f,(rG t.rs r).c⟩:=rfl
 have fin:∀(hs2:List Hf) (WO:List Rg),hs2=zB t h A B→WO=rK t h r A B→dq hs2 →
  (ob (mQ ((),(h:Int),t.V,t.F,hs2.map tH,WO.map tR,())) fun x51=>ob (cJ (x51.1,x51.2.1,x51.2.2.1,x51.2.2.2.1,())) fun x52=>some (x52.1,x52.2.1,x52.2.2.1,x52.2.2.2.1,(0:Int),()))=some (wY (dn (RD t h r A B)) 0):=fun hs2 WO e1 e2 h2=>by
  have hl2:hs2.length=t.hs.length:=by rw[e1,yD]
  have hl3:WO.length=t.rs.length+1:=by rw[e2,AD]
  rw[V4 (by omega) (by omega) (by omega) h2]
  simp only[fI]
  have:=F3 (V:=t.V) (F:=t.F) (hs:=dE hs2 h) (rs:=WO) (by rw[kU];omega) (by omega)
  rw[this,e1,e2,k.fin]
  rfl
 have hlenq:∀z w:Rg,(t.rs.set r w++[z]).length=t.rs.length+1:=fun z w=>by simp
 have hlenq0:∀z:Rg,(t.rs++[z]).length=t.rs.length+1:=fun z=>by simp
 have hgr:∀z:Rg,((t.rs++[z]).map tR)[r]?=some (tR (rG t.rs r)):=fun z=>by
  rw[EM,AR (by simpa using hr)];exact sO hr
 have hsetr:∀z w:Rg,(t.rs++[z]).set r w=t.rs.set r w++[z]:=fun z w=>by
  rw[JE,aC hr]
 have hgr2:∀z w:Rg,((t.rs.set r w++[z]).map tR)[r]?=some (tR w):=fun z w=>by
  rw[EM,AR (by simpa using hr),eW,iI hr];rfl
 have hsetr2:∀z w w':Rg,(t.rs.set r w++[z]).set r w'=t.rs.set r w'++[z]:=fun z w w'=>by
  rw[JE,aC (by simpa using hr),EN]
 have hsetR:∀z w w':Rg,(t.rs.set r w++[z]).set t.rs.length w'=t.rs.set r w++[w']:=fun z w w'=>by
  rw[JE];simp
 have lkr:∀(l:List Hf) (R:List T),l.length=t.hs.length→∀a b:Nat,a<t.hs.length→b<t.hs.length→aJ (t.V,t.F,l.map tH,R,(a:Int),(b:Int),())=some ((lk l a b).map tH,R,()):=fun l R h1 a b h2 h3=>xL (by omega) (by omega)
 have stB:∀(L:List Hf) (W:Rg) (b:Nat) (B':List Nat),B=b::B'→L.length=t.hs.length→dq L→(∀y∈b::B',(hG L y).n=(hG t.hs y).n)→(∀y∈b::B',(hG L y).r=(r:Int)) →
  cI (t.V,t.F,(lk L (pv t h) (nx t (mt h))).map tH,(t.rs.set r { rG t.rs r with h:=-1,v:=(hG t.hs h).f }++[W]).map tR,(nx t (mt h):Int),(r:Int),())=some ((lk L (pv t h) (nx t (mt h))).map tH,(t.rs.set r { rG t.rs r with h:=(b:Int),v:=-1 }++[W]).map tR,()):=fun L W b B' eB h1 h2 h3 h4=>by
  have kB:Km t h r A (b::B'):=eB▸k
  obtain⟨hc,hfb⟩:=kB.ot t.V t.F (t.rs.set r { rG t.rs r with h:=-1,v:=(hG t.hs h).f }++[W]) h1 h3
  have hb:∀y∈b::B',y<(lk L (pv t h) (nx t (mt h))).length:=fun y hy=>by rw[aF,h1];exact(kB.ji hy).1
  have hs2:dq (lk L (pv t h) (nx t (mt h))):=h2.lk (by omega) (by omega) (by omega)
  have:=xM (V:=t.V) (F:=t.F) (hs:=lk L (pv t h) (nx t (mt h))) (rs:=t.rs.set r { rG t.rs r with h:=-1,v:=(hG t.hs h).f }++[W]) (by rw[aF];omega) (r:=r) hc hb (fun y hy=>hs2.mc (hb y hy)) (by simp;omega)
  have e1:ar (lk L (pv t h) (nx t (mt h))) (b::B') (r:Int)=lk L (pv t h) (nx t (mt h)):=Ez hb fun y hy=>by rw[aY (by omega) (by omega)];exact h4 y hy
  have e2:rG (t.rs.set r { rG t.rs r with h:=-1,v:=(hG t.hs h).f }++[W]) r={ rG t.rs r with h:=-1,v:=(hG t.hs h).f }:=by
   rw[jM (by simpa using hr),iD hr,aC rfl]
  unfold lJ at this
  simp only[e1,e2,hsetr2] at this
  rw[hfb] at this ⊢
  exact this
 unfold jQ
 cases A with
 | nil=>
  have hfm:nx t h=mt h:=k.p1
  have d1:decide ((nx t h:Int)=(mt h:Int))=true:=aM (by omega)
  cases B with
  | nil=>
   have hbh:nx t (mt h)=h:=k.p2
   have d2:decide ((nx t (mt h):Int)=(h:Int))=true:=aM (by omega)
   simp only[zS,bD ht,fP,hi2,hroom',qN (k:=h) (by omega),mM hz,bL,bC,dW (l:=t.hs) (i:=(h:Int)) (by omega) (by omega),dW (l:=t.hs) (i:=((mt h:Nat):Int)) (by omega) (by omega),aG (n:=(t.hs.length:Int)) (i:=h) (by omega),aG (n:=(t.hs.length:Int)) (i:=mt h) (by omega),aG (n:=(t.rs.length:Int)) (i:=r) (by omega),aU,gI hh,gI hm,sO hr,sX,mZ,mK,jK,fA,fO,hr1,hr2,hk.bd hh,hk.bo hh,hk.bd hm,bS,hfold,hrr,d1,d2,hlenq,hlenq0,aG (n:=((t.rs.length+1:Nat):Int)) (i:=r) (by omega),FW,NO,wX,aW,hgr,hsetr,hgr2,hsetr2]
   exact fin _ _ rfl rfl hsm
  | cons b B'=>
   have hbh:nx t (mt h)=b:=k.p2.1
   have hne:b≠h:=k.bh (by simp)
   have d2:decide ((nx t (mt h):Int)=(h:Int))=false:=aQ (by omega)
   simp only[zS,bD ht,fP,hi2,hroom',qN (k:=h) (by omega),mM hz,bL,bC,dW (l:=t.hs) (i:=(h:Int)) (by omega) (by omega),dW (l:=t.hs) (i:=((mt h:Nat):Int)) (by omega) (by omega),aG (n:=(t.hs.length:Int)) (i:=h) (by omega),aG (n:=(t.hs.length:Int)) (i:=mt h) (by omega),aG (n:=(t.rs.length:Int)) (i:=r) (by omega),aU,gI hh,gI hm,sO hr,sX,mZ,mK,jK,fA,fO,hr1,hr2,hk.bd hh,hk.bo hh,hk.bd hm,bS,hfold,hrr,d1,d2,hlenq,hlenq0,aG (n:=((t.rs.length+1:Nat):Int)) (i:=r) (by omega),FW,NO,wX,aW,hgr,hsetr,hgr2,hsetr2,lkr t.hs _ rfl _ _ hph hnm,stB t.hs _ b B' rfl rfl hsm (fun _ _=>rfl) (fun y hy=>cH (k.ji hy).2)]
   exact fin _ _ rfl rfl (hsm.lk hph hnm (by omega))
 | cons a A'=>
  obtain⟨hcA,hfa⟩:=k.oo t.V t.F (t.rs.set r { rG t.rs r with h:=-1,v:=(hG t.hs h).f }++[(⟨-1,(hG t.hs (mt h:Nat)).f,(rG t.rs r).c⟩:Rg)])
  have hne1:a≠mt h:=k.am (by simp)
  have d1:decide ((nx t h:Int)=(mt h:Int))=false:=aQ (by omega)
  have hbA:∀y∈a::A',y<(lk t.hs (pv t (mt h)) (nx t h)).length:=fun y hy=>by rw[aF];exact(k.et hy).1
  have hsm1:dq (lk t.hs (pv t (mt h)) (nx t h)):=hsm.lk hpm hnh (by omega)
  have hst:=xM (V:=t.V) (F:=t.F) (hs:=lk t.hs (pv t (mt h)) (nx t h)) (rs:=t.rs.set r { rG t.rs r with h:=-1,v:=(hG t.hs h).f }++[(⟨-1,(hG t.hs (mt h:Nat)).f,(rG t.rs r).c⟩:Rg)]) (by rw[aF];omega) (r:=t.rs.length) hcA hbA (fun y hy=>hsm1.mc (hbA y hy)) (by simp)
  have hst':cI (t.V,t.F,(lk t.hs (pv t (mt h)) (nx t h)).map tH,(t.rs.set r { rG t.rs r with h:=-1,v:=(hG t.hs h).f }++[(⟨-1,(hG t.hs (mt h:Nat)).f,(rG t.rs r).c⟩:Rg)]).map tR,(nx t h:Int),(t.rs.length:Int),())=some ((ar (lk t.hs (pv t (mt h)) (nx t h)) (a::A') (t.rs.length:Int)).map tH,(t.rs.set r { rG t.rs r with h:=-1,v:=(hG t.hs h).f }++[(⟨(a:Int),-1,(rG t.rs r).c⟩:Rg)]).map tR,()):=by
   rw[hfa] at hst ⊢
   rw[hst]
   have e2:rG (t.rs.set r { rG t.rs r with h:=-1,v:=(hG t.hs h).f }++[(⟨-1,(hG t.hs (mt h:Nat)).f,(rG t.rs r).c⟩:Rg)]) (t.rs.length:Nat)=⟨-1,(hG t.hs (mt h:Nat)).f,(rG t.rs r).c⟩:=nB (by simp)
   unfold lJ
   simp only[e2,hsetR]
  have hl2:(ar (lk t.hs (pv t (mt h)) (nx t h)) (a::A') (t.rs.length:Int)).length=t.hs.length:=by rw[cF,aF]
  have hsm2:dq (ar (lk t.hs (pv t (mt h)) (nx t h)) (a::A') (t.rs.length:Int)):=hsm1.ar hbA _
  cases B with
  | nil=>
   have hbh:nx t (mt h)=h:=k.p2
   have d2:decide ((nx t (mt h):Int)=(h:Int))=true:=aM (by omega)
   simp only[zS,bD ht,fP,hi2,hroom',qN (k:=h) (by omega),mM hz,bL,bC,dW (l:=t.hs) (i:=(h:Int)) (by omega) (by omega),dW (l:=t.hs) (i:=((mt h:Nat):Int)) (by omega) (by omega),aG (n:=(t.hs.length:Int)) (i:=h) (by omega),aG (n:=(t.hs.length:Int)) (i:=mt h) (by omega),aG (n:=(t.rs.length:Int)) (i:=r) (by omega),aU,gI hh,gI hm,sO hr,sX,mZ,mK,jK,fA,fO,hr1,hr2,hk.bd hh,hk.bo hh,hk.bd hm,hk.bo hm,bS,hfold,hrr,d1,d2,hlenq,hlenq0,aG (n:=((t.rs.length+1:Nat):Int)) (i:=r) (by omega),FW,NO,wX,aW,hgr,hsetr,hgr2,hsetr2,lkr t.hs _ rfl _ _ hpm hnh,hst']
   exact fin _ _ rfl rfl hsm2
  | cons b B'=>
   have hbh:nx t (mt h)=b:=k.p2.1
   have hne:b≠h:=k.bh (by simp)
   have d2:decide ((nx t (mt h):Int)=(h:Int))=false:=aQ (by omega)
   have hnB:∀y∈b::B',(hG (ar (lk t.hs (pv t (mt h)) (nx t h)) (a::A') (t.rs.length:Int)) y).n=(hG t.hs y).n:=fun y hy=>by
    rw[Cj _ _ _ _ hbA,aY hpm hnh]
    have hne2:pv t (mt h)≠y:=fun e=>by
     have hlast:pv t (mt h)=rR a A' A'.length:=by
      have h1:=nX k.p1
      have h2:=(k.et (lS (x:=a) (m:=A') (k:=A'.length) (by simp))).1
      rw[←h1,hk.pn h2]
     have hA:y∈a::A':=by rw[←e,hlast];exact lS (by simp)
     exact k.ab hA hy
    simp only[aA hne2]
   have hrB:∀y∈b::B',(hG (ar (lk t.hs (pv t (mt h)) (nx t h)) (a::A') (t.rs.length:Int)) y).r=(r:Int):=fun y hy=>by
    rw[dX _ _ _ _ hbA,aA fun e=>k.ab e hy,aY hpm hnh]
    exact cH (k.ji hy).2
   have hs2:=stB (ar (lk t.hs (pv t (mt h)) (nx t h)) (a::A') (t.rs.length:Int)) ⟨(a:Int),-1,(rG t.rs r).c⟩ b B' rfl hl2 hsm2 hnB hrB
   simp only[zS,bD ht,fP,hi2,hroom',qN (k:=h) (by omega),mM hz,bL,bC,dW (l:=t.hs) (i:=(h:Int)) (by omega) (by omega),dW (l:=t.hs) (i:=((mt h:Nat):Int)) (by omega) (by omega),aG (n:=(t.hs.length:Int)) (i:=h) (by omega),aG (n:=(t.hs.length:Int)) (i:=mt h) (by omega),aG (n:=(t.rs.length:Int)) (i:=r) (by omega),aU,gI hh,gI hm,sO hr,sX,mZ,mK,jK,fA,fO,hr1,hr2,hk.bd hh,hk.bo hh,hk.bd hm,hk.bo hm,bS,hfold,hrr,d1,d2,hlenq,hlenq0,aG (n:=((t.rs.length+1:Nat):Int)) (i:=r) (by omega),FW,NO,wX,aW,hgr,hsetr,hgr2,hsetr2,lkr t.hs _ rfl _ _ hpm hnh,hst',lkr _ _ hl2 _ _ hph hnm,hs2]
   exact fin _ _ rfl rfl (hsm2.lk (by omega) (by omega) (by omega))
def uI(t:Tp)(f:Int)(r:Nat):Bool:=decide ((rG t.rs r).c=f)
theorem AE{t:Tp}(hR:t.rs.length≤1000)(f:Int):rL (t.V,t.F,t.hs.map tH,t.rs.map tR,f,())=some ((av (uI t f) t.rs.length:Int),()):=by
 have hl:=bN (F:=pR) t.rs.length (fun k=>(f,(),(av (uI t f) k:Int),(k:Int),t.V,t.F,t.hs.map tH,t.rs.map tR,())) (fun k hk=>by
  have hlt:decide ((k:Int)<(t.rs.length:Int))=true:=aM (by omega)
  have hc:=yZ (uI t f) k
  unfold pR
  simp only[zS,aK,bC,hlt,hJ (l:=t.rs) (i:=(k:Int)) (by omega) (by omega),fA,av]
  cases h:decide ((rG t.rs k).c=f) with
  | true=>
   have hi:uI t f k=true:=h
   simp only[bF,fI,aW,aO,wk (k:=k) (by omega),wk (k:=av (uI t f) k) (by omega),hi,eP]
  | false=>
   have hi:uI t f k=false:=h
   simp only[bV,fI,aW,aO,wk (k:=k) (by omega),hi,pB,iK,rS])
 unfold rL
 have e0:(f,(),(0:Int),(0:Int),t.V,t.F,t.hs.map tH,t.rs.map tR,())=(f,(),(av (uI t f) 0:Int),((0:Nat):Int),t.V,t.F,t.hs.map tH,t.rs.map tR,()):=rfl
 simp only[]
 rw[e0,hl]
 have hlt:decide ((t.rs.length:Int)<(t.rs.length:Int))=false:=aQ (by omega)
 have ho:pR (f,(),(av (uI t f) t.rs.length:Int),(t.rs.length:Int),t.V,t.F,t.hs.map tH,t.rs.map tR,())=some (.inr (.inl ((av (uI t f) t.rs.length:Int),()))):=by
  unfold pR;simp only[aK,bC,hlt,bV]
 rw[bA ho];rfl
theorem BG{t:Tp}(hR:t.rs.length≤1000){r:Nat}(hr:r<t.rs.length):oS (t.V,t.F,t.hs.map tH,t.rs.map tR,(r:Int),())=some ((av (uI t (rG t.rs r).c) t.rs.length:Int)-1,()):=by
 have hl:=bN (F:=kW) t.rs.length (fun k=>((r:Int),(),(av (uI t (rG t.rs r).c) k:Int)-1,t.rs.map tR,(t.rs.length:Int),(k:Int),t.V,t.F,t.hs.map tH,t.rs.map tR,())) (fun k hk=>by
  have hlt:decide ((k:Int)<(t.rs.length:Int))=true:=aM (by omega)
  have hc:=yZ (uI t (rG t.rs r).c) k
  have hw:wr .i64 ((av (uI t (rG t.rs r).c) k:Int)-1+1)=((av (uI t (rG t.rs r).c) k+1:Nat):Int)-1:=by rw[gN (by omega) (by omega)];push_cast;omega
  unfold kW
  simp only[zS,aK,hlt,hJ (l:=t.rs) (i:=(k:Int)) (by omega) (by omega),hJ (l:=t.rs) (i:=(r:Int)) (by omega) (by omega),fA,av]
  cases h:decide ((rG t.rs k).c=(rG t.rs r).c) with
  | true=>
   have hi:uI t (rG t.rs r).c k=true:=h
   simp only[bF,fI,aW,aO,wk (k:=k) (by omega),hw,hi,eP]
  | false=>
   have hi:uI t (rG t.rs r).c k=false:=h
   simp only[bV,fI,aW,aO,wk (k:=k) (by omega),hi,pB,iK,rS])
 unfold oS
 have e0:((r:Int),(),(-1:Int),t.rs.map tR,(t.rs.length:Int),(0:Int),t.V,t.F,t.hs.map tH,t.rs.map tR,())=((r:Int),(),(av (uI t (rG t.rs r).c) 0:Int)-1,t.rs.map tR,(t.rs.length:Int),((0:Nat):Int),t.V,t.F,t.hs.map tH,t.rs.map tR,()):=rfl
 simp only[bC]
 rw[e0,hl]
 have hlt:decide ((t.rs.length:Int)<(t.rs.length:Int))=false:=aQ (by omega)
 have ho:kW ((r:Int),(),(av (uI t (rG t.rs r).c) t.rs.length:Int)-1,t.rs.map tR,(t.rs.length:Int),(t.rs.length:Int),t.V,t.F,t.hs.map tH,t.rs.map tR,())=some (.inr (.inl ((av (uI t (rG t.rs r).c) t.rs.length:Int)-1,()))):=by
  unfold kW;simp only[aK,hlt,bV]
 rw[bA ho];rfl
theorem Fa{P:Nat→Bool}{n i j:Nat}(h:av P n≤1)(hi:i<n)(hj:j<n)(pi:P i=true)(pj:P j=true):i=j:=by
 by_cases e:i=j
 ·exact e
 ·have:=By (P:=P) (n:=n) (l:=[i,j]) (by simp[e]) (fun x hx=>by
   simp only[cN,JF,FB] at hx
   rcases hx with rfl | rfl
   ·exact⟨hi,pi⟩
   ·exact⟨hj,pj⟩)
  simp only[oB,xC] at this
  omega
theorem YX{t X:Tp}(ht:CKP t)(hh:X.hs=t.hs)(hl:X.rs.length=t.rs.length)(h:∀i:Nat,i<t.rs.length→(rG X.rs i).h=(rG t.rs i).h∧(rG X.rs i).v=(rG t.rs i).v):lz X=dn X:=by
 refine gn fun i hi=>?_
 rw[hl] at hi
 obtain⟨h1,h2⟩:=h i hi
 rw[hh,h1,h2]
 rcases ht.dy hi with⟨a,b,c⟩ | ⟨a,b,_⟩
 ·exact .inl ⟨a,b,by omega⟩
 ·exact .inr ⟨a,b⟩
def lI(P:Nat→Bool):Nat→Int
 | 0=>-1
 | k+1=>bif P k then (k:Int) else lI P k
theorem Qo{P:Nat→Bool}{n:Nat}(h:0<av P n):∃k:Nat,k<n∧lI P n=(k:Int)∧P k=true:=by
 induction n with
 | zero=>exact absurd h (by simp[av])
 | succ n ih=>
  simp only[lI]
  cases hp:P n with
  | true=>exact⟨n,by omega,rfl,hp⟩
  | false=>
   simp only[av,hp,pB,iK,rS] at h
   obtain⟨k,a,b,c⟩:=ih h
   exact⟨k,by omega,b,c⟩
theorem Xs{t:Tp}(hR:t.rs.length≤1000)(f g:Int)(a b:Int)(x y:T):bH pT (f,g,(),(),0,a,b,x,y,t.V,t.F,t.hs.map tH,t.rs.map tR,())=some (.inl (g,(),(),a,b,x,y,t.V,t.F,t.hs.map tH,(t.rs.map (gC g f)).map tR,())):=by
 have hl:=bN (F:=pT) t.rs.length (fun k=>(f,g,(),(),(k:Int),a,b,x,y,t.V,t.F,t.hs.map tH,(mk (gC g f) t.rs k).map tR,())) (fun k hk=>by
  have hlt:decide ((k:Int)<(t.rs.length:Int))=true:=aM (by omega)
  have hx:=wD t.rs k hk
  have hlen:(mk (gC g f) t.rs k).length=t.rs.length:=BB _ _ _
  have hg:((mk (gC g f) t.rs k).map tR)[k]?=some (tR (rG t.rs k)):=by rw[eW,xP _ _ hk,hx];rfl
  unfold pT
  simp only[zS,aK,bC,hlen,hlt,aG (n:=(t.rs.length:Int)) (i:=k) (by omega),aU,hg,fA]
  by_cases e:(rG t.rs k).c=g
  ·have hgx:gC g f (rG t.rs k)={ rG t.rs k with c:=f }:=aC e
   rw[←zC (gC g f) hx,hgx]
   simp only[aM e,bF,fI,bS,Hz,wX,aW,aO,wk (k:=k) (by omega)]
  ·rw[yE (gC g f) hx (aA e)]
   simp only[aQ e,bV,fI,aW,aO,wk (k:=k) (by omega)])
 have e0:(f,g,(),(),(0:Int),a,b,x,y,t.V,t.F,t.hs.map tH,t.rs.map tR,())=(f,g,(),(),((0:Nat):Int),a,b,x,y,t.V,t.F,t.hs.map tH,(mk (gC g f) t.rs 0).map tR,()):=by rw[wI];rfl
 rw[e0,hl]
 refine bA ?_
 have hlt:decide ((t.rs.length:Int)<(t.rs.length:Int))=false:=aQ (by omega)
 unfold pT
 simp only[aK,BC,bC,cS,hlt,bV]
theorem Xt{t:Tp}(hR:t.rs.length≤1000)(f g:Int)(a b:Int)(x y:T):bH mJ (f,g,(),(),-1,0,(),(t.rs.length:Int),0,a,b,x,y,t.V,t.F,t.hs.map tH,t.rs.map tR,())=some (.inl (f,g,(),(),lI (uI t g) t.rs.length,(av (uI t g) t.rs.length:Int),a,b,x,y,t.V,t.F,t.hs.map tH,t.rs.map tR,())):=by
 have hl:=bN (F:=mJ) t.rs.length (fun k=>(f,g,(),(),lI (uI t g) k,(av (uI t g) k:Int),(),(t.rs.length:Int),(k:Int),a,b,x,y,t.V,t.F,t.hs.map tH,t.rs.map tR,())) (fun k hk=>by
  have hlt:decide ((k:Int)<(t.rs.length:Int))=true:=aM (by omega)
  have hc:=yZ (uI t g) k
  unfold mJ
  simp only[zS,aK,hlt,bC,aG (n:=(t.rs.length:Int)) (i:=k) (by omega),aU,sO hk,fA,av,lI]
  cases h:decide ((rG t.rs k).c=g) with
  | true=>
   have hi:uI t g k=true:=h
   simp only[bF,fI,aW,aO,wk (k:=k) (by omega),wk (k:=av (uI t g) k) (by omega),hi,eP]
  | false=>
   have hi:uI t g k=false:=h
   simp only[bV,fI,aW,aO,wk (k:=k) (by omega),hi,pB,iK,rS])
 have e0:(f,g,(),(),(-1:Int),(0:Int),(),(t.rs.length:Int),(0:Int),a,b,x,y,t.V,t.F,t.hs.map tH,t.rs.map tR,())=(f,g,(),(),lI (uI t g) 0,(av (uI t g) 0:Int),(),(t.rs.length:Int),((0:Nat):Int),a,b,x,y,t.V,t.F,t.hs.map tH,t.rs.map tR,()):=rfl
 rw[e0,hl]
 refine bA ?_
 have hlt:decide ((t.rs.length:Int)<(t.rs.length:Int))=false:=aQ (by omega)
 unfold mJ
 simp only[aK,hlt,bV]
theorem YY{V F:Int}{hs:List Hf}{rs:List Rg}(hR:rs.length≤1000)(hF:0≤F∧F≤1000)(f:Int):dJ ((),f,V,F,hs.map tH,rs.map tR,())=some (oF (dF ⟨V,F,hs,rs⟩ f)):=QT (t:=⟨V,F,hs,rs⟩) hR hF f
theorem NB{V F:Int}{hs:List Hf}{rs:List Rg}(hR:rs.length≤1000)(hF:0≤F∧F≤1000)(f:Int):kJ ((),f,V,F,hs.map tH,rs.map tR,())=some (oF (dF ⟨V,F,hs,rs⟩ f)):=Co (t:=⟨V,F,hs,rs⟩) hR hF f
def aZ(t:Tp):Mp where
 n:=t.hs.length
 R:=t.rs.length
 V:=t.V.toNat
 F:=t.F.toNat
 f:=fun k=>(hG t.hs k).f.toNat
 r:=fun k=>(hG t.hs k).r.toNat
 nx:=nx t
 pv:=pv t
 al:=fun q=>decide ((rG t.rs q).h=-1)
 rv:=fun q=>(rG t.rs q).v.toNat
 rc:=fun q=>(rG t.rs q).c.toNat
def vG:cw:=⟨fun _=>true,fun _=>true,fun _=>true,fun _=>true⟩
structure NN (t:Tp) (a:cw):Prop where
 h:∀k,cT t.hs.length a.L k→0≤(hG t.hs k).f∧0≤(hG t.hs k).n∧0≤(hG t.hs k).p∧0≤(hG t.hs k).r
 c:∀q,cT t.rs.length a.R q→0≤(rG t.rs q).c∧(((rG t.rs q).h=-1∧0≤(rG t.rs q).v)∨((rG t.rs q).h≠-1∧(rG t.rs q).v=-1))
theorem CZ{P:Nat→Bool}{n:Nat}:av P n=1↔∃q,(q<n∧P q=true)∧∀q',q'<n→P q'=true→q'=q:=by
 constructor
 ·intro h
  obtain⟨q,hq,hp⟩:=pF.1 (by omega:0<av P n)
  exact⟨q,⟨hq,hp⟩,fun q' h1 h2=>Fa (by omega) h1 hq h2 hp⟩
 ·rintro ⟨q,⟨h1,h2⟩,h3⟩
  have:av P n=[q].length:=M9 (by simp) fun y=>by
   constructor
   ·intro hy
    have e:y=q:=by simpa using hy
    subst e;exact⟨h1,h2⟩
   ·rintro ⟨a1,a2⟩
    rw[h3 y a1 a2];simp
  exact this
theorem CKP.wv{t:Tp}(ht:CKP t):WV (aZ t) vG∧NN t vG:=by
 have hk:=ht.toHok
 have hb:=fun k (h:k<t.hs.length)=>iJ.1 (hk.b1 k h)
 have nn:NN t vG:=⟨fun k hl=>by obtain⟨h1,h2,h3,h4⟩:=hb k hl.1;exact⟨h1.1,h2.1,h3.1,h4.1⟩,fun q hq=>⟨(ht.rc q hq.1).1,by
  rcases ht.rr q hq.1 with⟨h1,h2,_⟩ | ⟨h1,_,_,h2,_⟩
  ·exact .inl ⟨h1,h2⟩
  ·exact .inr ⟨by omega,h2⟩⟩⟩
 refine⟨?_,nn⟩
 have rEq:∀k,k<t.hs.length→∀q:Nat,((hG t.hs k).r.toNat=q↔eK t q k=true):=fun k h q=>by
  have:=(hb k h).2.2.2
  unfold eK;rw[cK];omega
 have fEq:∀k,k<t.hs.length→∀u:Nat,((hG t.hs k).f.toNat=u↔nP t u k=true):=fun k h u=>by
  have:=(hb k h).1
  unfold nP;rw[cK];omega
 have aEq:∀q,q<t.rs.length→∀u:Nat,((decide ((rG t.rs q).h=-1)=true∧(rG t.rs q).v.toNat=u)↔CM t u q=true):=fun q h u=>by
  unfold CM;rw[cM,cK,cK]
  have:=(nn.c q ⟨h,rfl⟩).2
  constructor
  ·rintro ⟨h1,h2⟩;exact⟨h1,by omega⟩
  ·rintro ⟨h1,h2⟩;exact⟨h1,by omega⟩
 refine { cg:=fun k hl=>⟨kS hk.e hl.1,rfl⟩,hf:=fun k hl=>⟨?_,rfl⟩,hn:=fun k hl=>⟨hk.bf hl.1,rfl⟩,hp:=fun k hl=>⟨hk.aj hl.1,rfl⟩,pn:=fun k hl=>hk.pn hl.1,np:=fun k hl=>hk.np hl.1,hr:=fun k hl=>⟨?_,rfl⟩,rn:=fun k hl=>?_,ff:=fun k hl=>?_,rc:=fun q hq=>⟨?_,rfl⟩,ra:=fun q hq bn=>⟨⟨?_,rfl⟩,fun k hl e=>?_⟩,ro:=fun q hq bn=>?_,fc:=fun g hg=>?_,va:=fun u hu=>?_ }
 ·show (hG t.hs k).f.toNat<t.V.toNat
  have:=(hb k hl.1).1;omega
 ·show (hG t.hs k).r.toNat<t.rs.length
  have:=(hb k hl.1).2.2.2;omega
 ·show (hG t.hs (nx t k:Nat)).r.toNat=(hG t.hs k).r.toNat
  rw[hk.rg hl.1]
 ·show (hG t.hs (nx t k:Nat)).f.toNat=(hG t.hs (mt k:Nat)).f.toNat
  rw[hk.fr hl.1]
 ·show (rG t.rs q).c.toNat<t.F.toNat
  have:=ht.rc q hq.1;omega
 ·show (rG t.rs q).v.toNat<t.V.toNat
  have h1:(rG t.rs q).h=-1:=cH bn
  rcases ht.rr q hq.1 with⟨_,h2,h3,_⟩ | ⟨h2,_⟩ <;> omega
 ·have h1:(rG t.rs q).h=-1:=cH bn
  rcases ht.rr q hq.1 with⟨_,_,_,h4⟩ | ⟨h2,_⟩
  ·have:=(rEq k hl.1 q).1 e
   rw[h4 k hl.1] at this;cases this
  ·omega
 ·have h1:(rG t.rs q).h≠-1:=tM bn
  rcases ht.rr q hq.1 with⟨h2,_⟩ | ⟨_,_,_,_,h3⟩
  ·exact absurd h2 h1
  ·refine h3.ext (fun _ _ _=>rfl) fun y=>?_
   show (y<t.hs.length∧(true&&decide ((hG t.hs y).r.toNat=q))=true)↔_
   rw[fM,cK]
   exact LD fun hy=>rEq y hy q
 ·obtain⟨j,j1,j2⟩:=ht.fc g hg.1
  exact⟨j,⟨j1,rfl⟩,j2⟩
 ·rcases ht.vv u hu.1 with⟨h1,h2⟩ | ⟨h1,h2⟩
  ·obtain⟨q,⟨q1,q2⟩,q3⟩:=CZ.1 h1
   obtain⟨q4,q5⟩:=(aEq q q1 u).2 q2
   refine .inl ⟨⟨q,⟨⟨q1,rfl⟩,q4,q5⟩,fun q' p1 p2 p3=>q3 q' p1.1 ((aEq q' p1.1 u).1 ⟨p2,p3⟩)⟩,fun k hl e=>?_⟩
   have:=(fEq k hl.1 u).1 e
   rw[h2 k hl.1] at this;cases this
  ·refine .inr ⟨fun q p1 p2 p3=>?_,h2.ext (fun _ _ _=>rfl) fun y=>?_⟩
   ·have:=(aEq q p1.1 u).1 ⟨p2,p3⟩
    rw[h1 q p1.1] at this;cases this
   ·show (y<t.hs.length∧(true&&decide ((hG t.hs y).f.toNat=u))=true)↔_
    rw[fM,cK]
    exact LD fun hy=>fEq y hy u
theorem WV.fe{t:Tp}(hz:Sz t)(nn:NN t vG)(h:WV (aZ t) vG):CKP (lz t):=by
 have nh:=fun k (hk:k<t.hs.length)=>nn.h k ⟨hk,rfl⟩
 have nc:=fun q (hq:q<t.rs.length)=>nn.c q ⟨hq,rfl⟩
 have nxi:∀k,k<t.hs.length→(hG t.hs k).n=(nx t k:Int):=fun k hk=>by have:=(nh k hk).2.1;unfold nx;omega
 have pvi:∀k,k<t.hs.length→(hG t.hs k).p=(pv t k:Int):=fun k hk=>by have:=(nh k hk).2.2.1;unfold pv;omega
 have nlt:∀k,k<t.hs.length→nx t k<t.hs.length:=fun k hk=>(h.hn k ⟨hk,rfl⟩).1
 have plt:∀k,k<t.hs.length→pv t k<t.hs.length:=fun k hk=>(h.hp k ⟨hk,rfl⟩).1
 have mlt:∀k,k<t.hs.length→mt k<t.hs.length:=fun k hk=>kS hz.e hk
 have hok:Hok t:={ hz with
  b1:=fun k hk=>iJ.2 ⟨⟨(nh k hk).1,by have:(hG t.hs k).f.toNat<t.V.toNat:=(h.hf k ⟨hk,rfl⟩).1;have:=(nh k hk).1;omega⟩,⟨(nh k hk).2.1,by have:=nlt k hk;rw[nxi k hk];omega⟩,⟨(nh k hk).2.2.1,by have:=plt k hk;rw[pvi k hk];omega⟩,(nh k hk).2.2.2,by have:(hG t.hs k).r.toNat<t.rs.length:=(h.hr k ⟨hk,rfl⟩).1;have:=(nh k hk).2.2.2;omega⟩
  b2:=fun k hk=>L5.2 ⟨by
   rw[nxi k hk,pvi _ (nlt k hk)]
   have:pv t (nx t k)=k:=h.pn k ⟨hk,rfl⟩
   rw[this],by
   rw[pvi k hk,nxi _ (plt k hk)]
   have:nx t (pv t k)=k:=h.np k ⟨hk,rfl⟩
   rw[this],by
   have:(hG t.hs (nx t k:Nat)).r.toNat=(hG t.hs k).r.toNat:=h.rn k ⟨hk,rfl⟩
   have h1:=(nh k hk).2.2.2
   have h2:=(nh _ (nlt k hk)).2.2.2
   rw[nxi k hk];omega,by
   have:(hG t.hs (nx t k:Nat)).f.toNat=(hG t.hs (mt k:Nat)).f.toNat:=h.ff k ⟨hk,rfl⟩
   have h1:=(nh _ (mlt k hk)).1
   have h2:=(nh _ (nlt k hk)).1
   rw[nxi k hk];omega⟩ }
 have rEq:∀k,k<t.hs.length→∀q:Nat,((hG t.hs k).r.toNat=q↔eK t q k=true):=fun k hk q=>by
  have:=(nh k hk).2.2.2
  unfold eK;rw[cK];omega
 have fEq:∀k,k<t.hs.length→∀u:Nat,((hG t.hs k).f.toNat=u↔nP t u k=true):=fun k hk u=>by
  have:=(nh k hk).1
  unfold nP;rw[cK];omega
 have hRl:(lz t).rs.length=t.rs.length:=kT t
 have lR:∀q,q<t.rs.length→(rG (lz t).rs q).c=(rG t.rs q).c∧(rG (lz t).rs q).v=(rG t.rs q).v∧((rG t.rs q).h=-1→(rG (lz t).rs q).h=-1)∧((rG t.rs q).h≠-1→(rG (lz t).rs q).h=YP (eK t q) t.hs.length (rG t.rs q).h):=fun q hq=>by
  rw[uT t hq]
  unfold KV
  by_cases he:(rG t.rs q).h=-1
  ·rw[aM he]
   exact⟨rfl,rfl,fun _=>he,fun hne=>absurd he hne⟩
  ·rw[aQ he]
   exact⟨rfl,rfl,fun e=>absurd e he,fun _=>rfl⟩
 have hOrb:∀q,q<t.rs.length→(rG t.rs q).h≠-1→bx (nx t) t.hs.length (eK t q):=fun q hq hne=>by
  refine(h.ro q ⟨hq,rfl⟩ (aQ hne)).ext (fun _ _ _=>rfl) fun y=>?_
  show _↔(y<t.hs.length∧(true&&decide ((hG t.hs y).r.toNat=q))=true)
  rw[fM,cK]
  exact LD fun hy=>(rEq y hy q).symm
 have hFi:∀q,q<t.rs.length→(rG t.rs q).h≠-1→∃k:Nat,k<t.hs.length∧(rG (lz t).rs q).h=(k:Int)∧eK t q k=true:=fun q hq hne=>by
  obtain⟨x,m,_,hm⟩:=hOrb q hq hne
  have hx:=(hm x).1 (by simp)
  have hc:0<av (eK t q) t.hs.length:=pF.2 ⟨x,hx.1,hx.2⟩
  rw[(lR q hq).2.2.2 hne]
  unfold YP
  rw[aC hc]
  obtain⟨k,k1,k2,k3⟩:=DU hc
  exact⟨k,k1,k2,k3⟩
 have aEq:∀q,q<t.rs.length→∀u:Nat,(CM (lz t) u q=true↔(decide ((rG t.rs q).h=-1)=true∧(rG t.rs q).v.toNat=u)):=fun q hq u=>by
  obtain⟨_,l2,l3,l4⟩:=lR q hq
  unfold CM;rw[cM,cK,cK,cK,l2]
  by_cases he:(rG t.rs q).h=-1
  ·rcases(nc q hq).2 with⟨_,hv⟩ | ⟨hne,_⟩
   ·constructor
    ·rintro ⟨_,h2⟩;exact⟨he,by omega⟩
    ·rintro ⟨_,h2⟩;exact⟨l3 he,by omega⟩
   ·exact absurd he hne
  ·constructor
   ·rintro ⟨h1,_⟩
    obtain⟨k,_,k2,_⟩:=hFi q hq he
    omega
   ·rintro ⟨h1,_⟩;exact absurd h1 he
 have hb1:∀k,k<(lz t).hs.length→b1 (lz t) k=true:=fun k hk=>by
  have:=hok.b1 k hk
  unfold Tl.b1 at this ⊢
  rw[hRl];exact this
 have hok':Hok (lz t):={ n:=hz.n,e:=hz.e,V0:=hz.V0,V1:=hz.V1,F0:=hz.F0,F1:=hz.F1,R:=by rw[hRl];exact hz.R,b1:=hb1,b2:=hok.b2 }
 refine { hok' with rc:=fun q hq=>?_,rr:=fun q hq=>?_,fc:=fun g hg=>?_,vv:=fun u hu=>?_ }
 ·rw[hRl] at hq
  rw[(lR q hq).1]
  have h1:(rG t.rs q).c.toNat<t.F.toNat:=(h.rc q ⟨hq,rfl⟩).1
  have h2:=(nc q hq).1
  exact⟨h2,by show (rG t.rs q).c<t.F;omega⟩
 ·rw[hRl] at hq
  obtain⟨l1,l2,l3,l4⟩:=lR q hq
  by_cases he:(rG t.rs q).h=-1
  ·obtain⟨a1,a2⟩:=h.ra q ⟨hq,rfl⟩ (aM he)
   have a1:(rG t.rs q).v.toNat<t.V.toNat:=a1.1
   rcases(nc q hq).2 with⟨_,hv⟩ | ⟨hne,_⟩
   ·refine .inl ⟨l3 he,by rw[l2];exact hv,by rw[l2];show (rG t.rs q).v<t.V;omega,fun k hk=>?_⟩
    cases hi:eK (lz t) q k with
    | false=>rfl
    | true=>exact absurd ((rEq k hk q).2 hi) (a2 k ⟨hk,rfl⟩)
   ·exact absurd he hne
  ·obtain⟨k,k1,k2,k3⟩:=hFi q hq he
   rcases(nc q hq).2 with⟨h1,_⟩ | ⟨_,hv⟩
   ·exact absurd h1 he
   ·refine .inr ⟨by omega,by rw[k2];show (k:Int)<t.hs.length;omega,by rw[k2];exact cH k3,by rw[l2];exact hv,hOrb q hq he⟩
 ·obtain⟨q,q1,q2⟩:=h.fc g ⟨hg,rfl⟩
  exact⟨q,by rw[hRl];exact q1.1,by rw[(lR q q1.1).1];exact q2⟩
 ·rw[hRl]
  rcases h.va u ⟨hu,rfl⟩ with⟨⟨q,⟨q1,q2,q3⟩,q4⟩,h2⟩ | ⟨h1,h2⟩
  ·refine .inl ⟨CZ.2 ⟨q,⟨q1.1,(aEq q q1.1 u).2 ⟨q2,q3⟩⟩,fun q' p1 p2=>?_⟩,fun k hk=>?_⟩
   ·obtain⟨p3,p4⟩:=(aEq q' p1 u).1 p2
    exact q4 q' ⟨p1,rfl⟩ p3 p4
   ·cases hi:nP (lz t) u k with
    | false=>rfl
    | true=>exact absurd ((fEq k hk u).2 hi) (h2 k ⟨hk,rfl⟩)
  ·refine .inr ⟨fun q hq=>?_,h2.ext (fun _ _ _=>rfl) fun y=>?_⟩
   ·cases ha:CM (lz t) u q with
    | false=>rfl
    | true=>
     obtain⟨p3,p4⟩:=(aEq q hq u).1 ha
     exact absurd p4 (h1 q ⟨hq,rfl⟩ p3)
   ·show _↔(y<t.hs.length∧(true&&decide ((hG t.hs y).f.toNat=u))=true)
    rw[fM,cK]
    exact LD fun hy=>(fEq y hy u).symm
theorem ic.refl(n:Nat)(P:Nat→Bool):ic n P n P id id:=⟨fun _ h=>h,fun _ h=>h,fun _ _=>rfl,fun _ _=>rfl⟩
theorem WV.nf{m:Mp}{a:cw}(h:WV m a){F':Nat}{P':Nat→Bool}{rc:Nat→Nat}(h1:∀q,cT m.R a.R q→cT F' P' (rc q))(h2:∀g,cT F' P' g→∃q,cT m.R a.R q∧rc q=g):WV { m with F:=F',rc:=rc } { a with F:=P' }:=
 { cg:=h.cg,hf:=h.hf,hn:=h.hn,hp:=h.hp,pn:=h.pn,np:=h.np,hr:=h.hr,rn:=h.rn,ff:=h.ff,rc:=h1,ra:=h.ra,ro:=h.ro,fc:=h2,va:=h.va }
theorem WV.gw{m:Mp}{a:cw}(h:WV m a){al:Nat→Bool}{rv rc:Nat→Nat}(ha:∀j,cT m.R a.R j→al j=m.al j)(hv:∀j,cT m.R a.R j→al j=true→rv j=m.rv j)(hc:∀j,cT m.R a.R j→rc j=m.rc j):
 WV { m with al:=al,rv:=rv,rc:=rc } a:=h.jk (ic.refl m.R a.R) (r:=m.r) (fun _ _=>rfl) ha hv hc
theorem Ig{t:Tp}(ht:CKP t){r:Nat}(hr:r<t.rs.length)(hF:t.F+1≤257)(hc:av (uI t (rG t.rs r).c) t.rs.length≠1):CKP (lz ⟨t.V,t.F+1,t.hs,t.rs.set r { rG t.rs r with c:=t.F }⟩):=by
 obtain⟨hw,nn⟩:=ht.wv
 have hF0:=ht.F0
 have hset:∀q:Nat,rG (t.rs.set r { rG t.rs r with c:=t.F }) q=if r=q then { rG t.rs r with c:=t.F } else rG t.rs q:=fun q=>iD hr
 have hlen:(t.rs.set r { rG t.rs r with c:=t.F }).length=t.rs.length:=cW ..
 refine WV.fe { n:=ht.n,e:=ht.e,V0:=ht.V0,V1:=ht.V1,F0:=by show (1:Int)≤t.F+1;omega,F1:=hF,R:=by rw[hlen];exact ht.R } ⟨fun k hk=>nn.h k hk,fun q hq=>?_⟩ ?_
 ·have hq':q<t.rs.length:=by rw[←hlen];exact hq.1
  obtain⟨n1,n2⟩:=nn.c q ⟨hq',rfl⟩
  show 0≤(rG (t.rs.set r { rG t.rs r with c:=t.F }) q).c∧_
  simp only[hset q]
  by_cases e:r=q
  ·subst e
   rw[aC rfl]
   exact⟨by show 0≤t.F;omega,n2⟩
  ·rw[aA e]
   exact⟨n1,n2⟩
 ·let X:Tp:=⟨t.V,t.F+1,t.hs,t.rs.set r { rG t.rs r with c:=t.F }⟩
  have h1:WV { aZ t with al:=(aZ X).al,rv:=(aZ X).rv,rc:=(aZ t).rc } vG:=hw.gw (fun j hj=>by
   show decide ((rG (t.rs.set r { rG t.rs r with c:=t.F }) j).h=-1)=decide ((rG t.rs j).h=-1)
   rw[hset j]
   by_cases e:r=j
   ·subst e;rw[aC rfl]
   ·rw[aA e]) (fun j hj _=>by
   show (rG (t.rs.set r { rG t.rs r with c:=t.F }) j).v.toNat=(rG t.rs j).v.toNat
   rw[hset j]
   by_cases e:r=j
   ·subst e;rw[aC rfl]
   ·rw[aA e]) (fun j hj=>rfl)
  have hrcX:∀q,(aZ X).rc q=if r=q then t.F.toNat else (rG t.rs q).c.toNat:=fun q=>by
   show (rG (t.rs.set r { rG t.rs r with c:=t.F }) q).c.toNat=_
   rw[hset q]
   split <;> rfl
  have h2:=h1.nf (F':=(aZ X).F) (P':=fun _=>true) (rc:=(aZ X).rc) (fun q hq=>⟨by
   rw[hrcX q]
   show _<(t.F+1).toNat
   split
   ·omega
   ·have:=(ht.rc q hq.1);omega,rfl⟩) (fun g hg=>by
   have hg1:g<(t.F+1).toNat:=hg.1
   by_cases hgF:g=t.F.toNat
   ·exact⟨r,⟨hr,rfl⟩,by rw[hrcX,aC rfl];exact hgF.symm⟩
   ·obtain⟨j,j1,j2⟩:=ht.fc g (by omega)
    by_cases e:r=j
    ·subst e
     have:∃j',j'<t.rs.length∧j'≠r∧(rG t.rs j').c=(rG t.rs r).c:=by
      refine FA fun hno=>hc (CZ.2 ⟨r,⟨hr,aM rfl⟩,fun q' q1 q2=>?_⟩)
      refine FA fun hne=>hno ⟨q',q1,hne,cH q2⟩
     obtain⟨j',p1,p2,p3⟩:=this
     exact⟨j',⟨p1,rfl⟩,by rw[hrcX,aA (fun e=>p2 e.symm),p3];exact j2⟩
    ·exact⟨j,⟨j1,rfl⟩,by rw[hrcX,aA e];exact j2⟩)
  have e:({ aZ t with al:=(aZ X).al,rv:=(aZ X).rv,rc:=(aZ X).rc,F:=(aZ X).F }:Mp)=aZ X:=by
   show Mp.mk _ _ _ _ _ _ _ _ _ _ _=Mp.mk _ _ _ _ _ _ _ _ _ _ _
   congr 1
   exact hlen.symm
  rw[←e]
  exact h2
theorem Ih{t:Tp}(ht:CKP t){f g:Int}(hf:0≤f∧f<t.F)(hg:0≤g∧g<t.F)(hne:f≠g):CKP (lz (dF ⟨t.V,t.F,t.hs,t.rs.map (gC g f)⟩ g)):=by
 obtain⟨hw,nn⟩:=ht.wv
 let X:Tp:=dF ⟨t.V,t.F,t.hs,t.rs.map (gC g f)⟩ g
 have hlen:X.rs.length=t.rs.length:=by show ((t.rs.map _).map _).length=_;simp
 have hget:∀q:Nat,q<t.rs.length→rG X.rs q=gC (t.F-1) g (gC g f (rG t.rs q)):=fun q hq=>by
  show rG ((t.rs.map _).map _) q=_
  rw[uU _ (by simpa using hq),uU _ hq]
 have hc0:∀q:Nat,q<t.rs.length→0≤(rG t.rs q).c∧(rG t.rs q).c<t.F:=fun q hq=>ht.rc q hq
 have cX:∀q:Nat,q<t.rs.length→(rG X.rs q).c=if (if (rG t.rs q).c=g then f else (rG t.rs q).c)=t.F-1 then g else (if (rG t.rs q).c=g then f else (rG t.rs q).c):=fun q hq=>by
  rw[hget q hq]
  unfold gC
  by_cases e:(rG t.rs q).c=g
  ·simp only[aC e];split <;> rfl
  ·simp only[aA e];split <;> rfl
 refine WV.fe (t:=X) { n:=ht.n,e:=ht.e,V0:=ht.V0,V1:=ht.V1,F0:=by show (1:Int)≤t.F-1;omega,F1:=by show t.F-1≤257;have:=ht.F1;omega,R:=by rw[hlen];exact ht.R } ⟨fun k hk=>nn.h k hk,fun q hq=>?_⟩ ?_
 ·have hq':q<t.rs.length:=by rw[←hlen];exact hq.1
  have h1:=hc0 q hq'
  refine⟨by rw[cX q hq'];split <;> (try split) <;> omega,?_⟩
  have:=(nn.c q ⟨hq',rfl⟩).2
  rw[hget q hq',Cq,Cq,Cr,Cr]
  exact this
 ·have h1:WV { aZ t with al:=(aZ X).al,rv:=(aZ X).rv,rc:=(aZ t).rc } vG:=hw.gw (fun j hj=>by
   show decide ((rG X.rs j).h=-1)=decide ((rG t.rs j).h=-1)
   rw[hget j hj.1,Cq,Cq]) (fun j hj _=>by
   show (rG X.rs j).v.toNat=(rG t.rs j).v.toNat
   rw[hget j hj.1,Cr,Cr]) (fun j hj=>rfl)
  have h2:=h1.nf (F':=t.F.toNat) (P':=fun k=>decide (k≠g.toNat)) (rc:=fun q=>if (rG t.rs q).c=g then f.toNat else (rG t.rs q).c.toNat) (fun q hq=>by
   have:=hc0 q hq.1
   refine⟨?_,aM ?_⟩
   ·split <;> omega
   ·split <;> omega) (fun u hu=>by
   have hu1:u<t.F.toNat:=hu.1
   have hu2:u≠g.toNat:=cH hu.2
   obtain⟨j,j1,j2⟩:=ht.fc u hu1
   have:=hc0 j j1
   exact⟨j,⟨j1,rfl⟩,by show (if _ then _ else _)=u;rw[aA (by omega)];exact j2⟩)
  have hren:=J9 (n:=t.F.toNat) (x:=g.toNat) (by omega) (P:=fun k=>decide (k≠g.toNat)) fun k hk=>by rw[cK]
  have h3:=h2.lv (m:={ aZ t with al:=(aZ X).al,rv:=(aZ X).rv,rc:=fun q=>if (rG t.rs q).c=g then f.toNat else (rG t.rs q).c.toNat,F:=t.F.toNat }) hren (rc:=(aZ X).rc) (fun q hq=>by
   have:=hc0 q hq.1
   show (rG X.rs q).c.toNat=if (if (rG t.rs q).c=g then f.toNat else (rG t.rs q).c.toNat)=t.F.toNat-1 then g.toNat else (if (rG t.rs q).c=g then f.toNat else (rG t.rs q).c.toNat)
   rw[cX q hq.1]
   by_cases e:(rG t.rs q).c=g
   ·simp only[aC e]
    by_cases e2:f=t.F-1
    ·rw[aC e2,aC (by omega)]
    ·rw[aA e2,aA (by omega)]
   ·simp only[aA e]
    by_cases e2:(rG t.rs q).c=t.F-1
    ·rw[aC e2,aC (by omega)]
    ·rw[aA e2,aA (by omega)])
  have e:({ aZ t with al:=(aZ X).al,rv:=(aZ X).rv,rc:=(aZ X).rc,F:=t.F.toNat-1 }:Mp)=aZ X:=by
   show Mp.mk _ _ _ _ _ _ _ _ _ _ _=Mp.mk _ _ _ _ _ _ _ _ _ _ _
   congr 1
   ·exact hlen.symm
   ·show t.F.toNat-1=(t.F-1).toNat
    omega
  rw[←e]
  exact h3
theorem Qt{s s':Nat→Nat}{n:Nat}{f f':Nat→Nat}{u h g:Nat}(ho:bx s n (fun k=>decide (f k=u)))(hh:h<n)(hg:g<n)(hsl:∀k,k<n→s k<n)
 (f0:∀k,k<n→f' k=f k) (fx:f' n=f h) (fy:f' (n+1)=f g)
 (s0:∀k,k<n→k≠h→k≠g→s' k=s k) (s1:h≠g→s' h=n∧s' g=n+1∧s' n=s h∧s' (n+1)=s g) (s2:h=g→s' h=n+1∧s' (n+1)=n∧s' n=s h):bx s' (n+2) (fun k=>decide (f' k=u)):=by
 have df:∀y,y<n+2↔y<n∨y=n∨y=n+1:=fun y=>by omega
 by_cases e1:f h=u
 ·-- n behind h
  let s':=s'
  obtain⟨t1,ht1⟩:∃t1:Nat→Nat,t1=fun k=>if k=h then n else if k=n then s h else s k:=⟨_,rfl⟩
  have t1h:t1 h=n:=by rw[ht1];exact aC rfl
  have t1n:t1 n=s h:=by rw[ht1];dsimp only;rw[aA (by omega),aC rfl]
  have t1o:∀k,k<n→k≠h→t1 k=s k:=fun k hk hne=>by rw[ht1];dsimp only;rw[aA hne,aA (by omega)]
  have o1:bx t1 (n+1) (fun k=>decide (f' k=u)):=by
   refine ho.ins (x:=h) (a:=n) hh (aM e1) (gU _) t1h t1n (fun y hy _ hne=>t1o y hy hne) fun y=>?_
   rw[cK,cK]
   constructor
   ·rintro ⟨h1,h2⟩
    by_cases hy:y<n
    ·exact .inl ⟨hy,by rw[←f0 y hy];exact h2⟩
    ·exact .inr (by omega)
   ·rintro (⟨h1,h2⟩ | rfl)
    ·exact⟨by omega,by rw[f0 y h1];exact h2⟩
    ·exact⟨by omega,by rw[fx];exact e1⟩
  by_cases e2:f g=u
  ·refine o1.ins (x:=g) (a:=n+1) (by omega) (by rw[cK,f0 g hg];exact e2) (gU _) ?_ ?_ (fun y hy _ hne=>?_) fun y=>?_
   ·by_cases e:h=g
    ·subst e;exact(s2 rfl).1
    ·exact(s1 e).2.1
   ·by_cases e:h=g
    ·subst e;rw[(s2 rfl).2.1,t1h]
    ·rw[(s1 e).2.2.2,t1o g hg (fun e'=>e e'.symm)]
   ·by_cases hyn:y=n
    ·subst hyn
     rw[t1n]
     by_cases e:h=g
     ·exact(s2 e).2.2
     ·exact(s1 e).2.2.1
    ·by_cases hyh:y=h
     ·subst hyh
      rw[t1h]
      exact(s1 hne).1
     ·rw[t1o y (by omega) hyh,s0 y (by omega) hyh hne]
   ·rw[cK]
    constructor
    ·rintro ⟨h1,h2⟩
     by_cases hy:y=n+1
     ·exact .inr hy
     ·exact .inl ⟨by omega,h2⟩
    ·rintro (⟨h1,h2⟩ | rfl)
     ·exact⟨by omega,h2⟩
     ·exact⟨by omega,by rw[fy];exact e2⟩
  ·have hne:h≠g:=fun e=>e2 (e▸e1)
   refine o1.ext (fun y hy hp=>?_) fun y=>?_
   ·have hp:=cH hp
    have hyg:y≠g:=fun e=>by subst e;rw[f0 y hg] at hp;exact e2 hp
    by_cases hyn:y=n
    ·subst hyn;rw[t1n];exact(s1 hne).2.2.1
    ·by_cases hyh:y=h
     ·subst hyh;rw[t1h];exact(s1 hne).1
     ·rw[t1o y (by omega) hyh];exact s0 y (by omega) hyh hyg
   ·rw[cK]
    constructor
    ·rintro ⟨h1,h2⟩
     refine⟨?_,h2⟩
     by_cases hy:y=n+1
     ·subst hy;rw[fy] at h2;exact absurd h2 e2
     ·omega
    ·rintro ⟨h1,h2⟩;exact⟨by omega,h2⟩
 ·by_cases e2:f g=u
  ·have hne:h≠g:=fun e=>e1 (e▸e2)
   obtain⟨q1,q2,q3,q4⟩:=s1 hne
   refine ho.ins (x:=g) (a:=n+1) hg (aM e2) (by omega) q2 q4 (fun y hy hp hyg=>s0 y hy (fun e=>e1 (by subst e;exact cH hp)) hyg) fun y=>?_
   rw[cK,cK]
   constructor
   ·rintro ⟨h1,h2⟩
    rcases(df y).1 h1 with hy | rfl | rfl
    ·exact .inl ⟨hy,by rw[←f0 y hy];exact h2⟩
    ·rw[fx] at h2;exact absurd h2 e1
    ·exact .inr rfl
   ·rintro (⟨h1,h2⟩ | rfl)
    ·exact⟨by omega,by rw[f0 y h1];exact h2⟩
    ·exact⟨by omega,by rw[fy];exact e2⟩
  ·refine ho.ext (fun y hy hp=>?_) fun y=>?_
   ·have hp:=cH hp
    exact s0 y hy (fun e=>e1 (e▸hp)) (fun e=>e2 (e▸hp))
   ·rw[cK,cK]
    constructor
    ·rintro ⟨h1,h2⟩
     rcases(df y).1 h1 with hy | rfl | rfl
     ·exact⟨hy,by rw[←f0 y hy];exact h2⟩
     ·rw[fx] at h2;exact absurd h2 e1
     ·rw[fy] at h2;exact absurd h2 e2
    ·rintro ⟨h1,h2⟩
     exact⟨by omega,by rw[f0 y h1];exact h2⟩
theorem Qu{N N':Nat→Nat}{n:Nat}{P:Nat→Bool}{h g p q:Nat}(ho:bx N n P)(hp:cT n P p)(hq:cT n P q)(hh:h<n)(hg:g<n)(Np:N p=h)(Nq:N q=g)(inj:h=g→p=q)(hNl:∀k,k<n→N k<n)
 (s0:∀k,k<n→k≠p→k≠q→N' k=N k) (s1:h≠g→N' p=n∧N' n=g∧N' q=n+1∧N' (n+1)=h) (s2:h=g→N' p=n∧N' n=h∧N' (n+1)=n+1):
 ∃A B:List Nat,bz N' n B∧bz N' (n+1) A∧(∀y,(cT n P y∨y=n∨y=n+1)↔y∈n::B∨y∈(n+1)::A)∧∀y,y∈n::B→y∉(n+1)::A:=by
 obtain⟨t1,ht1⟩:∃t1:Nat→Nat,t1=fun k=>if k=p then n else if k=n then h else N k:=⟨_,rfl⟩
 have t1p:t1 p=n:=by rw[ht1];exact aC rfl
 have t1n:t1 n=h:=by rw[ht1];dsimp only;rw[aA (by have:=hp.1;omega),aC rfl]
 have t1o:∀k,k<n→k≠p→t1 k=N k:=fun k hk hne=>by rw[ht1];dsimp only;rw[aA hne,aA (by omega)]
 have o1:bx t1 (n+1) (fun k=>bif decide (k=n) then true else P k):=by
  refine ho.ins (x:=p) (a:=n) hp.1 hp.2 (gU _) t1p (by rw[t1n,Np]) (fun y hy _ hne=>t1o y hy hne) fun y=>?_
  by_cases e:y=n
  ·subst e;rw[aM rfl];exact⟨fun _=>.inr rfl,fun _=>⟨by omega,rfl⟩⟩
  ·rw[aQ e]
   exact⟨fun h=>.inl ⟨by have:=h.1;omega,h.2⟩,fun h=>h.elim (fun h=>⟨by omega,h.2⟩) fun h=>absurd h e⟩
 obtain⟨q',hq',hq't,hq'l⟩:∃q',(q'=if h=g then n else q)∧t1 q'=g∧q'<n+1:=by
  by_cases e:h=g
  ·exact⟨n,by rw[aC e],by rw[t1n,e],by omega⟩
  ·refine⟨q,by rw[aA e],?_,by have:=hq.1;omega⟩
   rw[t1o q hq.1 (fun e2=>e (by rw[←Np,←Nq,e2])),Nq]
 have hq'P:(bif decide (q'=n) then true else P q')=true:=by
  by_cases e:q'=n
  ·rw[aM e];rfl
  ·rw[aQ e]
   have:q'=q:=by
    by_cases e2:h=g
    ·rw[aC e2] at hq';exact absurd hq' e
    ·rw[aA e2] at hq';exact hq'
   rw[this];exact hq.2
 obtain⟨t2,ht2⟩:∃t2:Nat→Nat,t2=fun k=>if k=q' then n+1 else if k=n+1 then g else t1 k:=⟨_,rfl⟩
 have t2q:t2 q'=n+1:=by rw[ht2];exact aC rfl
 have t2n:t2 (n+1)=g:=by rw[ht2];dsimp only;rw[aA (by omega),aC rfl]
 have t2o:∀k,k<n+1→k≠q'→t2 k=t1 k:=fun k hk hne=>by rw[ht2];dsimp only;rw[aA hne,aA (by omega)]
 have o2:bx t2 (n+2) (fun k=>bif decide (k=n+1) then true else bif decide (k=n) then true else P k):=by
  refine o1.ins (x:=q') (a:=n+1) hq'l hq'P (gU _) t2q (by rw[t2n,hq't]) (fun y hy _ hne=>t2o y hy hne) fun y=>?_
  by_cases e:y=n+1
  ·subst e;rw[aM rfl];exact⟨fun _=>.inr rfl,fun _=>⟨by omega,rfl⟩⟩
  ·rw[aQ e]
   exact⟨fun h=>.inl ⟨by have:=h.1;omega,h.2⟩,fun h=>h.elim (fun h=>⟨by omega,h.2⟩) fun h=>absurd h e⟩
 have mn:cT (n+2) (fun k=>bif decide (k=n+1) then true else bif decide (k=n) then true else P k) n:=⟨by omega,by dsimp only;rw[aQ (by omega),aM rfl];rfl⟩
 have mn1:cT (n+2) (fun k=>bif decide (k=n+1) then true else bif decide (k=n) then true else P k) (n+1):=⟨by omega,by dsimp only;rw[aM rfl];rfl⟩
 obtain⟨A,B,c1,c2,c3,c4⟩:=o2.split (g:=N') mn mn1 (by omega) (by
  rw[t2n]
  by_cases e:h=g
  ·rw[(s2 e).2.1,e]
  ·exact(s1 e).2.1) (by
  by_cases e:h=g
  ·rw[aC e] at hq'
   rw[←hq',t2q,hq',(s2 e).2.2]
  ·rw[aA e] at hq'
   rw[t2o n (by omega) (by rw[hq'];have:=hq.1;omega),t1n,(s1 e).2.2.2]) (fun y hy hy1 hy2=>by
  have hyn:y<n:=by have:=hy.1;omega
  by_cases e:h=g
  ·rw[aC e] at hq'
   rw[t2o y (by omega) (by rw[hq'];exact hy1)]
   by_cases ep:y=p
   ·subst ep;rw[t1p,(s2 e).1]
   ·rw[t1o y hyn ep]
    exact s0 y hyn ep (fun e2=>ep (by rw[e2,inj e]))
  ·rw[aA e] at hq'
   by_cases eq:y=q
   ·subst eq;rw[←hq',t2q,hq',(s1 e).2.2.1]
   ·rw[t2o y (by omega) (by rw[hq'];exact eq)]
    by_cases ep:y=p
    ·subst ep;rw[t1p,(s1 e).1]
    ·rw[t1o y hyn ep];exact s0 y hyn ep eq)
 refine⟨A,B,c1,c2,fun y=>?_,c4⟩
 rw[←c3 y]
 constructor
 ·rintro (⟨h1,h2⟩ | rfl | rfl)
  ·refine⟨by omega,?_⟩
   dsimp only
   rw[aQ (by omega),aQ (by omega)];exact h2
  ·exact mn
  ·exact mn1
 ·rintro ⟨h1,h2⟩
  by_cases e1:y=n+1
  ·exact .inr (.inr e1)
  ·by_cases e2:y=n
   ·exact .inr (.inl e2)
   ·dsimp only at h2
    rw[aQ e1,aQ e2] at h2
    exact .inl ⟨by omega,h2⟩
end Go.Eng.Tl
set_option linter.unusedSectionVars false
namespace Go.Eng.Tl
open Go.Eng
structure Ends (m:Mp) (a b:Nat) (f nx pv:Nat→Nat):Prop where
 f0:∀k,k<m.n→f k=m.f k
 fx:f m.n=m.f a
 fy:f (m.n+1)=m.f b
 n0:∀k,k<m.n→k≠m.pv a→k≠m.pv b→nx k=m.nx k
 n1:a≠b→nx (m.pv a)=m.n∧nx m.n=b∧nx (m.pv b)=m.n+1∧nx (m.n+1)=a
 n2:a=b→nx (m.pv a)=m.n∧nx m.n=a∧nx (m.n+1)=m.n+1
 p0:∀k,k<m.n→k≠a→k≠b→pv k=m.pv k
 p1:a≠b→pv a=m.n+1∧pv b=m.n∧pv m.n=m.pv a∧pv (m.n+1)=m.pv b
 p2:a=b→pv a=m.n∧pv m.n=m.pv a∧pv (m.n+1)=m.n+1
section
variable {m:Mp} {a b:Nat} {f nx pv:Nat→Nat} (h:WV m vG) (e:Ends m a b f nx pv) (he:m.n%2=0) (ha:a<m.n) (hb:b<m.n)
include h e he ha hb
theorem Ends.df{k:Nat}(hk:k<m.n+2):k<m.n∨k=m.n∨k=m.n+1:=by omega
theorem Ends.mem{k:Nat}(hk:k<m.n):cT m.n vG.L k:=⟨hk,rfl⟩
theorem Ends.ng:mt m.n=m.n+1:=by have:=nH m.n;have:=oY m.n;omega
theorem Ends.lx:mt (m.n+1)=m.n:=by have:=nH (m.n+1);have:=oY (m.n+1);omega
theorem Ends.pa:m.pv a<m.n∧m.nx (m.pv a)=a:=⟨(h.hp a ⟨ha,rfl⟩).1,h.np a ⟨ha,rfl⟩⟩
theorem Ends.pb:m.pv b<m.n∧m.nx (m.pv b)=b:=⟨(h.hp b ⟨hb,rfl⟩).1,h.np b ⟨hb,rfl⟩⟩
theorem Ends.dv{k:Nat}(hk:k<m.n+2):(k<m.n∧k≠m.pv a∧k≠m.pv b∧nx k=m.nx k∧m.nx k≠a∧m.nx k≠b)∨(k=m.pv a∧nx k=m.n)∨(a≠b∧k=m.pv b∧nx k=m.n+1)∨(k=m.n∧nx k=b)∨(a≠b∧k=m.n+1∧nx k=a)∨(a=b∧k=m.n+1∧nx k=m.n+1):=by
 by_cases hab:a=b
 ·obtain⟨q1,q2,q3⟩:=e.n2 hab
  rcases Ends.df h e he ha hb hk with hk | rfl | rfl
  ·by_cases e1:k=m.pv a
   ·exact .inr (.inl ⟨e1,by rw[e1];exact q1⟩)
   ·have e2:k≠m.pv b:=by rw[←hab];exact e1
    refine .inl ⟨hk,e1,e2,e.n0 k hk e1 e2,fun e3=>e1 ?_,fun e3=>e2 ?_⟩
    ·rw[←e3];exact(h.pn k ⟨hk,rfl⟩).symm
    ·rw[←e3];exact(h.pn k ⟨hk,rfl⟩).symm
  ·exact .inr (.inr (.inr (.inl ⟨rfl,by rw[q2,hab]⟩)))
  ·exact .inr (.inr (.inr (.inr (.inr ⟨hab,rfl,q3⟩))))
 ·obtain⟨q1,q2,q3,q4⟩:=e.n1 hab
  rcases Ends.df h e he ha hb hk with hk | rfl | rfl
  ·by_cases e1:k=m.pv a
   ·exact .inr (.inl ⟨e1,by rw[e1];exact q1⟩)
   ·by_cases e2:k=m.pv b
    ·exact .inr (.inr (.inl ⟨hab,e2,by rw[e2];exact q3⟩))
    ·refine .inl ⟨hk,e1,e2,e.n0 k hk e1 e2,fun e3=>e1 ?_,fun e3=>e2 ?_⟩
     ·rw[←e3];exact(h.pn k ⟨hk,rfl⟩).symm
     ·rw[←e3];exact(h.pn k ⟨hk,rfl⟩).symm
  ·exact .inr (.inr (.inr (.inl ⟨rfl,q2⟩)))
  ·exact .inr (.inr (.inr (.inr (.inl ⟨hab,rfl,q4⟩))))
theorem Ends.bf{k:Nat}(hk:k<m.n+2):nx k<m.n+2:=by
 rcases Ends.dv h e he ha hb hk with⟨q,_,_,q1,_⟩ | ⟨_,q1⟩ | ⟨_,_,q1⟩ | ⟨_,q1⟩ | ⟨_,_,q1⟩ | ⟨_,_,q1⟩
 ·have:=(h.hn k ⟨q,rfl⟩).1;omega
 all_goals omega
theorem Ends.gy{k:Nat}(hk:k<m.n+2):(k<m.n∧k≠a∧k≠b∧pv k=m.pv k)∨(k=b∧pv k=m.n)∨(a≠b∧k=a∧pv k=m.n+1)∨(k=m.n∧pv k=m.pv a)∨(a≠b∧k=m.n+1∧pv k=m.pv b)∨(a=b∧k=m.n+1∧pv k=m.n+1):=by
 by_cases hab:a=b
 ·obtain⟨q1,q2,q3⟩:=e.p2 hab
  rcases Ends.df h e he ha hb hk with hk | rfl | rfl
  ·by_cases e1:k=a
   ·exact .inr (.inl ⟨by rw[e1,hab],by rw[e1];exact q1⟩)
   ·exact .inl ⟨hk,e1,by rw[←hab];exact e1,e.p0 k hk e1 (by rw[←hab];exact e1)⟩
  ·exact .inr (.inr (.inr (.inl ⟨rfl,q2⟩)))
  ·exact .inr (.inr (.inr (.inr (.inr ⟨hab,rfl,q3⟩))))
 ·obtain⟨q1,q2,q3,q4⟩:=e.p1 hab
  rcases Ends.df h e he ha hb hk with hk | rfl | rfl
  ·by_cases e1:k=a
   ·exact .inr (.inr (.inl ⟨hab,e1,by rw[e1];exact q1⟩))
   ·by_cases e2:k=b
    ·exact .inr (.inl ⟨e2,by rw[e2];exact q2⟩)
    ·exact .inl ⟨hk,e1,e2,e.p0 k hk e1 e2⟩
  ·exact .inr (.inr (.inr (.inl ⟨rfl,q3⟩)))
  ·exact .inr (.inr (.inr (.inr (.inl ⟨hab,rfl,q4⟩))))
theorem Ends.aj{k:Nat}(hk:k<m.n+2):pv k<m.n+2:=by
 have p1:=(Ends.pa h e he ha hb).1
 have p2:=(Ends.pb h e he ha hb).1
 rcases Ends.gy h e he ha hb hk with⟨q,_,_,q1⟩ | ⟨_,q1⟩ | ⟨_,_,q1⟩ | ⟨_,q1⟩ | ⟨_,_,q1⟩ | ⟨_,_,q1⟩
 ·have:=(h.hp k ⟨q,rfl⟩).1;omega
 all_goals omega
theorem Ends.pn{k:Nat}(hk:k<m.n+2):pv (nx k)=k:=by
 rcases Ends.dv h e he ha hb hk with⟨q,_,_,q1,q2,q3⟩ | ⟨q,q1⟩ | ⟨hab,q,q1⟩ | ⟨q,q1⟩ | ⟨hab,q,q1⟩ | ⟨hab,q,q1⟩
 ·rw[q1,e.p0 _ (h.hn k ⟨q,rfl⟩).1 q2 q3];exact h.pn k ⟨q,rfl⟩
 ·rw[q1,q]
  by_cases hab:a=b
  ·exact(e.p2 hab).2.1
  ·exact(e.p1 hab).2.2.1
 ·rw[q1,q];exact(e.p1 hab).2.2.2
 ·rw[q1,q]
  by_cases hab:a=b
  ·rw[←hab];exact(e.p2 hab).1
  ·exact(e.p1 hab).2.1
 ·rw[q1,q];exact(e.p1 hab).1
 ·rw[q1,q];exact(e.p2 hab).2.2
theorem Ends.np{k:Nat}(hk:k<m.n+2):nx (pv k)=k:=by
 have p1:=Ends.pa h e he ha hb
 have p2:=Ends.pb h e he ha hb
 rcases Ends.gy h e he ha hb hk with⟨q,qa,qb,q1⟩ | ⟨q,q1⟩ | ⟨hab,q,q1⟩ | ⟨q,q1⟩ | ⟨hab,q,q1⟩ | ⟨hab,q,q1⟩
 ·have h1:=h.np k ⟨q,rfl⟩
  rw[q1,e.n0 _ (h.hp k ⟨q,rfl⟩).1 (fun e2=>qa (by rw[←h1,e2];exact p1.2)) (fun e2=>qb (by rw[←h1,e2];exact p2.2))]
  exact h1
 ·rw[q1,q]
  by_cases hab:a=b
  ·rw[(e.n2 hab).2.1,hab]
  ·exact(e.n1 hab).2.1
 ·rw[q1,q];exact(e.n1 hab).2.2.2
 ·rw[q1,q]
  by_cases hab:a=b
  ·exact(e.n2 hab).1
  ·exact(e.n1 hab).1
 ·rw[q1,q];exact(e.n1 hab).2.2.1
 ·rw[q1,q];exact(e.n2 hab).2.2
theorem Ends.ff{k:Nat}(hk:k<m.n+2):f (nx k)=f (mt k):=by
 have p1:=Ends.pa h e he ha hb
 have p2:=Ends.pb h e he ha hb
 have mlt:∀k,k<m.n→mt k<m.n:=fun k hk=>(h.cg k ⟨hk,rfl⟩).1
 rcases Ends.dv h e he ha hb hk with⟨q,_,_,q1,_⟩ | ⟨q,q1⟩ | ⟨hab,q,q1⟩ | ⟨q,q1⟩ | ⟨hab,q,q1⟩ | ⟨hab,q,q1⟩
 ·rw[q1,e.f0 _ (h.hn k ⟨q,rfl⟩).1,e.f0 _ (mlt k q)];exact h.ff k ⟨q,rfl⟩
 ·have:=h.ff _ ⟨p1.1,rfl⟩
  rw[p1.2] at this
  rw[q1,q,e.fx,e.f0 _ (mlt _ p1.1)];exact this
 ·have:=h.ff _ ⟨p2.1,rfl⟩
  rw[p2.2] at this
  rw[q1,q,e.fy,e.f0 _ (mlt _ p2.1)];exact this
 ·rw[q1,q,Ends.ng h e he ha hb,e.fy,e.f0 b hb]
 ·rw[q1,q,Ends.lx h e he ha hb,e.fx,e.f0 a ha]
 ·rw[q1,q,Ends.lx h e he ha hb,e.fx,e.fy,hab]
theorem Ends.jl{u:Nat}(ho:bx m.sg m.n (m.mf vG.L u)):bx (fun k=>mt (pv k)) (m.n+2) (fun k=>decide (f k=u)):=by
 have p1:=Ends.pa h e he ha hb
 have p2:=Ends.pb h e he ha hb
 have mn:=Ends.ng h e he ha hb
 have mn1:=Ends.lx h e he ha hb
 have ho':bx m.sg m.n (fun k=>decide (m.f k=u)):=ho.ext (fun _ _ _=>rfl) fun y=>zO
 refine Qt (s:=m.sg) (f:=m.f) (h:=a) (g:=b) ho' ha hb (fun k hk=>?_) e.f0 e.fx e.fy (fun k hk ka kb=>?_) (fun hab=>?_) (fun hab=>?_)
 ·have:=(h.hp k ⟨hk,rfl⟩).1
  exact(h.cg _ ⟨this,rfl⟩).1
 ·show mt (pv k)=mt (m.pv k)
  rw[e.p0 k hk ka kb]
 ·obtain⟨q1,q2,q3,q4⟩:=e.p1 hab
  exact⟨by rw[q1,mn1],by rw[q2,mn],by rw[q3];rfl,by rw[q4];rfl⟩
 ·obtain⟨q1,q2,q3⟩:=e.p2 hab
  exact⟨by rw[q1,mn],by rw[q3,mn1],by rw[q2];rfl⟩
theorem Ends.ring(hr:m.r a=m.r b):∃A B:List Nat,bz nx m.n B∧bz nx (m.n+1) A∧(∀y,(cT m.n (m.kx vG.L (m.r a)) y∨y=m.n∨y=m.n+1)↔y∈m.n::B∨y∈(m.n+1)::A)∧∀y,y∈m.n::B→y∉(m.n+1)::A:=by
 have p1:=Ends.pa h e he ha hb
 have p2:=Ends.pb h e he ha hb
 have bn:m.al (m.r a)=false:=by
  cases hx:m.al (m.r a) with
  | false=>rfl
  | true=>exact absurd rfl ((h.ra _ (h.hr a ⟨ha,rfl⟩) hx).2 a ⟨ha,rfl⟩)
 have ho:=h.ro _ (h.hr a ⟨ha,rfl⟩) bn
 have rp:∀k,k<m.n→m.r (m.pv k)=m.r k:=fun k hk=>by
  have h1:=h.rn _ (h.hp k ⟨hk,rfl⟩)
  rw[h.np k ⟨hk,rfl⟩] at h1
  exact h1.symm
 exact Qu (N:=m.nx) (h:=a) (g:=b) (p:=m.pv a) (q:=m.pv b) ho ⟨p1.1,aM (rp a ha)⟩ ⟨p2.1,aM ((rp b hb).trans hr.symm)⟩ ha hb p1.2 p2.2 (fun e2=>by rw[e2]) (fun k hk=>(h.hn k ⟨hk,rfl⟩).1) e.n0 e.n1 e.n2
end
end Go.Eng.Tl
