/- The functions and the laws of this seat in plain words; each statement names its conditions. -/
import Derived.Test.YtpgikmmiapcojaaLaw
import Derived.Test.YtpgikmmiapcojaaGen3
set_option linter.unusedSimpArgs false
set_option linter.unusedVariables false
namespace Go.Eng.Tl
open Go.Eng
theorem WV.qh{m:Mp}{a b:Nat}{f nx pv r:Nat→Nat}{al:Nat→Bool}{rv rc:Nat→Nat}(h:WV m vG)(e:Ends m a b f nx pv)(he:m.n%2=0)(ha:a<m.n)(hb:b<m.n)(hr:m.r a=m.r b)
 (hrr:∀A,bz nx (m.n+1) A→∀k,k<m.n+2→r k=if k∈(m.n+1)::A then m.R else if k=m.n then m.r a else m.r k)
 (bn:∀q,q<m.R→al q=m.al q) (halR:al m.R=false) (hrv:∀q,q<m.R→al q=true→rv q=m.rv q) (hrc:∀q,q<m.R→rc q=m.rc q) (hrcR:rc m.R=m.F):
 WV { n:=m.n+2,R:=m.R+1,V:=m.V,F:=m.F+1,f:=f,r:=r,nx:=nx,pv:=pv,al:=al,rv:=rv,rc:=rc } vG:=by
 obtain⟨A,B,cB,cA,hmem,hdis⟩:=e.ring h he ha hb hr
 have hR:=hrr A cA
 have ral:m.r a<m.R:=(h.hr a ⟨ha,rfl⟩).1
 have rlt:∀k,k<m.n→m.r k<m.R:=fun k hk=>(h.hr k ⟨hk,rfl⟩).1
 have inA:∀k,k∈(m.n+1)::A→k<m.n+2:=fun k hk=>by
  rcases(hmem k).2 (.inr hk) with h1 | h1 | h1
  ·have:=h1.1;omega
  ·omega
  ·omega
 have nA:m.n∉(m.n+1)::A:=hdis m.n (by simp)
 have rA:∀k,k∈(m.n+1)::A→r k=m.R:=fun k hk=>by rw[hR k (inA k hk),aC hk]
 have rn':∀k,k<m.n+2→k∉(m.n+1)::A→k<m.n∧r k=m.r k∨k=m.n∧r k=m.r a:=fun k hk hn=>by
  have h1:=hR k hk
  rw[aA hn] at h1
  by_cases e1:k=m.n
  ·rw[aC e1] at h1;exact .inr ⟨e1,h1⟩
  ·rw[aA e1] at h1
   refine .inl ⟨?_,h1⟩
   have:k≠m.n+1:=fun e2=>hn (by rw[e2];simp)
   omega
 have oldA:∀k,k<m.n→k∈(m.n+1)::A→m.r k=m.r a:=fun k hk hkA=>by
  rcases(hmem k).2 (.inr hkA) with h1 | h1 | h1
  ·exact cH (iC.1 h1.2).2
  ·omega
  ·omega
 have fp:∀k,k<m.n+2→k∉(m.n+1)::A→r k=m.r a→k∈m.n::B:=fun k hk hn hrk=>by
  rcases rn' k hk hn with⟨h1,h2⟩ | ⟨h1,_⟩
  ·rcases(hmem k).1 (.inl ⟨h1,by show (true&&decide (m.r k=m.r a))=true;rw[fM];exact aM (h2.symm.trans hrk)⟩) with h3 | h3
   ·exact h3
   ·exact absurd h3 hn
  ·rw[h1];simp
 have rJ:∀k,k∈m.n::B→k<m.n+2∧r k=m.r a:=fun k hk=>by
  have hlt:k<m.n+2:=by
   rcases(hmem k).2 (.inl hk) with h1 | h1 | h1
   ·have:=h1.1;omega
   ·omega
   ·omega
  refine⟨hlt,?_⟩
  rcases rn' k hlt (hdis k hk) with⟨h1,h2⟩ | ⟨_,h2⟩
  ·rcases(hmem k).2 (.inl hk) with h3 | h3 | h3
   ·rw[h2];exact cH (iC.1 h3.2).2
   ·omega
   ·omega
  ·exact h2
 have same:∀k,k<m.n+2→k∉(m.n+1)::A→k∉m.n::B→k<m.n∧nx k=m.nx k∧m.r k≠m.r a:=fun k hk h1 h2=>by
  rcases rn' k hk h1 with⟨h3,h4⟩ | ⟨h3,_⟩
  ·have hne:m.r k≠m.r a:=fun e2=>h2 (fp k hk h1 (h4.trans e2))
   refine⟨h3,e.n0 k h3 (fun e2=>hne ?_) (fun e2=>hne ?_),hne⟩
   ·have:=h.rn k ⟨h3,rfl⟩
    rw[←this,e2,(e.pa h he ha hb).2]
   ·have:=h.rn k ⟨h3,rfl⟩
    rw[←this,e2,(e.pb h he ha hb).2];exact hr.symm
  ·exact absurd (by rw[h3];simp) h2
 refine { cg:=fun k hk=>⟨?_,rfl⟩,hf:=fun k hk=>⟨?_,rfl⟩,hn:=fun k hk=>⟨e.bf h he ha hb hk.1,rfl⟩,hp:=fun k hk=>⟨e.aj h he ha hb hk.1,rfl⟩,pn:=fun k hk=>e.pn h he ha hb hk.1,np:=fun k hk=>e.np h he ha hb hk.1,hr:=fun k hk=>⟨?_,rfl⟩,rn:=fun k hk=>?_,ff:=fun k hk=>e.ff h he ha hb hk.1,rc:=fun q hq=>⟨?_,rfl⟩,ra:=fun q hq hq2=>?_,ro:=fun q hq hq2=>?_,fc:=fun g hg=>?_,va:=fun u hu=>?_ }
 ·exact kS (by show (m.n+2)%2=0;omega) hk.1
 ·show f k<m.V
  rcases Ends.df h e he ha hb hk.1 with h1 | rfl | rfl
  ·rw[e.f0 k h1];exact(h.hf k ⟨h1,rfl⟩).1
  ·rw[e.fx];exact(h.hf a ⟨ha,rfl⟩).1
  ·rw[e.fy];exact(h.hf b ⟨hb,rfl⟩).1
 ·show r k<m.R+1
  by_cases h1:k∈(m.n+1)::A
  ·rw[rA k h1];omega
  ·rcases rn' k hk.1 h1 with⟨h2,h3⟩ | ⟨_,h3⟩
   ·rw[h3];have:=rlt k h2;omega
   ·rw[h3];omega
 ·show r (nx k)=r k
  by_cases h1:k∈(m.n+1)::A
  ·rw[rA k h1,rA _ (cA.step h1)]
  ·by_cases h2:k∈m.n::B
   ·rw[(rJ k h2).2,(rJ _ (cB.step h2)).2]
   ·obtain⟨h3,h4,h5⟩:=same k hk.1 h1 h2
    have h6:=h.rn k ⟨h3,rfl⟩
    have h7:=(h.hn k ⟨h3,rfl⟩).1
    have h8:m.nx k∉(m.n+1)::A:=fun h9=>h5 (by rw[←h6];exact oldA _ h7 h9)
    rcases rn' k hk.1 h1 with⟨_,h10⟩ | ⟨h10,_⟩
    ·rcases rn' (m.nx k) (by omega) h8 with⟨_,h11⟩ | ⟨h11,_⟩
     ·rw[h4,h11,h10,h6]
     ·omega
    ·omega
 ·show rc q<m.F+1
  by_cases h1:q<m.R
  ·rw[hrc q h1];have:=(h.rc q ⟨h1,rfl⟩).1;omega
  ·have:q=m.R:=by have:q<m.R+1:=hq.1;omega
   rw[this,hrcR];omega
 ·have hq2:al q=true:=hq2
  have h1:q<m.R:=by
   have h2:q<m.R+1:=hq.1
   by_cases h3:q=m.R
   ·rw[h3,halR] at hq2;cases hq2
   ·omega
  have h2:m.al q=true:=by rw[←bn q h1];exact hq2
  obtain⟨h3,h4⟩:=h.ra q ⟨h1,rfl⟩ h2
  refine⟨⟨?_,rfl⟩,fun k hk=>?_⟩
  ·show rv q<m.V;rw[hrv q h1 hq2];exact h3.1
  ·show r k≠q
   by_cases h5:k∈(m.n+1)::A
   ·rw[rA k h5];omega
   ·rcases rn' k hk.1 h5 with⟨h6,h7⟩ | ⟨_,h7⟩
    ·rw[h7];exact h4 k ⟨h6,rfl⟩
    ·rw[h7];exact h4 a ⟨ha,rfl⟩
 ·have hq2:al q=false:=hq2
  have hq1:q<m.R+1:=hq.1
  show bx nx (m.n+2) (fun k=>true&&decide (r k=q))
  by_cases h1:q=m.R
  ·refine⟨m.n+1,A,cA,fun y=>?_⟩
   show _↔y<m.n+2∧(true&&decide (r y=q))=true
   rw[fM,cK,h1]
   refine⟨fun hy=>⟨inA y hy,rA y hy⟩,fun hy=>?_⟩
   by_cases h5:y∈(m.n+1)::A
   ·exact h5
   ·rcases rn' y hy.1 h5 with⟨h6,h7⟩ | ⟨_,h7⟩
    ·have:=rlt y h6;omega
    ·omega
  ·by_cases h2:q=m.r a
   ·refine⟨m.n,B,cB,fun y=>?_⟩
    show _↔y<m.n+2∧(true&&decide (r y=q))=true
    rw[fM,cK,h2]
    refine⟨fun hy=>rJ y hy,fun hy=>fp y hy.1 (fun h5=>?_) hy.2⟩
    have:=rA y h5;omega
   ·have h3:q<m.R:=by omega
    refine(h.ro q ⟨h3,rfl⟩ (by rw[←bn q h3];exact hq2)).ext (fun y hy hp=>?_) fun y=>?_
    ·have hp:m.r y=q:=cH (iC.1 hp).2
     refine(same y (by omega) (fun h5=>h2 ?_) (fun h5=>h2 ?_)).2.1
     ·rw[←hp];exact oldA y hy h5
     ·rcases(hmem y).2 (.inl h5) with h6 | h6 | h6
      ·rw[←hp];exact cH (iC.1 h6.2).2
      ·omega
      ·omega
    ·show (y<m.n+2∧(true&&decide (r y=q))=true)↔y<m.n∧(true&&decide (m.r y=q))=true
     rw[fM,fM,cK,cK]
     constructor
     ·rintro ⟨h5,h6⟩
      have h7:y∉(m.n+1)::A:=fun h8=>by have:=rA y h8;omega
      rcases rn' y h5 h7 with⟨h8,h9⟩ | ⟨_,h9⟩
      ·exact⟨h8,by omega⟩
      ·omega
     ·rintro ⟨h5,h6⟩
      have h7:y∉(m.n+1)::A:=fun h8=>h2 (by rw[←h6];exact oldA y h5 h8)
      rcases rn' y (by omega) h7 with⟨_,h9⟩ | ⟨h8,_⟩
      ·exact⟨by omega,by omega⟩
      ·omega
 ·have hg1:g<m.F+1:=hg.1
  by_cases h1:g=m.F
  ·exact⟨m.R,⟨by show m.R<m.R+1;omega,rfl⟩,by show rc m.R=g;rw[hrcR,h1]⟩
  ·obtain⟨q,q1,q2⟩:=h.fc g ⟨by omega,rfl⟩
   have q3:q<m.R:=q1.1
   exact⟨q,⟨by show q<m.R+1;omega,rfl⟩,by show rc q=g;rw[hrc q q3];exact q2⟩
 ·have alR:∀q,q<m.R+1→al q=true→q<m.R∧m.al q=true∧rv q=m.rv q:=fun q h1 h2=>by
   have h3:q<m.R:=by
    by_cases h3:q=m.R
    ·rw[h3,halR] at h2;cases h2
    ·omega
   exact⟨h3,by rw[←bn q h3];exact h2,hrv q h3 h2⟩
  rcases h.va u hu with⟨⟨q,⟨q1,q2,q3⟩,q4⟩,h2⟩ | ⟨h1,h2⟩
  ·have q5:q<m.R:=q1.1
   have q6:al q=true:=by rw[bn q q5];exact q2
   refine .inl ⟨⟨q,⟨⟨by show q<m.R+1;omega,rfl⟩,q6,by show rv q=u;rw[hrv q q5 q6];exact q3⟩,fun q' p1 p2 p3=>?_⟩,fun k hk=>?_⟩
   ·obtain⟨s1,s2,s3⟩:=alR q' p1.1 p2
    exact q4 q' ⟨s1,rfl⟩ s2 (by rw[←s3];exact p3)
   ·show f k≠u
    rcases Ends.df h e he ha hb hk.1 with h3 | rfl | rfl
    ·rw[e.f0 k h3];exact h2 k ⟨h3,rfl⟩
    ·rw[e.fx];exact h2 a ⟨ha,rfl⟩
    ·rw[e.fy];exact h2 b ⟨hb,rfl⟩
  ·refine .inr ⟨fun q p1 p2 p3=>?_,(e.jl h he ha hb h2).ext (fun _ _ _=>rfl) fun y=>zO⟩
   obtain⟨s1,s2,s3⟩:=alR q p1.1 p2
   exact h1 q ⟨s1,rfl⟩ s2 (by rw[←s3];exact p3)
theorem Nc{N N':Nat→Nat}{n:Nat}{P Q R:Nat→Bool}{h g p q:Nat}(ho:bx N n P)(ho':bx N n Q)(hd:∀y,cT n P y→¬cT n Q y)(hp:cT n P p)(hq:cT n Q q)(Np:N p=h)(Nq:N q=g)
 (s0:∀k,k<n→k≠p→k≠q→N' k=N k) (s1:N' p=n∧N' n=g∧N' q=n+1∧N' (n+1)=h) (hR:∀y,cT (n+2) R y↔(cT n P y∨cT n Q y)∨y=n∨y=n+1):bx N' (n+2) R:=by
 have hpq:p≠q:=fun e=>hd p hp (e▸hq)
 obtain⟨t,ht⟩:∃t:Nat→Nat,t=fun k=>if k=p then n else if k=n then h else if k=q then n+1 else if k=n+1 then g else N k:=⟨_,rfl⟩
 have hpn:=hp.1
 have hqn:=hq.1
 have tp:t p=n:=by rw[ht];exact aC rfl
 have tn:t n=h:=by rw[ht];dsimp only;rw[aA (by omega),aC rfl]
 have tq:t q=n+1:=by rw[ht];dsimp only;rw[aA (fun e=>hpq e.symm),aA (by omega),aC rfl]
 have tn1:t (n+1)=g:=by rw[ht];dsimp only;rw[aA (by omega),aA (by omega),aA (by omega),aC rfl]
 have to:∀k,k<n→k≠p→k≠q→t k=N k:=fun k hk h1 h2=>by rw[ht];dsimp only;rw[aA h1,aA (by omega),aA h2,aA (by omega)]
 have o1:bx t (n+2) (fun k=>bif decide (k=n) then true else (decide (k<n)&&P k)):=by
  refine ho.ins (x:=p) (a:=n) hp.1 hp.2 (gU _) tp (by rw[tn,Np]) (fun y hy hP hne=>to y hy hne fun e=>hd y ⟨hy,hP⟩ (e▸hq)) fun y=>?_
  by_cases e:y=n
  ·subst e;rw[aM rfl];exact⟨fun _=>.inr rfl,fun _=>⟨by omega,rfl⟩⟩
  ·rw[aQ e]
   constructor
   ·rintro ⟨_,h2⟩
    have h2:=iC.1 h2
    exact .inl ⟨cH h2.1,h2.2⟩
   ·rintro (h1 | h1)
    ·exact⟨by omega,iC.2 ⟨aM h1.1,h1.2⟩⟩
    ·exact absurd h1 e
 have o2:bx t (n+2) (fun k=>bif decide (k=n+1) then true else (decide (k<n)&&Q k)):=by
  refine ho'.ins (x:=q) (a:=n+1) hq.1 hq.2 (by omega) tq (by rw[tn1,Nq]) (fun y hy hQ hne=>to y hy (fun e=>hd y (e▸hp) ⟨hy,hQ⟩) hne) fun y=>?_
  by_cases e:y=n+1
  ·subst e;rw[aM rfl];exact⟨fun _=>.inr rfl,fun _=>⟨by omega,rfl⟩⟩
  ·rw[aQ e]
   constructor
   ·rintro ⟨_,h2⟩
    have h2:=iC.1 h2
    exact .inl ⟨cH h2.1,h2.2⟩
   ·rintro (h1 | h1)
    ·exact⟨by omega,iC.2 ⟨aM h1.1,h1.2⟩⟩
    ·exact absurd h1 e
 have m1:∀y,cT (n+2) (fun k=>bif decide (k=n) then true else (decide (k<n)&&P k)) y↔cT n P y∨y=n:=fun y=>by
  by_cases e:y=n
  ·subst e
   exact⟨fun _=>.inr rfl,fun _=>⟨by omega,by dsimp only;rw[aM rfl];rfl⟩⟩
  ·unfold cT
   dsimp only
   rw[aQ e,bV,cM,cK]
   exact⟨fun h=>.inl h.2,fun h=>h.elim (fun h=>⟨by omega,h⟩) fun h=>absurd h e⟩
 have m2:∀y,cT (n+2) (fun k=>bif decide (k=n+1) then true else (decide (k<n)&&Q k)) y↔cT n Q y∨y=n+1:=fun y=>by
  by_cases e:y=n+1
  ·subst e
   exact⟨fun _=>.inr rfl,fun _=>⟨by omega,by dsimp only;rw[aM rfl];rfl⟩⟩
  ·unfold cT
   dsimp only
   rw[aQ e,bV,cM,cK]
   exact⟨fun h=>.inl h.2,fun h=>h.elim (fun h=>⟨by omega,h⟩) fun h=>absurd h e⟩
 refine o1.merge o2 (fun y h1 h2=>?_) ((m1 n).2 (.inr rfl)) ((m2 (n+1)).2 (.inr rfl)) (g:=N') (by rw[tn1];exact s1.2.1) (by rw[tn];exact s1.2.2.2) (fun y hy h1 h2=>?_) fun y=>?_
 ·rcases(m1 y).1 h1 with h3 | h3 <;> rcases(m2 y).1 h2 with h4 | h4
  ·exact hd y h3 h4
  ·have:=h3.1;omega
  ·have:=h4.1;omega
  ·omega
 ·by_cases e1:y=p
  ·rw[e1,tp];exact s1.1
  ·by_cases e2:y=q
   ·rw[e2,tq];exact s1.2.2.1
   ·have hyn:y<n:=by
     rcases hy with hy | hy
     ·rcases(m1 y).1 hy with h3 | h3
      ·exact h3.1
      ·exact absurd h3 h1
     ·rcases(m2 y).1 hy with h3 | h3
      ·exact h3.1
      ·exact absurd h3 h2
    rw[s0 y hyn e1 e2,to y hyn e1 e2]
 ·rw[hR y,m1 y,m2 y]
  constructor
  ·rintro ((h | h) | h | h)
   ·exact .inl (.inl h)
   ·exact .inr (.inl h)
   ·exact .inl (.inr h)
   ·exact .inr (.inr h)
  ·rintro ((h | h) | (h | h))
   ·exact .inl (.inl h)
   ·exact .inr (.inl h)
   ·exact .inl (.inr h)
   ·exact .inr (.inr h)
def Yw(x:Nat):cw:=⟨fun _=>true,fun q=>decide (q≠x),fun _=>true,fun _=>true⟩
theorem WV.ly{m:Mp}{a b:Nat}{f nx pv r:Nat→Nat}(h:WV m vG)(e:Ends m a b f nx pv)(he:m.n%2=0)(ha:a<m.n)(hb:b<m.n)(hne:m.r a≠m.r b)
 (hr:∀k,k<m.n+2→r k=if k=m.n∨k=m.n+1 then m.r a else if m.r k=m.r b then m.r a else m.r k) (hface:m.rc (m.r a)=m.rc (m.r b)):
 WV { m with n:=m.n+2,f:=f,r:=r,nx:=nx,pv:=pv } (Yw (m.r b)):=by
 have hab:a≠b:=fun e2=>hne (by rw[e2])
 have ral:m.r a<m.R:=(h.hr a ⟨ha,rfl⟩).1
 have rlt:∀k,k<m.n→m.r k<m.R:=fun k hk=>(h.hr k ⟨hk,rfl⟩).1
 have rold:∀k,k<m.n→r k=if m.r k=m.r b then m.r a else m.r k:=fun k hk=>by rw[hr k (by omega),aA (by omega)]
 have rx:r m.n=m.r a:=by rw[hr _ (by omega),aC (.inl rfl)]
 have ry:r (m.n+1)=m.r a:=by rw[hr _ (by omega),aC (.inr rfl)]
 have pa:=e.pa h he ha hb
 have pb:=e.pb h he ha hb
 have rp:∀k,k<m.n→m.r (m.pv k)=m.r k:=fun k hk=>by
  have h1:=h.rn _ (h.hp k ⟨hk,rfl⟩)
  rw[h.np k ⟨hk,rfl⟩] at h1
  exact h1.symm
 have live:∀q,m.r q=m.r b∨m.r q≠m.r b:=fun q=>UF _
 have nal:∀k,k<m.n→m.al (m.r k)=false:=fun k hk=>by
  cases hx:m.al (m.r k) with
  | false=>rfl
  | true=>exact absurd rfl ((h.ra _ (h.hr k ⟨hk,rfl⟩) hx).2 k ⟨hk,rfl⟩)
 have rne:∀k,k<m.n+2→r k<m.R∧r k≠m.r b:=fun k hk=>by
  rcases Ends.df h e he ha hb hk with h1 | rfl | rfl
  ·rw[rold k h1]
   by_cases h2:m.r k=m.r b
   ·rw[aC h2];exact⟨ral,hne⟩
   ·rw[aA h2];exact⟨rlt k h1,h2⟩
  ·rw[rx];exact⟨ral,hne⟩
  ·rw[ry];exact⟨ral,hne⟩
 have hOa:bx m.nx m.n (m.kx vG.L (m.r a)):=h.ro _ (h.hr a ⟨ha,rfl⟩) (nal a ha)
 have hOb:bx m.nx m.n (m.kx vG.L (m.r b)):=h.ro _ (h.hr b ⟨hb,rfl⟩) (nal b hb)
 have mR:∀q y,cT m.n (m.kx vG.L q) y↔y<m.n∧m.r y=q:=fun q y=>by
  show (y<m.n∧(true&&decide (m.r y=q))=true)↔_
  rw[fM,cK]
 obtain⟨n1,n2,n3,n4⟩:=e.n1 hab
 refine { cg:=fun k hk=>⟨kS (by show (m.n+2)%2=0;omega) hk.1,rfl⟩,hf:=fun k hk=>⟨?_,rfl⟩,hn:=fun k hk=>⟨e.bf h he ha hb hk.1,rfl⟩,hp:=fun k hk=>⟨e.aj h he ha hb hk.1,rfl⟩,pn:=fun k hk=>e.pn h he ha hb hk.1,np:=fun k hk=>e.np h he ha hb hk.1,hr:=fun k hk=>⟨(rne k hk.1).1,aM (rne k hk.1).2⟩,rn:=fun k hk=>?_,ff:=fun k hk=>e.ff h he ha hb hk.1,rc:=fun q hq=>h.rc q ⟨hq.1,rfl⟩,ra:=fun q hq hq2=>?_,ro:=fun q hq hq2=>?_,fc:=fun g hg=>?_,va:=fun u hu=>?_ }
 ·show f k<m.V
  rcases Ends.df h e he ha hb hk.1 with h1 | rfl | rfl
  ·rw[e.f0 k h1];exact(h.hf k ⟨h1,rfl⟩).1
  ·rw[e.fx];exact(h.hf a ⟨ha,rfl⟩).1
  ·rw[e.fy];exact(h.hf b ⟨hb,rfl⟩).1
 ·show r (nx k)=r k
  rcases e.dv h he ha hb hk.1 with⟨q,_,_,q1,_⟩ | ⟨q,q1⟩ | ⟨_,q,q1⟩ | ⟨q,q1⟩ | ⟨_,q,q1⟩ | ⟨hab',_⟩
  ·rw[q1,rold _ (h.hn k ⟨q,rfl⟩).1,rold k q,h.rn k ⟨q,rfl⟩]
  ·rw[q1,q,rx,rold _ pa.1,rp a ha,aA hne]
  ·rw[q1,q,ry,rold _ pb.1,rp b hb,aC rfl]
  ·rw[q1,q,rx,rold b hb,aC rfl]
  ·rw[q1,q,ry,rold a ha,aA hne]
  ·exact absurd hab' hab
 ·obtain⟨h3,h4⟩:=h.ra q ⟨hq.1,rfl⟩ hq2
  refine⟨h3,fun k hk=>?_⟩
  show r k≠q
  rcases Ends.df h e he ha hb hk.1 with h1 | rfl | rfl
  ·rw[rold k h1]
   split
   ·exact h4 a ⟨ha,rfl⟩
   ·exact h4 k ⟨h1,rfl⟩
  ·rw[rx];exact h4 a ⟨ha,rfl⟩
  ·rw[ry];exact h4 a ⟨ha,rfl⟩
 ·have hqb:q≠m.r b:=cH hq.2
  show bx nx (m.n+2) (fun k=>true&&decide (r k=q))
  have mN:∀y,cT (m.n+2) (fun k=>true&&decide (r k=q)) y↔y<m.n+2∧r y=q:=fun y=>by
   show (y<m.n+2∧(true&&decide (r y=q))=true)↔_
   rw[fM,cK]
  by_cases h2:q=m.r a
  ·refine Nc hOa hOb (fun y h3 h4=>hne (((mR _ y).1 h3).2.symm.trans ((mR _ y).1 h4).2)) ((mR _ _).2 ⟨pa.1,rp a ha⟩) ((mR _ _).2 ⟨pb.1,rp b hb⟩) pa.2 pb.2 e.n0 ⟨n1,n2,n3,n4⟩ fun y=>?_
   rw[mN,mR,mR,h2]
   constructor
   ·rintro ⟨h3,h4⟩
    rcases Ends.df h e he ha hb h3 with h5 | h5 | h5
    ·rw[rold y h5] at h4
     by_cases h6:m.r y=m.r b
     ·exact .inl (.inr ⟨h5,h6⟩)
     ·rw[aA h6] at h4;exact .inl (.inl ⟨h5,h4⟩)
    ·exact .inr (.inl h5)
    ·exact .inr (.inr h5)
   ·rintro ((⟨h3,h4⟩ | ⟨h3,h4⟩) | h3 | h3)
    ·exact⟨by omega,by rw[rold y h3,aA (fun e2=>hne (h4.symm.trans e2))];exact h4⟩
    ·exact⟨by omega,by rw[rold y h3,aC h4]⟩
    ·exact⟨by omega,by rw[h3];exact rx⟩
    ·exact⟨by omega,by rw[h3];exact ry⟩
  ·refine(h.ro q ⟨hq.1,rfl⟩ hq2).ext (fun y hy hp=>?_) fun y=>?_
   ·have hp:m.r y=q:=((mR q y).1 ⟨hy,hp⟩).2
    exact e.n0 y hy (fun e2=>h2 (by rw[←hp,e2];exact rp a ha)) (fun e2=>hqb (by rw[←hp,e2];exact rp b hb))
   ·refine(mN y).trans (EO ?_ (mR q y).symm)
    constructor
    ·rintro ⟨h3,h4⟩
     rcases Ends.df h e he ha hb h3 with h5 | h5 | h5
     ·rw[rold y h5] at h4
      by_cases h6:m.r y=m.r b
      ·rw[aC h6] at h4;exact absurd h4.symm h2
      ·rw[aA h6] at h4;exact⟨h5,h4⟩
     ·rw[h5,rx] at h4;exact absurd h4.symm h2
     ·rw[h5,ry] at h4;exact absurd h4.symm h2
    ·rintro ⟨h3,h4⟩
     exact⟨by omega,by rw[rold y h3,aA (by rw[h4];exact hqb)];exact h4⟩
 ·obtain⟨q,q1,q2⟩:=h.fc g hg
  by_cases h2:q=m.r b
  ·exact⟨m.r a,⟨ral,aM hne⟩,by rw[hface,←h2];exact q2⟩
  ·exact⟨q,⟨q1.1,aM h2⟩,q2⟩
 ·rcases h.va u hu with⟨⟨q,⟨q1,q2,q3⟩,q4⟩,h2⟩ | ⟨h1,h2⟩
  ·refine .inl ⟨⟨q,⟨⟨q1.1,aM fun e2=>?_⟩,q2,q3⟩,fun q' p1 p2 p3=>q4 q' ⟨p1.1,rfl⟩ p2 p3⟩,fun k hk=>?_⟩
   ·rw[e2,nal b hb] at q2;cases q2
   ·show f k≠u
    rcases Ends.df h e he ha hb hk.1 with h3 | rfl | rfl
    ·rw[e.f0 k h3];exact h2 k ⟨h3,rfl⟩
    ·rw[e.fx];exact h2 a ⟨ha,rfl⟩
    ·rw[e.fy];exact h2 b ⟨hb,rfl⟩
  ·exact .inr ⟨fun q p1 p2 p3=>h1 q ⟨p1.1,rfl⟩ p2 p3,(e.jl h he ha hb h2).ext (fun _ _ _=>rfl) fun y=>zO⟩
end Go.Eng.Tl
set_option linter.unusedSectionVars false
namespace Go.Eng.Tl
open Go.Eng
theorem bx.cl{f:Nat→Nat}{n:Nat}{P:Nat→Bool}(h:bx f n P){y:Nat}(hy:cT n P y):cT n P (f y):=by
 obtain⟨x,m,hm,cm⟩:=h
 exact(cm _).1 (hm.step ((cm y).2 hy))
theorem bx.pred{f:Nat→Nat}{n:Nat}{P:Nat→Bool}(h:bx f n P){x:Nat}(hx:cT n P x):∃p,cT n P p∧f p=x:=by
 obtain⟨m,hm,cm⟩:=h.at hx.1 hx.2
 cases hr:m.reverse with
 | nil=>
  have:m=[]:=by simpa using hr
  subst this
  exact⟨x,hx,hm.1⟩
 | cons u r=>
  have e:m=r.reverse++[u]:=by rw[←UB m,hr];simp
  have hu:u∈x::m:=by rw[e];simp
  refine⟨u,(cm u).1 hu,?_⟩
  have h1:=hm.1
  rw[e] at h1
  exact(kA.1 h1).2
theorem Y2{s:Nat→Nat}{n x:Nat}{P:Nat→Bool}(ho:bx s n P)(inj:∀y z,cT n P y→cT n P z→s y=s z→y=z):
 (∀y,cT n P y→y=x)∨bx (fun k=>if s k=x then s x else s k) n (fun k=>P k&&decide (k≠x)):=by
 have mP:∀y,cT n (fun k=>P k&&decide (k≠x)) y↔cT n P y∧y≠x:=fun y=>by
  show (y<n∧(P y&&decide (y≠x))=true)↔_
  rw[cM,cK]
  exact⟨fun h=>⟨⟨h.1,h.2.1⟩,h.2.2⟩,fun h=>⟨h.1.1,h.1.2,h.2⟩⟩
 by_cases hx:cT n P x
 ·obtain⟨p,hp,hpx⟩:=ho.pred hx
  by_cases hpe:p=x
  ·left
   intro y hy
   subst hpe
   obtain⟨m,hm,cm⟩:=ho.at hx.1 hx.2
   cases m with
   | nil=>simpa using(cm y).2 hy
   | cons z m=>
    have h1:s p=z:=hm.1.1
    have:p=z:=hpx.symm.trans h1
    exact absurd (by rw[this];simp) (cY.1 hm.2).1
  ·right
   refine ho.del hp hpx hpe (by show (if s p=x then s x else s p)=s x;rw[aC hpx]) (fun y hy h1 h2=>?_) mP
   show (if s y=x then s x else s y)=s y
   rw[aA fun e=>h1 (inj y p hy hp (e.trans hpx.symm))]
 ·right
  refine ho.ext (fun y hy hP=>?_) fun y=>?_
  ·show (if s y=x then s x else s y)=s y
   exact aA fun(e:s y=x)=>hx (e▸ho.cl ⟨hy,hP⟩)
  ·exact(mP y).trans ⟨fun h=>h.1,fun h=>⟨h,fun(e:y=x)=>hx (e▸h)⟩⟩
def skip(N:Nat→Nat)(a b k:Nat):Nat:=
 let t1:=if N k=a then N b else N k
 if t1=b then (if N a=a then N b else N a) else t1
theorem QV{s:Nat→Nat}{n a b:Nat}{P:Nat→Bool}(ho:bx s n P)(inj:∀y z,cT n P y→cT n P z→s y=s z→y=z)(hab:a≠b):
 (∀y,cT n P y→y=a∨y=b)∨bx (fun k=>let t1:=if s k=a then s a else s k;if t1=b then (if s b=a then s a else s b) else t1) n (fun k=>(P k&&decide (k≠a))&&decide (k≠b)):=by
 rcases Y2 (x:=a) ho inj with h1 | h1
 ·exact .inl fun y hy=>.inl (h1 y hy)
 ·have mP:∀y,cT n (fun k=>P k&&decide (k≠a)) y↔cT n P y∧y≠a:=fun y=>by
   show (y<n∧(P y&&decide (y≠a))=true)↔_
   rw[cM,cK]
   exact⟨fun h=>⟨⟨h.1,h.2.1⟩,h.2.2⟩,fun h=>⟨h.1.1,h.1.2,h.2⟩⟩
  have inj1:∀y z,cT n (fun k=>P k&&decide (k≠a)) y→cT n (fun k=>P k&&decide (k≠a)) z→(if s y=a then s a else s y)=(if s z=a then s a else s z)→y=z:=fun y z hy hz e=>by
   obtain⟨hy1,hy2⟩:=(mP y).1 hy
   obtain⟨hz1,hz2⟩:=(mP z).1 hz
   by_cases e1:s y=a <;> by_cases e2:s z=a
   ·exact inj y z hy1 hz1 (e1.trans e2.symm)
   ·rw[aC e1,aA e2] at e
    have ha:cT n P a:=e1▸ho.cl hy1
    exact absurd (inj a z ha hz1 e).symm hz2
   ·rw[aA e1,aC e2] at e
    have ha:cT n P a:=e2▸ho.cl hz1
    exact absurd (inj y a hy1 ha e) hy2
   ·rw[aA e1,aA e2] at e
    exact inj y z hy1 hz1 e
  rcases Y2 (x:=b) h1 inj1 with h2 | h2
  ·refine .inl fun y hy=>?_
   by_cases e:y=a
   ·exact .inl e
   ·exact .inr (h2 y ((mP y).2 ⟨hy,e⟩))
  ·exact .inr h2
section
variable {N P:Nat→Nat} {n a b:Nat} (hN:∀k,k<n→N k<n) (PN:∀k,k<n→P (N k)=k) (ha:a<n) (hb:b<n) (hab:a≠b) (bn:¬(N a=a∧N b=b))
include hN PN ha hb hab bn
theorem sQ{k:Nat}(hk:k<n)(ka:k≠a)(kb:k≠b):
 (N k=a∧N b=b∧N a≠a∧skip N a b k=N a)∨(N k=a∧N b≠b∧skip N a b k=N b)∨(N k=b∧N a=a∧N b≠b∧skip N a b k=N b)∨(N k=b∧N a≠a∧skip N a b k=N a)∨(N k≠a∧N k≠b∧skip N a b k=N k):=by
 have inj:∀y z,y<n→z<n→N y=N z→y=z:=fun y z hy hz e=>by rw[←PN y hy,e,PN z hz]
 unfold skip
 by_cases e1:N k=a
 ·by_cases e2:N b=b
  ·have e3:N a≠a:=fun e3=>bn ⟨e3,e2⟩
   exact .inl ⟨e1,e2,e3,by simp only[aC e1,aC e2,aA e3]⟩
  ·exact .inr (.inl ⟨e1,e2,by simp only[aC e1,aA e2]⟩)
 ·by_cases e2:N k=b
  ·by_cases e3:N a=a
   ·have e4:N b≠b:=fun e4=>bn ⟨e3,e4⟩
    exact .inr (.inr (.inl ⟨e2,e3,e4,by simp only[aA e1,aC e2,aC e3]⟩))
   ·exact .inr (.inr (.inr (.inl ⟨e2,e3,by simp only[aA e1,aC e2,aA e3]⟩)))
  ·exact .inr (.inr (.inr (.inr ⟨e1,e2,by simp only[aA e1,aA e2]⟩)))
theorem TJ{k:Nat}(hk:k<n)(ka:k≠a)(kb:k≠b):skip N a b k<n∧skip N a b k≠a∧skip N a b k≠b:=by
 have inj:∀y z,y<n→z<n→N y=N z→y=z:=fun y z hy hz e=>by rw[←PN y hy,e,PN z hz]
 rcases sQ hN PN ha hb hab bn hk ka kb with⟨e1,e2,e3,e4⟩ | ⟨e1,e2,e4⟩ | ⟨e1,e2,e3,e4⟩ | ⟨e1,e2,e4⟩ | ⟨e1,e2,e4⟩
 ·rw[e4];exact⟨hN a ha,e3,fun e=>hab (inj a b ha hb (e.trans e2.symm))⟩
 ·rw[e4];exact⟨hN b hb,fun e=>kb (inj k b hk hb (e1.trans e.symm)),e2⟩
 ·rw[e4];exact⟨hN b hb,fun e=>hab (inj a b ha hb (e2.trans e.symm)),e3⟩
 ·rw[e4];exact⟨hN a ha,e2,fun e=>ka (inj k a hk ha (e1.trans e.symm))⟩
 ·rw[e4];exact⟨hN k hk,e1,e2⟩
theorem Y3{k:Nat}(hk:k<n)(ka:k≠a)(kb:k≠b):skip P a b (skip N a b k)=k:=by
 rcases sQ hN PN ha hb hab bn hk ka kb with⟨e1,e2,e3,e4⟩ | ⟨e1,e2,e4⟩ | ⟨e1,e2,e3,e4⟩ | ⟨e1,e2,e4⟩ | ⟨e1,e2,e4⟩
 all_goals rw[e4];unfold skip
 ·have q1:P (N a)=a:=PN a ha
  have q2:P b=b:=by have:=PN b hb;rwa[e2] at this
  have q3:P a=k:=by rw[←e1];exact PN k hk
  simp only[q1,q2,q3,eP,aA ka]
 ·have q1:P (N b)=b:=PN b hb
  have q3:P a=k:=by rw[←e1];exact PN k hk
  simp only[q1,q3,aA (OS hab),eP,aA ka]
 ·have q1:P (N b)=b:=PN b hb
  have q2:P a=a:=by have:=PN a ha;rwa[e2] at this
  have q3:P b=k:=by rw[←e1];exact PN k hk
  simp only[q1,q2,q3,aA (OS hab),eP]
 ·have q1:P (N a)=a:=PN a ha
  have q3:P b=k:=by rw[←e1];exact PN k hk
  simp only[q1,q3,eP,aA kb]
 ·have q1:P (N k)=k:=PN k hk
  simp only[q1,aA ka,aA kb]
end
end Go.Eng.Tl
set_option linter.unusedSectionVars false
namespace Go.Eng.Tl
open Go.Eng
structure bc (m:Mp) (a:Nat) (nx pv:Nat→Nat):Prop where
 n:∀k,k<m.n→k≠a→k≠mt a→nx k=skip m.nx a (mt a) k
 p:∀k,k<m.n→k≠a→k≠mt a→pv k=skip m.pv a (mt a) k
def CH(a:Nat):Nat→Bool:=fun k=>decide (k≠a)&&decide (k≠mt a)
theorem fY{n a k:Nat}:cT n (CH a) k↔k<n∧k≠a∧k≠mt a:=by
 unfold cT CH
 rw[cM,cK,cK]
section
variable {m:Mp} {a:Nat} {nx pv:Nat→Nat} (h:WV m vG) (g:bc m a nx pv) (ha:a<m.n) (bn:¬(m.nx a=a∧m.nx (mt a)=mt a))
include h g ha bn
theorem bc.b:mt a<m.n:=(h.cg a ⟨ha,rfl⟩).1
theorem bc.N{k:Nat}(hk:k<m.n):m.nx k<m.n:=(h.hn k ⟨hk,rfl⟩).1
theorem bc.P{k:Nat}(hk:k<m.n):m.pv k<m.n:=(h.hp k ⟨hk,rfl⟩).1
theorem bc.PN{k:Nat}(hk:k<m.n):m.pv (m.nx k)=k:=h.pn k ⟨hk,rfl⟩
theorem bc.NP{k:Nat}(hk:k<m.n):m.nx (m.pv k)=k:=h.np k ⟨hk,rfl⟩
theorem bc.fm:¬(m.pv a=a∧m.pv (mt a)=mt a):=fun⟨h1,h2⟩=>bn ⟨by have:=bc.NP h g ha bn ha;rwa[h1] at this,by have:=bc.NP h g ha bn (bc.b h g ha bn);rwa[h2] at this⟩
theorem bc.cg{k:Nat}(hk:cT m.n (CH a) k):cT m.n (CH a) (mt k):=by
 obtain⟨h1,h2,h3⟩:=fY.1 hk
 exact fY.2 ⟨(h.cg k ⟨h1,rfl⟩).1,fun e=>h3 (by rw[←e,qA]),fun e=>h2 (VH e)⟩
theorem bc.hn{k:Nat}(hk:cT m.n (CH a) k):cT m.n (CH a) (nx k):=by
 obtain⟨h1,h2,h3⟩:=fY.1 hk
 rw[g.n k h1 h2 h3]
 exact fY.2 (TJ (fun k hk=>bc.N h g ha bn hk) (fun k hk=>bc.PN h g ha bn hk) ha (bc.b h g ha bn) (rW a).symm bn h1 h2 h3)
theorem bc.hp{k:Nat}(hk:cT m.n (CH a) k):cT m.n (CH a) (pv k):=by
 obtain⟨h1,h2,h3⟩:=fY.1 hk
 rw[g.p k h1 h2 h3]
 exact fY.2 (TJ (fun k hk=>bc.P h g ha bn hk) (fun k hk=>bc.NP h g ha bn hk) ha (bc.b h g ha bn) (rW a).symm (bc.fm h g ha bn) h1 h2 h3)
theorem bc.pn{k:Nat}(hk:cT m.n (CH a) k):pv (nx k)=k:=by
 obtain⟨q1,q2,q3⟩:=fY.1 (bc.hn h g ha bn hk)
 obtain⟨h1,h2,h3⟩:=fY.1 hk
 rw[g.p _ q1 q2 q3,g.n k h1 h2 h3]
 exact Y3 (fun k hk=>bc.N h g ha bn hk) (fun k hk=>bc.PN h g ha bn hk) ha (bc.b h g ha bn) (rW a).symm bn h1 h2 h3
theorem bc.np{k:Nat}(hk:cT m.n (CH a) k):nx (pv k)=k:=by
 obtain⟨q1,q2,q3⟩:=fY.1 (bc.hp h g ha bn hk)
 obtain⟨h1,h2,h3⟩:=fY.1 hk
 rw[g.n _ q1 q2 q3,g.p k h1 h2 h3]
 exact Y3 (fun k hk=>bc.P h g ha bn hk) (fun k hk=>bc.NP h g ha bn hk) ha (bc.b h g ha bn) (rW a).symm (bc.fm h g ha bn) h1 h2 h3
theorem bc.ff{k:Nat}(hk:cT m.n (CH a) k):m.f (nx k)=m.f (mt k):=by
 obtain⟨h1,h2,h3⟩:=fY.1 hk
 have fa:m.f (m.nx a)=m.f (mt a):=h.ff a ⟨ha,rfl⟩
 have fb:m.f (m.nx (mt a))=m.f a:=by have:=h.ff (mt a) ⟨bc.b h g ha bn,rfl⟩;rwa[qA] at this
 have fk:m.f (m.nx k)=m.f (mt k):=h.ff k ⟨h1,rfl⟩
 rw[g.n k h1 h2 h3]
 rcases sQ (fun k hk=>bc.N h g ha bn hk) (fun k hk=>bc.PN h g ha bn hk) ha (bc.b h g ha bn) (rW a).symm bn h1 h2 h3 with⟨e1,e2,e3,e4⟩ | ⟨e1,e2,e4⟩ | ⟨e1,e2,e3,e4⟩ | ⟨e1,e2,e4⟩ | ⟨e1,e2,e4⟩
 ·rw[e4,fa,←fk,e1];rw[e2] at fb;exact fb
 ·rw[e4,fb,←fk,e1]
 ·rw[e4,fb,←fk,e1];rw[e2] at fa;exact fa
 ·rw[e4,fa,←fk,e1]
 ·rw[e4,fk]
theorem bc.jl{u:Nat}(ho:bx m.sg m.n (m.mf vG.L u)):(∀k,cT m.n (CH a) k→m.f k≠u)∨bx (fun k=>mt (pv k)) m.n (fun k=>CH a k&&decide (m.f k=u)):=by
 have hb:=bc.b h g ha bn
 have mV:∀y,cT m.n (m.mf vG.L u) y↔y<m.n∧m.f y=u:=fun y=>by
  show (y<m.n∧(true&&decide (m.f y=u))=true)↔_
  rw[fM,cK]
 have sinj:∀y z,y<m.n→z<m.n→m.sg y=m.sg z→y=z:=fun y z hy hz e=>by
  have:=VH e
  rw[←bc.NP h g ha bn hy,this,bc.NP h g ha bn hz]
 rcases QV (a:=a) (b:=mt a) ho (fun y z hy hz e=>sinj y z hy.1 hz.1 e) (rW a).symm with h1 | h1
 ·refine .inl fun k hk e=>?_
  obtain⟨k1,k2,k3⟩:=fY.1 hk
  rcases h1 k ((mV k).2 ⟨k1,e⟩) with h2 | h2
  ·exact k2 h2
  ·exact k3 h2
 ·refine .inr (h1.ext (fun y hy hp=>?_) fun y=>?_)
  ·have hp:=iC.1 hp
   have hp1:=iC.1 hp.1
   have ya:y≠a:=cH hp1.2
   have yb:y≠mt a:=cH hp.2
   show mt (pv y)=_
   rw[g.p y hy ya yb]
   have sA:∀k,m.sg k=a↔m.pv k=mt a:=fun k=>⟨fun e=>by rw[←e];exact(qA _).symm,fun e=>by show mt (m.pv k)=a;rw[e,qA]⟩
   have sB:∀k,m.sg k=mt a↔m.pv k=a:=fun k=>⟨fun e=>VH e,fun e=>by show mt (m.pv k)=mt a;rw[e]⟩
   have hne:mt a≠a:=rW a
   dsimp only
   rcases sQ (fun k hk=>bc.P h g ha bn hk) (fun k hk=>bc.NP h g ha bn hk) ha hb hne.symm (bc.fm h g ha bn) hy ya yb with⟨e1,e2,e3,e4⟩ | ⟨e1,e2,e4⟩ | ⟨e1,e2,e3,e4⟩ | ⟨e1,e2,e4⟩ | ⟨e1,e2,e4⟩
   ·-- pv y=a,pv b=b
    have q1:m.sg y=mt a:=(sB y).2 e1
    have q2:m.sg (mt a)=a:=(sA _).2 e2
    rw[e4]
    simp only[q1,aA hne,eP,q2]
    rfl
   ·have q1:m.sg y=mt a:=(sB y).2 e1
    have q2:m.sg (mt a)≠a:=fun e=>e2 ((sA _).1 e)
    rw[e4]
    simp only[q1,aA hne,eP,aA q2]
    rfl
   ·have q1:m.sg y=a:=(sA y).2 e1
    have q2:m.sg a=mt a:=(sB _).2 e2
    have q3:m.sg (mt a)≠a:=fun e=>e3 ((sA _).1 e)
    rw[e4]
    simp only[q1,eP,q2,aA q3]
    rfl
   ·have q1:m.sg y=a:=(sA y).2 e1
    have q2:m.sg a≠mt a:=fun e=>e2 ((sB _).1 e)
    rw[e4]
    simp only[q1,eP,aA q2]
    rfl
   ·have q1:m.sg y≠a:=fun e=>e2 ((sA _).1 e)
    have q2:m.sg y≠mt a:=fun e=>e1 ((sB _).1 e)
    rw[e4]
    simp only[aA q1,aA q2]
    rfl
  ·show (y<m.n∧(CH a y&&decide (m.f y=u))=true)↔(y<m.n∧(((true&&decide (m.f y=u))&&decide (y≠a))&&decide (y≠mt a))=true)
   unfold CH
   simp only[cM,cK,fM]
   exact⟨fun⟨a1,⟨a2,a3⟩,a4⟩=>⟨a1,⟨a4,a2⟩,a3⟩,fun⟨a1,⟨a4,a2⟩,a3⟩=>⟨a1,⟨a2,a3⟩,a4⟩⟩
end
end Go.Eng.Tl
set_option linter.unusedSectionVars false
namespace Go.Eng.Tl
open Go.Eng
theorem WA{s:Nat→Nat}{n:Nat}{P:Nat→Bool}(ho:bx s n P){x:Nat}(hx:cT n P x)(e:s x=x):∀y,cT n P y→y=x:=fun y hy=>by
 obtain⟨m,hm,cm⟩:=ho.at hx.1 hx.2
 cases m with
 | nil=>simpa using(cm y).2 hy
 | cons z m=>
  have h1:s x=z:=hm.1.1
  have:x=z:=e.symm.trans h1
  exact absurd (by rw[this];simp) (cY.1 hm.2).1
theorem WB{s:Nat→Nat}{n:Nat}{P:Nat→Bool}(ho:bx s n P){x z:Nat}(hx:cT n P x)(e:s x=z)(e':s z=x):∀y,cT n P y→y=x∨y=z:=fun y hy=>by
 obtain⟨m,hm,cm⟩:=ho.at hx.1 hx.2
 cases m with
 | nil=>exact .inl (by simpa using(cm y).2 hy)
 | cons w m=>
  have h1:s x=w:=hm.1.1
  have hw:w=z:=h1.symm.trans e
  subst hw
  cases m with
  | nil=>simpa using(cm y).2 hy
  | cons v m=>
   have h2:s w=v:=hm.1.2.1
   have:v=x:=h2.symm.trans e'
   exact absurd (by rw[this];simp) (cY.1 hm.2).1
def Xv(a u:Nat):cw:=⟨CH a,fun _=>true,fun v=>decide (v≠u),fun _=>true⟩
theorem WV.ow{m:Mp}{a:Nat}{nx pv:Nat→Nat}{al:Nat→Bool}{rv:Nat→Nat}(h:WV m vG)(g:bc m a nx pv)(ha:a<m.n)(hnx:m.nx a=mt a)
 (bn:∀q,q<m.R→al q=if m.nx (mt a)=a∧q=m.r a then true else m.al q) (hrv:∀q,q<m.R→al q=true→rv q=if m.nx (mt a)=a∧q=m.r a then m.f a else m.rv q):
 WV { m with nx:=nx,pv:=pv,al:=al,rv:=rv } (Xv a (m.f (mt a))):=by
 have hne:mt a≠a:=rW a
 have hl:¬(m.nx a=a∧m.nx (mt a)=mt a):=fun⟨h1,_⟩=>hne (hnx.symm.trans h1)
 have hb:=bc.b h g ha hl
 have rb:m.r (mt a)=m.r a:=by rw[←hnx];exact h.rn a ⟨ha,rfl⟩
 have ral:m.r a<m.R:=(h.hr a ⟨ha,rfl⟩).1
 have mV:∀u y,cT m.n (m.mf vG.L u) y↔y<m.n∧m.f y=u:=fun u y=>by
  show (y<m.n∧(true&&decide (m.f y=u))=true)↔_
  rw[fM,cK]
 have mR:∀q y,cT m.n (m.kx vG.L q) y↔y<m.n∧m.r y=q:=fun q y=>by
  show (y<m.n∧(true&&decide (m.r y=q))=true)↔_
  rw[fM,cK]
 have nal:∀k,k<m.n→m.al (m.r k)=false:=fun k hk=>by
  cases hx:m.al (m.r k) with
  | false=>rfl
  | true=>exact absurd rfl ((h.ra _ (h.hr k ⟨hk,rfl⟩) hx).2 k ⟨hk,rfl⟩)
 have vorb:∀k,k<m.n→(∀q,cT m.R vG.R q→m.al q=true→m.rv q≠m.f k)∧bx m.sg m.n (m.mf vG.L (m.f k)):=fun k hk=>by
  rcases h.va (m.f k) (h.hf k ⟨hk,rfl⟩) with⟨_,h2⟩ | h2
  ·exact absurd rfl (h2 k ⟨hk,rfl⟩)
  ·exact h2
 have onlyB:∀y,y<m.n→m.f y=m.f (mt a)→y=mt a:=fun y hy e=>by
  refine WA (vorb _ hb).2 ((mV _ _).2 ⟨hb,rfl⟩) ?_ y ((mV _ _).2 ⟨hy,e⟩)
  show mt (m.pv (mt a))=mt a
  have e2:=bc.PN h g ha hl ha
  rw[hnx] at e2
  rw[e2]
 have onlyA:m.nx (mt a)=a→∀y,y<m.n→m.f y=m.f a→y=a:=fun e0 y hy e=>by
  refine WA (vorb _ ha).2 ((mV _ _).2 ⟨ha,rfl⟩) ?_ y ((mV _ _).2 ⟨hy,e⟩)
  show mt (m.pv a)=a
  have:=bc.PN h g ha hl hb
  rw[e0] at this
  rw[this,qA]
 have fab:m.f a≠m.f (mt a):=fun e=>hne (onlyB a ha e).symm
 have hOa:bx m.nx m.n (m.kx vG.L (m.r a)):=h.ro _ (h.hr a ⟨ha,rfl⟩) (nal a ha)
 have onlyAB:m.nx (mt a)=a→∀y,y<m.n→m.r y=m.r a→y=a∨y=mt a:=fun e0 y hy e=>
  WB hOa ((mR _ _).2 ⟨ha,rfl⟩) hnx e0 y ((mR _ _).2 ⟨hy,e⟩)
 have sk:∀k,k<m.n→k≠a→k≠mt a→(m.nx k=a∧nx k=m.nx (mt a))∨(m.nx k≠a∧m.nx k≠mt a∧nx k=m.nx k):=fun k hk ka kb=>by
  rw[g.n k hk ka kb]
  rcases sQ (fun k hk=>bc.N h g ha hl hk) (fun k hk=>bc.PN h g ha hl hk) ha hb hne.symm hl hk ka kb with⟨e1,e2,e3,e4⟩ | ⟨e1,e2,e4⟩ | ⟨e1,e2,e3,e4⟩ | ⟨e1,e2,e4⟩ | ⟨e1,e2,e4⟩
  ·have:=bc.PN h g ha hl hb
   rw[e2] at this
   have q:=bc.PN h g ha hl ha
   rw[hnx,this] at q
   exact absurd q hne
  ·exact .inl ⟨e1,e4⟩
  ·exact absurd (e2.symm.trans hnx).symm hne
  ·have q:=bc.PN h g ha hl hk
   rw[e1,←hnx,bc.PN h g ha hl ha] at q
   exact absurd q.symm ka
  ·exact .inr ⟨e1,e2,e4⟩
 refine { cg:=fun k hk=>g.cg h ha hl hk,hf:=fun k hk=>?_,hn:=fun k hk=>g.hn h ha hl hk,hp:=fun k hk=>g.hp h ha hl hk,pn:=fun k hk=>g.pn h ha hl hk,np:=fun k hk=>g.np h ha hl hk,hr:=fun k hk=>⟨(h.hr k ⟨hk.1,rfl⟩).1,rfl⟩,rn:=fun k hk=>?_,ff:=fun k hk=>g.ff h ha hl hk,rc:=h.rc,ra:=fun q hq hq2=>?_,ro:=fun q hq hq2=>?_,fc:=h.fc,va:=fun u hu=>?_ }
 ·obtain⟨h1,h2,h3⟩:=fY.1 hk
  exact⟨(h.hf k ⟨h1,rfl⟩).1,aM fun e=>h3 (onlyB k h1 e)⟩
 ·obtain⟨h1,h2,h3⟩:=fY.1 hk
  show m.r (nx k)=m.r k
  rcases sk k h1 h2 h3 with⟨e1,e2⟩ | ⟨_,_,e2⟩
  ·have q:=h.rn k ⟨h1,rfl⟩
   have q2:=h.rn (mt a) ⟨hb,rfl⟩
   rw[e2,q2,rb,←q,e1]
  ·rw[e2];exact h.rn k ⟨h1,rfl⟩
 ·have hq1:q<m.R:=hq.1
  have hq2:al q=true:=hq2
  have h3:=hrv q hq1 hq2
  by_cases hc:m.nx (mt a)=a∧q=m.r a
  ·rw[aC hc] at h3
   refine⟨⟨?_,aM ?_⟩,fun k hk e=>?_⟩
   ·show rv q<m.V;rw[h3];exact(h.hf a ⟨ha,rfl⟩).1
   ·show rv q≠_;rw[h3];exact fab
   ·obtain⟨k1,k2,k3⟩:=fY.1 hk
    rcases onlyAB hc.1 k k1 (e.trans hc.2) with h4 | h4
    ·exact k2 h4
    ·exact k3 h4
  ·rw[aA hc] at h3
   have h4:m.al q=true:=by have:=bn q hq1;rw[aA hc] at this;rw[←this];exact hq2
   obtain⟨h5,h6⟩:=h.ra q ⟨hq1,rfl⟩ h4
   refine⟨⟨?_,aM ?_⟩,fun k hk=>h6 k ⟨hk.1,rfl⟩⟩
   ·show rv q<m.V;rw[h3];exact h5.1
   ·show rv q≠_;rw[h3];exact(vorb _ hb).1 q ⟨hq1,rfl⟩ h4
 ·have hq1:q<m.R:=hq.1
  have hq2:al q=false:=hq2
  have hc:¬(m.nx (mt a)=a∧q=m.r a):=fun hc=>by have:=bn q hq1;rw[aC hc,hq2] at this;cases this
  have h4:m.al q=false:=by have:=bn q hq1;rw[aA hc] at this;rw[←this];exact hq2
  have mL:∀y,cT m.n (fun k=>CH a k&&decide (m.r k=q)) y↔cT m.n (CH a) y∧m.r y=q:=fun y=>by
   unfold cT
   rw[cM,cK]
   exact⟨fun⟨a1,a2,a3⟩=>⟨⟨a1,a2⟩,a3⟩,fun⟨⟨a1,a2⟩,a3⟩=>⟨a1,a2,a3⟩⟩
  show bx nx m.n (fun k=>CH a k&&decide (m.r k=q))
  by_cases h5:q=m.r a
  ·have h6:m.nx (mt a)≠a:=fun e=>hc ⟨e,h5⟩
   have inj:∀y z,cT m.n (m.kx vG.L (m.r a)) y→cT m.n (m.kx vG.L (m.r a)) z→m.nx y=m.nx z→y=z:=fun y z hy hz e=>by rw[←bc.PN h g ha hl hy.1,e,bc.PN h g ha hl hz.1]
   rcases QV (a:=a) (b:=mt a) hOa inj hne.symm with h7 | h7
   ·have h8:m.r (m.nx (mt a))=m.r a:=by rw[h.rn (mt a) ⟨hb,rfl⟩];exact rb
    rcases h7 (m.nx (mt a)) ((mR _ _).2 ⟨bc.N h g ha hl hb,h8⟩) with h9 | h9
    ·exact absurd h9 h6
    ·have q1:=bc.PN h g ha hl hb
     have q2:=bc.PN h g ha hl ha
     rw[h9] at q1
     rw[hnx,q1] at q2
     exact absurd q2 hne
   ·refine h7.ext (fun y hy hp=>?_) fun y=>?_
    ·have hp:=iC.1 hp
     have ya:y≠a:=cH (iC.1 hp.1).2
     have yb:y≠mt a:=cH hp.2
     dsimp only
     rcases sk y hy ya yb with⟨e1,e2⟩ | ⟨e1,e2,e3⟩
     ·rw[e2]
      simp only[e1,eP,hnx,aA h6]
     ·rw[e3]
      simp only[aA e1,aA e2]
    ·show (y<m.n∧(CH a y&&decide (m.r y=q))=true)↔(y<m.n∧(((true&&decide (m.r y=m.r a))&&decide (y≠a))&&decide (y≠mt a))=true)
     rw[h5]
     unfold CH
     simp only[cM,cK,fM]
     exact⟨fun⟨a1,⟨a2,a3⟩,a4⟩=>⟨a1,⟨a4,a2⟩,a3⟩,fun⟨a1,⟨a4,a2⟩,a3⟩=>⟨a1,⟨a2,a3⟩,a4⟩⟩
  ·refine(h.ro q ⟨hq1,rfl⟩ h4).ext (fun y hy hp=>?_) fun y=>?_
   ·have hp:=((mR q y).1 ⟨hy,hp⟩).2
    have ya:y≠a:=fun e=>h5 (by rw[←hp,e])
    have yb:y≠mt a:=fun e=>h5 (by rw[←hp,e];exact rb)
    rcases sk y hy ya yb with⟨e1,_⟩ | ⟨_,_,e3⟩
    ·exact absurd (by rw[←hp,←h.rn y ⟨hy,rfl⟩,e1]) h5
    ·exact e3
   ·refine(mL y).trans (EO ?_ (mR q y).symm)
    rw[fY]
    exact⟨fun⟨⟨a1,_⟩,a2⟩=>⟨a1,a2⟩,fun⟨a1,a2⟩=>⟨⟨a1,fun e=>h5 (by rw[←a2,e]),fun e=>h5 (by rw[←a2,e];exact rb)⟩,a2⟩⟩
 ·have hu1:u<m.V:=hu.1
  have hu2:u≠m.f (mt a):=cH hu.2
  have old:∀q,q<m.R→al q=true→¬(m.nx (mt a)=a∧q=m.r a)→m.al q=true∧rv q=m.rv q:=fun q h1 h2 h3=>by
   have h4:=bn q h1
   rw[aA h3] at h4
   have h5:=hrv q h1 h2
   rw[aA h3] at h5
   exact⟨by rw[←h4];exact h2,h5⟩
  rcases h.va u ⟨hu1,rfl⟩ with⟨⟨q,⟨q1,q2,q3⟩,q4⟩,h2⟩ | ⟨h1,h2⟩
  ·have q5:q<m.R:=q1.1
   have hqa:q≠m.r a:=fun e=>by rw[e,nal a ha] at q2;cases q2
   have hcn:¬(m.nx (mt a)=a∧q=m.r a):=fun hc=>hqa hc.2
   have q6:al q=true:=by rw[bn q q5,aA hcn];exact q2
   refine .inl ⟨⟨q,⟨q1,q6,?_⟩,fun q' p1 p2 p3=>?_⟩,fun k hk=>h2 k ⟨hk.1,rfl⟩⟩
   ·show rv q=u;rw[(old q q5 q6 hcn).2];exact q3
   ·have p1':q'<m.R:=p1.1
    by_cases hc:m.nx (mt a)=a∧q'=m.r a
    ·have p3:rv q'=u:=p3
     rw[hrv q' p1' p2,aC hc] at p3
     exact absurd p3 (h2 a ⟨ha,rfl⟩)
    ·obtain⟨s1,s2⟩:=old q' p1' p2 hc
     exact q4 q' p1 s1 (by rw[←s2];exact p3)
  ·rcases g.jl h ha hl h2 with h3 | h3
   ·-- no half-edge is left: it is the beginning of the edge
    have hau:m.f a=u:=by
     obtain⟨x,l,_,hx⟩:=h2
     have hx1:=(mV u x).1 ((hx x).1 (by simp))
     by_cases e1:x=a
     ·rw[←e1];exact hx1.2
     ·by_cases e2:x=mt a
      ·exact absurd (by rw[←e2];exact hx1.2.symm) hu2
      ·exact absurd hx1.2 (h3 x (fY.2 ⟨hx1.1,e1,e2⟩))
    have hba:m.nx (mt a)=a:=by
     have h4:=h2.cl ((mV u a).2 ⟨ha,hau⟩)
     have h5:=(mV u _).1 h4
     have h6:m.sg a=a:=by
      refine FA fun e1=>?_
      by_cases e2:m.sg a=mt a
      ·exact hu2 (by rw[←h5.2,e2])
      ·exact h3 _ (fY.2 ⟨h5.1,e1,e2⟩) h5.2
     have h7:m.pv a=mt a:=by rw[←h6];show m.pv (m.sg a)=mt (mt (m.pv a));rw[qA,h6]
     rw[←h7];exact bc.NP h g ha hl ha
    have alr:al (m.r a)=true:=by rw[bn _ ral,aC ⟨hba,rfl⟩]
    refine .inl ⟨⟨m.r a,⟨⟨ral,rfl⟩,alr,?_⟩,fun q' p1 p2 p3=>?_⟩,fun k hk=>h3 k hk⟩
    ·show rv (m.r a)=u;rw[hrv _ ral alr,aC ⟨hba,rfl⟩];exact hau
    ·refine FA fun hne'=>?_
     have hc:¬(m.nx (mt a)=a∧q'=m.r a):=fun hc=>hne' hc.2
     obtain⟨s1,s2⟩:=old q' p1.1 p2 hc
     exact h1 q' ⟨p1.1,rfl⟩ s1 (by rw[←s2];exact p3)
   ·refine .inr ⟨fun q p1 p2 p3=>?_,h3⟩
    have p3:rv q=u:=p3
    by_cases hc:m.nx (mt a)=a∧q=m.r a
    ·rw[hrv q p1.1 p2,aC hc] at p3
     obtain⟨x,l,_,hx⟩:=h3
     have hx1:=(hx x).1 (by simp)
     have hx2:=iC.1 hx1.2
     obtain⟨k1,k2,k3⟩:=fY.1 ⟨hx1.1,hx2.1⟩
     exact k2 (onlyA hc.1 x k1 ((cH hx2.2).trans p3.symm))
    ·obtain⟨s1,s2⟩:=old q p1.1 p2 hc
     exact h1 q ⟨p1.1,rfl⟩ s1 (by rw[←s2];exact p3)
end Go.Eng.Tl
set_option linter.unusedSectionVars false
namespace Go.Eng.Tl
open Go.Eng
theorem EA{n:Nat}{P Q:Nat→Bool}{k:Nat}:cT n (fun k=>P k&&Q k) k↔cT n P k∧Q k=true:=by
 unfold cT
 rw[cM]
 exact⟨fun⟨a,b,c⟩=>⟨⟨a,b⟩,c⟩,fun⟨⟨a,b⟩,c⟩=>⟨a,b,c⟩⟩
theorem Uc{n:Nat}{P Q:Nat→Bool}{k:Nat}:cT n (fun k=>P k||Q k) k↔cT n P k∨cT n Q k:=by
 unfold cT
 rw[pD]
 exact⟨fun⟨a,b⟩=>b.elim (fun b=>.inl ⟨a,b⟩) fun b=>.inr ⟨a,b⟩,fun h=>h.elim (fun h=>⟨h.1,.inl h.2⟩) fun h=>⟨h.1,.inr h.2⟩⟩
theorem zE{n x:Nat}{P:Nat→Bool}{k:Nat}:cT n (fun k=>P k&&decide (k≠x)) k↔cT n P k∧k≠x:=by
 rw[EA,cK]
theorem lL{n x:Nat}{P:Nat→Bool}(hx:x<n){k:Nat}:cT n (fun k=>P k||decide (k=x)) k↔cT n P k∨k=x:=by
 rw[Uc]
 exact or_congr_right ⟨fun h=>cH h.2,fun h=>⟨by omega,aM h⟩⟩
theorem WV.congr{m:Mp}{a:cw}(h:WV m a){f r nx pv:Nat→Nat}{al:Nat→Bool}{rv rc:Nat→Nat}(hf:∀j,cT m.n a.L j→f j=m.f j)(hr:∀j,cT m.n a.L j→r j=m.r j)
 (hnx:∀j,cT m.n a.L j→nx j=m.nx j) (hpv:∀j,cT m.n a.L j→pv j=m.pv j) (ha:∀j,cT m.R a.R j→al j=m.al j) (hv:∀j,cT m.R a.R j→al j=true→rv j=m.rv j) (hc:∀j,cT m.R a.R j→rc j=m.rc j):
 WV { m with f:=f,r:=r,nx:=nx,pv:=pv,al:=al,rv:=rv,rc:=rc } a:=
 (h.mz (ic.refl m.n a.L) (fun _ _=>rfl) hf hr hnx hpv).gw ha hv hc
theorem WV.gz{m:Mp}{a:cw}(h:WV m a){q q2:Nat}(hq:cT m.R a.R q)(hl:m.al q=true)(h2:cT m.R a.R q2)(hne:q2≠q)(hc:m.rc q2=m.rc q):
 WV m { a with R:=fun k=>a.R k&&decide (k≠q),V:=fun k=>a.V k&&decide (k≠m.rv q) }:=by
 obtain⟨hv,hk⟩:=h.ra q hq hl
 obtain⟨uq,fk⟩:(∀q',cT m.R a.R q'→m.al q'=true→m.rv q'=m.rv q→q'=q)∧∀k,cT m.n a.L k→m.f k≠m.rv q:=by
  rcases h.va _ hv with⟨⟨p,_,hp⟩,hf⟩ | ⟨h3,_⟩
  ·refine⟨fun q' a1 a2 a3=>?_,hf⟩
   rw[hp q' a1 a2 a3,hp q hq hl rfl]
  ·exact absurd rfl (h3 q hq hl)
 refine { cg:=h.cg,hf:=fun k hk=>zE.2 ⟨h.hf k hk,fk k hk⟩,hn:=h.hn,hp:=h.hp,pn:=h.pn,np:=h.np,hr:=fun k hl=>zE.2 ⟨h.hr k hl,hk k hl⟩,rn:=h.rn,ff:=h.ff,rc:=fun q' hq'=>h.rc q' (zE.1 hq').1,ra:=fun q' hq' hl'=>?_,ro:=fun q' hq' hl'=>h.ro q' (zE.1 hq').1 hl',fc:=fun g hg=>?_,va:=fun u hu=>?_ }
 ·obtain⟨p1,p2⟩:=zE.1 hq'
  obtain⟨p3,p4⟩:=h.ra q' p1 hl'
  exact⟨zE.2 ⟨p3,fun e=>p2 (uq q' p1 hl' e)⟩,p4⟩
 ·obtain⟨p,p1,p2⟩:=h.fc g hg
  by_cases e:p=q
  ·exact⟨q2,zE.2 ⟨h2,hne⟩,by rw[hc,←e];exact p2⟩
  ·exact⟨p,zE.2 ⟨p1,e⟩,p2⟩
 ·obtain⟨u1,u2⟩:=zE.1 hu
  rcases h.va u u1 with⟨⟨p,⟨p1,p2,p3⟩,p4⟩,p5⟩ | ⟨p1,p2⟩
  ·exact .inl ⟨⟨p,⟨zE.2 ⟨p1,fun e=>u2 (by rw[←p3,e])⟩,p2,p3⟩,fun q' a1 a2 a3=>p4 q' (zE.1 a1).1 a2 a3⟩,p5⟩
  ·exact .inr ⟨fun q' a1 a2 a3=>p1 q' (zE.1 a1).1 a2 a3,p2⟩
theorem WV.ja{m:Mp}{a:cw}(h:WV m a){q w:Nat}(hq:q<m.R)(hq2:a.R q=false)(hl:m.al q=true)(hw:w<m.V)(hw2:a.V w=false)(hqw:m.rv q=w)(hc:cT m.F a.F (m.rc q)):
 WV m { a with R:=fun k=>a.R k||decide (k=q),V:=fun k=>a.V k||decide (k=w) }:=by
 have rq:∀k,cT m.n a.L k→m.r k≠q:=fun k hk e=>by have:=(h.hr k hk).2;rw[e,hq2] at this;cases this
 have fw:∀k,cT m.n a.L k→m.f k≠w:=fun k hk e=>by have:=(h.hf k hk).2;rw[e,hw2] at this;cases this
 have rw':∀p,cT m.R a.R p→m.al p=true→m.rv p≠w:=fun p hp hl e=>by have:=(h.ra p hp hl).1.2;rw[e,hw2] at this;cases this
 refine { cg:=h.cg,hf:=fun k hk=>(lL hw).2 (.inl (h.hf k hk)),hn:=h.hn,hp:=h.hp,pn:=h.pn,np:=h.np,hr:=fun k hl=>(lL hq).2 (.inl (h.hr k hl)),rn:=h.rn,ff:=h.ff,rc:=fun q' hq'=>?_,ra:=fun q' hq' hl'=>?_,ro:=fun q' hq' hl'=>?_,fc:=fun g hg=>?_,va:=fun u hu=>?_ }
 ·rcases(lL hq).1 hq' with h1 | h1
  ·exact h.rc q' h1
  ·rw[h1];exact hc
 ·rcases(lL hq).1 hq' with h1 | h1
  ·exact⟨(lL hw).2 (.inl (h.ra q' h1 hl').1),(h.ra q' h1 hl').2⟩
  ·rw[h1];exact⟨(lL hw).2 (.inr hqw),rq⟩
 ·rcases(lL hq).1 hq' with h1 | h1
  ·exact h.ro q' h1 hl'
  ·rw[h1,hl] at hl';cases hl'
 ·obtain⟨p,p1,p2⟩:=h.fc g hg
  exact⟨p,(lL hq).2 (.inl p1),p2⟩
 ·rcases(lL hw).1 hu with u1 | u1
  ·have uw:u≠w:=fun e=>by have:=u1.2;rw[e,hw2] at this;cases this
   rcases h.va u u1 with⟨⟨p,⟨p1,p2,p3⟩,p4⟩,p5⟩ | ⟨p1,p2⟩
   ·refine .inl ⟨⟨p,⟨(lL hq).2 (.inl p1),p2,p3⟩,fun q' a1 a2 a3=>?_⟩,p5⟩
    rcases(lL hq).1 a1 with h1 | h1
    ·exact p4 q' h1 a2 a3
    ·exact absurd (by rw[←a3,h1,hqw]) uw
   ·refine .inr ⟨fun q' a1 a2 a3=>?_,p2⟩
    rcases(lL hq).1 a1 with h1 | h1
    ·exact p1 q' h1 a2 a3
    ·exact uw (by rw[←a3,h1,hqw])
  ·rw[u1]
   refine .inl ⟨⟨q,⟨(lL hq).2 (.inr rfl),hl,hqw⟩,fun q' a1 a2 a3=>?_⟩,fw⟩
   rcases(lL hq).1 a1 with h1 | h1
   ·exact absurd a3 (rw' q' h1 a2)
   ·exact h1
end Go.Eng.Tl
set_option linter.unusedSectionVars false
namespace Go.Eng.Tl
open Go.Eng
theorem bx.put{f g:Nat→Nat}{n n':Nat}{P P':Nat→Bool}(h:bx f n P){x a:Nat}(hx:cT n P x)(ha:¬cT n P a)(gx:g x=a)(ga:g a=f x)(ge:∀y,cT n P y→y≠x→g y=f y)(hP:∀y,cT n' P' y↔cT n P y∨y=a):bx g n' P':=by
 obtain⟨m,hm,cm⟩:=h.at hx.1 hx.2
 obtain⟨n1,n2⟩:=cY.1 hm.2
 have ham:a∉x::m:=fun e=>ha ((cm a).1 e)
 refine⟨x,a::m,⟨⟨gx,AO hm.1 (fun y hy=>ge y ((cm y).1 (eQ _ hy)) fun e=>n1 (e▸hy)) ga⟩,?_⟩,fun y=>?_⟩
 ·refine cY.2 ⟨fun e=>?_,cY.2 ⟨fun e=>ham (eQ _ e),n2⟩⟩
  rcases cN.1 e with e | e
  ·exact ham (by rw[←e];simp)
  ·exact n1 e
 ·refine EO ?_ (hP y).symm
  have h1:y∈x::m↔cT n P y:=cm y
  rw[←h1]
  simp only[cN]
  constructor
  ·rintro (h | h | h)
   ·exact .inl (.inl h)
   ·exact .inr h
   ·exact .inl (.inr h)
  ·rintro ((h | h) | h)
   ·exact .inl h
   ·exact .inr (.inr h)
   ·exact .inr (.inl h)
theorem gT{n:Nat}{f:Nat→Nat}{u k:Nat}:cT n (fun k=>true&&decide (f k=u)) k↔k<n∧f k=u:=by
 show (k<n∧(true&&decide (f k=u))=true)↔_
 rw[fM,cK]
structure ox (m:Mp) (b w x y:Nat) (f nx pv r:Nat→Nat):Prop where
 f0:∀k,k<m.n→f k=m.f k
 fx:f x=m.f b
 fy:f y=w
 n0:∀k,k<m.n→k≠m.pv b→nx k=m.nx k
 n1:nx (m.pv b)=x
 n2:nx x=y
 n3:nx y=b
 p0:∀k,k<m.n→k≠b→pv k=m.pv k
 p1:pv b=y
 p2:pv y=x
 p3:pv x=m.pv b
 r0:∀k,k<m.n→r k=m.r k
 rx:r x=m.r b
 ry:r y=m.r b
theorem WV.ni{m:Mp}{R V F:Nat→Bool}(h:WV m ⟨fun _=>true,R,V,F⟩)(he:m.n%2=0){b w x y:Nat}(hb:b<m.n)(hx:x=m.n∨x=m.n+1)(hy:y=mt x)(hw:w<m.V)(hw2:V w=false){f nx pv r:Nat→Nat}(s:ox m b w x y f nx pv r):
 WV { m with n:=m.n+2,f:=f,r:=r,nx:=nx,pv:=pv } ⟨fun _=>true,R,fun k=>V k||decide (k=w),F⟩:=by
 have hmx:mt x=y:=hy.symm
 have hmy:mt y=x:=by rw[hy,qA]
 have hy2:y=m.n∨y=m.n+1:=by have:=nH x;have:=oY x;omega
 have hxy:x≠y:=fun e=>rW x (by rw[hmx,e])
 have df:∀k,k<m.n+2→k<m.n∨k=x∨k=y:=fun k hk=>by omega
 obtain⟨pb,pb2⟩:m.pv b<m.n∧m.nx (m.pv b)=b:=⟨(h.hp b ⟨hb,rfl⟩).1,h.np b ⟨hb,rfl⟩⟩
 have nxl:∀k,k<m.n→m.nx k<m.n:=fun k hk=>(h.hn k ⟨hk,rfl⟩).1
 have pvl:∀k,k<m.n→m.pv k<m.n:=fun k hk=>(h.hp k ⟨hk,rfl⟩).1
 have ml:∀k,k<m.n→mt k<m.n:=fun k hk=>(h.cg k ⟨hk,rfl⟩).1
 have nC:∀k,k<m.n+2→(k<m.n∧k≠m.pv b∧nx k=m.nx k∧m.nx k≠b)∨(k=m.pv b∧nx k=x)∨(k=x∧nx k=y)∨(k=y∧nx k=b):=fun k hk=>by
  rcases df k hk with h1 | h1 | h1
  ·by_cases e:k=m.pv b
   ·exact .inr (.inl ⟨e,by rw[e];exact s.n1⟩)
   ·exact .inl ⟨h1,e,s.n0 k h1 e,fun e2=>e (by rw[←e2];exact(h.pn k ⟨h1,rfl⟩).symm)⟩
  ·exact .inr (.inr (.inl ⟨h1,by rw[h1];exact s.n2⟩))
  ·exact .inr (.inr (.inr ⟨h1,by rw[h1];exact s.n3⟩))
 have pC:∀k,k<m.n+2→(k<m.n∧k≠b∧pv k=m.pv k∧m.pv k≠m.pv b)∨(k=b∧pv k=y)∨(k=x∧pv k=m.pv b)∨(k=y∧pv k=x):=fun k hk=>by
  rcases df k hk with h1 | h1 | h1
  ·by_cases e:k=b
   ·exact .inr (.inl ⟨e,by rw[e];exact s.p1⟩)
   ·exact .inl ⟨h1,e,s.p0 k h1 e,fun e2=>e (by rw[←h.np k ⟨h1,rfl⟩,e2];exact pb2)⟩
  ·exact .inr (.inr (.inl ⟨h1,by rw[h1];exact s.p3⟩))
  ·exact .inr (.inr (.inr ⟨h1,by rw[h1];exact s.p2⟩))
 have fw:∀k,k<m.n→m.f k≠w:=fun k hk e=>by have q:V (m.f k)=true:=(h.hf k ⟨hk,rfl⟩).2;rw[e,hw2] at q;cases q
 have rp:m.r (m.pv b)=m.r b:=by have:=h.rn _ ⟨pb,rfl⟩;rw[pb2] at this;exact this.symm
 have rl:∀k,k<m.n+2→cT m.R R (r k)∧((k<m.n∧r k=m.r k)∨r k=m.r b):=fun k hk=>by
  rcases df k hk with h1 | h1 | h1
  ·rw[s.r0 k h1];exact⟨h.hr k ⟨h1,rfl⟩,.inl ⟨h1,rfl⟩⟩
  ·rw[h1,s.rx];exact⟨h.hr b ⟨hb,rfl⟩,.inr rfl⟩
  ·rw[h1,s.ry];exact⟨h.hr b ⟨hb,rfl⟩,.inr rfl⟩
 have nal:m.al (m.r b)=false:=by
  cases hq:m.al (m.r b) with
  | false=>rfl
  | true=>exact absurd rfl ((h.ra _ (h.hr b ⟨hb,rfl⟩) hq).2 b ⟨hb,rfl⟩)
 refine { cg:=fun k hk=>⟨?_,rfl⟩,hf:=fun k hk=>?_,hn:=fun k hk=>⟨?_,rfl⟩,hp:=fun k hk=>⟨?_,rfl⟩,pn:=fun k hk=>?_,np:=fun k hk=>?_,hr:=fun k hk=>(rl k hk.1).1,rn:=fun k hk=>?_,ff:=fun k hk=>?_,rc:=h.rc,ra:=fun q hq hl=>?_,ro:=fun q hq hl=>?_,fc:=h.fc,va:=fun u hu=>?_ }
 ·exact kS (by show (m.n+2)%2=0;omega) hk.1
 ·refine(lL hw).2 ?_
  rcases df k hk.1 with h1 | h1 | h1
  ·exact .inl (by show cT m.V V (f k);rw[s.f0 k h1];exact h.hf k ⟨h1,rfl⟩)
  ·exact .inl (by show cT m.V V (f k);rw[h1,s.fx];exact h.hf b ⟨hb,rfl⟩)
  ·exact .inr (by rw[h1];exact s.fy)
 ·show nx k<m.n+2
  rcases nC k hk.1 with⟨h1,_,e,_⟩ | ⟨_,e⟩ | ⟨_,e⟩ | ⟨_,e⟩
  ·rw[e];have:=nxl k h1;omega
  all_goals omega
 ·show pv k<m.n+2
  rcases pC k hk.1 with⟨h1,_,e,_⟩ | ⟨_,e⟩ | ⟨_,e⟩ | ⟨_,e⟩
  ·rw[e];have:=pvl k h1;omega
  all_goals omega
 ·show pv (nx k)=k
  rcases nC k hk.1 with⟨h1,_,e,e2⟩ | ⟨e1,e⟩ | ⟨e1,e⟩ | ⟨e1,e⟩
  ·rw[e,s.p0 _ (nxl k h1) e2];exact h.pn k ⟨h1,rfl⟩
  ·rw[e,e1];exact s.p3
  ·rw[e,e1];exact s.p2
  ·rw[e,e1];exact s.p1
 ·show nx (pv k)=k
  rcases pC k hk.1 with⟨h1,_,e,e2⟩ | ⟨e1,e⟩ | ⟨e1,e⟩ | ⟨e1,e⟩
  ·rw[e,s.n0 _ (pvl k h1) e2];exact h.np k ⟨h1,rfl⟩
  ·rw[e,e1];exact s.n3
  ·rw[e,e1];exact s.n1
  ·rw[e,e1];exact s.n2
 ·show r (nx k)=r k
  rcases nC k hk.1 with⟨h1,_,e,e2⟩ | ⟨e1,e⟩ | ⟨e1,e⟩ | ⟨e1,e⟩
  ·rw[e,s.r0 _ (nxl k h1),s.r0 k h1];exact h.rn k ⟨h1,rfl⟩
  ·rw[e,e1,s.rx,s.r0 _ pb,rp]
  ·rw[e,e1,s.rx,s.ry]
  ·rw[e,e1,s.ry,s.r0 b hb]
 ·show f (nx k)=f (mt k)
  rcases nC k hk.1 with⟨h1,_,e,e2⟩ | ⟨e1,e⟩ | ⟨e1,e⟩ | ⟨e1,e⟩
  ·rw[e,s.f0 _ (nxl k h1),s.f0 _ (ml k h1)];exact h.ff k ⟨h1,rfl⟩
  ·have:=h.ff _ ⟨pb,rfl⟩
   rw[pb2] at this
   rw[e,e1,s.fx,s.f0 _ (ml _ pb)];exact this
  ·rw[e,e1,hmx]
  ·rw[e,e1,hmy,s.fx,s.f0 b hb]
 ·obtain⟨h1,h2⟩:=h.ra q hq hl
  refine⟨(lL hw).2 (.inl h1),fun k hk=>?_⟩
  show r k≠q
  rcases(rl k hk.1).2 with⟨h3,h4⟩ | h4
  ·rw[h4];exact h2 k ⟨h3,rfl⟩
  ·rw[h4];exact h2 b ⟨hb,rfl⟩
 ·have ho:bx m.nx m.n (fun k=>true&&decide (m.r k=q)):=h.ro q hq hl
  show bx nx (m.n+2) (fun k=>true&&decide (r k=q))
  by_cases hq1:q=m.r b
  ·have h1:bx (fun k=>if k=m.pv b then x else if k=x then b else m.nx k) (m.n+2) (fun k=>decide (k≠y)&&decide (r k=q)):=by
    refine ho.put (x:=m.pv b) (a:=x) (gT.2 ⟨pb,by rw[rp,hq1]⟩) (fun e=>by have:=(gT.1 e).1;omega) ?_ ?_ (fun z hz hne=>?_) fun z=>?_
    ·simp only[eP]
    ·have:x≠m.pv b:=by omega
     simp only[aA this,eP];exact pb2.symm
    ·have:=(gT.1 hz).1
     have:z≠x:=by omega
     simp only[aA hne,aA this]
    ·rw[gT,EA,cK]
     unfold cT
     rw[cK]
     constructor
     ·rintro ⟨⟨h1,h2⟩,h3⟩
      rcases df z h1 with h4 | h4 | h4
      ·exact .inl ⟨h4,by rw[←s.r0 z h4];exact h3⟩
      ·exact .inr h4
      ·exact absurd h4 h2
     ·rintro (⟨h1,h2⟩ | h1)
      ·exact⟨⟨by omega,by omega⟩,by rw[s.r0 z h1];exact h2⟩
      ·exact⟨⟨by omega,by omega⟩,by rw[h1,s.rx,hq1]⟩
   refine h1.put (x:=x) (a:=y) ?_ (fun e=>?_) s.n2 ?_ (fun z hz hne=>?_) fun z=>?_
   ·rw[EA,cK];unfold cT;rw[cK];exact⟨⟨by omega,hxy⟩,by rw[s.rx,hq1]⟩
   ·rw[EA] at e;exact(cH e.1.2) rfl
   ·have:x≠m.pv b:=by omega
    simp only[aA this,eP];exact s.n3
   ·rw[EA,cK] at hz
    obtain⟨⟨z1,z2⟩,_⟩:=hz
    have z2:z≠y:=cH z2
    rcases nC z z1 with⟨a1,a2,a3,_⟩ | ⟨a1,a2⟩ | ⟨a1,_⟩ | ⟨a1,_⟩
    ·simp only[aA a2,aA hne];exact a3
    ·simp only[aC a1];exact a2
    ·exact absurd a1 hne
    ·exact absurd a1 z2
   ·rw[gT,EA,cK]
    unfold cT
    rw[cK]
    constructor
    ·rintro ⟨h2,h3⟩
     by_cases e:z=y
     ·exact .inr e
     ·exact .inl ⟨⟨h2,e⟩,h3⟩
    ·rintro (⟨⟨h2,_⟩,h3⟩ | h2)
     ·exact⟨h2,h3⟩
     ·exact⟨by omega,by rw[h2,s.ry,hq1]⟩
  ·refine ho.ext (fun z hz hp=>?_) fun z=>(gT (n:=m.n+2) (f:=r) (u:=q)).trans (EO ?_ (gT (n:=m.n) (f:=m.r) (u:=q)).symm)
   ·have hp:m.r z=q:=(gT (f:=m.r)).1 ⟨hz,hp⟩ |>.2
    exact s.n0 z hz fun e=>hq1 (by rw[←hp,e,rp])
   ·constructor
    ·rintro ⟨h1,h2⟩
     rcases(rl z h1).2 with⟨h3,h4⟩ | h4
     ·exact⟨h3,by rw[←h4];exact h2⟩
     ·exact absurd (h2.symm.trans h4) hq1
    ·rintro ⟨h1,h2⟩
     exact⟨by omega,by rw[s.r0 z h1];exact h2⟩
 ·show (_∧_)∨(_∧bx (fun k=>mt (pv k)) (m.n+2) (fun k=>true&&decide (f k=u)))
  rcases(lL hw).1 hu with u1 | u1
  ·have uw:u≠w:=fun e=>by have q:V u=true:=u1.2;rw[e,hw2] at q;cases q
   rcases h.va u u1 with⟨p1,p2⟩ | ⟨p1,p2⟩
   ·refine .inl ⟨p1,fun k hk=>?_⟩
    show f k≠u
    rcases df k hk.1 with h1 | h1 | h1
    ·rw[s.f0 k h1];exact p2 k ⟨h1,rfl⟩
    ·rw[h1,s.fx];exact p2 b ⟨hb,rfl⟩
    ·rw[h1,s.fy];exact uw.symm
   ·refine .inr ⟨p1,?_⟩
    have p2:bx m.sg m.n (fun k=>true&&decide (m.f k=u)):=p2
    by_cases hu2:u=m.f b
    ·refine p2.put (x:=b) (a:=x) (gT.2 ⟨hb,hu2.symm⟩) (fun e=>by have:=(gT.1 e).1;omega) ?_ ?_ (fun z hz hne=>?_) fun z=>?_
     ·show mt (pv b)=x;rw[s.p1,hmy]
     ·show mt (pv x)=mt (m.pv b);rw[s.p3]
     ·show mt (pv z)=mt (m.pv z);rw[s.p0 z (gT.1 hz).1 hne]
     ·rw[gT,gT]
      constructor
      ·rintro ⟨h1,h2⟩
       rcases df z h1 with h3 | h3 | h3
       ·exact .inl ⟨h3,by rw[←s.f0 z h3];exact h2⟩
       ·exact .inr h3
       ·exact absurd (by rw[←h2,h3,s.fy]) uw
      ·rintro (⟨h1,h2⟩ | h1)
       ·exact⟨by omega,by rw[s.f0 z h1];exact h2⟩
       ·exact⟨by omega,by rw[h1,s.fx,hu2]⟩
    ·refine p2.ext (fun z hz hp=>?_) fun z=>(gT (n:=m.n+2) (f:=f) (u:=u)).trans (EO ?_ (gT (n:=m.n) (f:=m.f) (u:=u)).symm)
     ·have hp:m.f z=u:=(gT (f:=m.f)).1 ⟨hz,hp⟩ |>.2
      show mt (pv z)=mt (m.pv z)
      rw[s.p0 z hz fun e=>hu2 (by rw[←hp,e])]
     ·constructor
      ·rintro ⟨h1,h2⟩
       rcases df z h1 with h3 | h3 | h3
       ·exact⟨h3,by rw[←s.f0 z h3];exact h2⟩
       ·exact absurd (by rw[←h2,h3,s.fx]) hu2
       ·exact absurd (by rw[←h2,h3,s.fy]) uw
      ·rintro ⟨h1,h2⟩
       exact⟨by omega,by rw[s.f0 z h1];exact h2⟩
  ·rw[u1]
   refine .inr ⟨fun q hq hl e=>?_,bx.one (a:=y) (by show mt (pv y)=y;rw[s.p2,hmx]) fun z=>(gT (n:=m.n+2) (f:=f) (u:=w)).trans ?_⟩
   ·have q2:V (m.rv q)=true:=(h.ra q hq hl).1.2
    have e:m.rv q=w:=e
    rw[e,hw2] at q2;cases q2
   ·constructor
    ·rintro ⟨h1,h2⟩
     rcases df z h1 with h3 | h3 | h3
     ·exact absurd (by rw[←s.f0 z h3];exact h2) (fw z h3)
     ·exact absurd (by rw[←s.fx,←h3];exact h2) (fw b hb)
     ·exact h3
    ·intro h1
     exact⟨by omega,by rw[h1];exact s.fy⟩
end Go.Eng.Tl
set_option linter.unusedSectionVars false
namespace Go.Eng.Tl
open Go.Eng
structure nj (m:Mp) (q w:Nat) (f nx pv r:Nat→Nat) (al:Nat→Bool) (rv:Nat→Nat):Prop where
 f0:∀k,k<m.n→f k=m.f k
 fx:f m.n=m.rv q
 fy:f (m.n+1)=w
 n0:∀k,k<m.n→nx k=m.nx k
 n1:nx m.n=m.n+1
 n2:nx (m.n+1)=m.n
 p0:∀k,k<m.n→pv k=m.pv k
 p1:pv m.n=m.n+1
 p2:pv (m.n+1)=m.n
 r0:∀k,k<m.n→r k=m.r k
 rx:r m.n=q
 ry:r (m.n+1)=q
 aq:al q=false
 a0:∀p,p<m.R→p≠q→al p=m.al p
 v0:∀p,p<m.R→p≠q→al p=true→rv p=m.rv p
theorem WV.lf{m:Mp}{R V F:Nat→Bool}(h:WV m ⟨fun _=>true,R,V,F⟩)(he:m.n%2=0){q w:Nat}(hq:cT m.R R q)(hl:m.al q=true)(hw:w<m.V)(hw2:V w=false){f nx pv r:Nat→Nat}{al:Nat→Bool}{rv:Nat→Nat}(s:nj m q w f nx pv r al rv):
 WV { m with n:=m.n+2,f:=f,r:=r,nx:=nx,pv:=pv,al:=al,rv:=rv } ⟨fun _=>true,R,fun k=>V k||decide (k=w),F⟩:=by
 have hmx:mt m.n=m.n+1:=by have:=nH m.n;have:=oY m.n;omega
 have hmy:mt (m.n+1)=m.n:=by have:=nH (m.n+1);have:=oY (m.n+1);omega
 have df:∀k,k<m.n+2→k<m.n∨k=m.n∨k=m.n+1:=fun k hk=>by omega
 have nxl:∀k,k<m.n→m.nx k<m.n:=fun k hk=>(h.hn k ⟨hk,rfl⟩).1
 have pvl:∀k,k<m.n→m.pv k<m.n:=fun k hk=>(h.hp k ⟨hk,rfl⟩).1
 have ml:∀k,k<m.n→mt k<m.n:=fun k hk=>(h.cg k ⟨hk,rfl⟩).1
 obtain⟨hv,rq⟩:=h.ra q hq hl
 have rq:∀k,k<m.n→m.r k≠q:=fun k hk=>rq k ⟨hk,rfl⟩
 have hv:cT m.V V (m.rv q):=hv
 obtain⟨uq,fk⟩:(∀q',cT m.R R q'→m.al q'=true→m.rv q'=m.rv q→q'=q)∧∀k,k<m.n→m.f k≠m.rv q:=by
  rcases h.va _ hv with⟨⟨p,_,hp⟩,hf⟩ | ⟨h3,_⟩
  ·refine⟨fun q' a1 a2 a3=>?_,fun k hk=>hf k ⟨hk,rfl⟩⟩
   rw[hp q' a1 a2 a3,hp q hq hl rfl]
  ·exact absurd rfl (h3 q hq hl)
 have vw:m.rv q≠w:=fun e=>by have q:=hv.2;rw[e,hw2] at q;cases q
 have fw:∀k,k<m.n→m.f k≠w:=fun k hk e=>by have q:V (m.f k)=true:=(h.hf k ⟨hk,rfl⟩).2;rw[e,hw2] at q;cases q
 have rl:∀k,k<m.n+2→(k<m.n∧r k=m.r k)∨((k=m.n∨k=m.n+1)∧r k=q):=fun k hk=>by
  rcases df k hk with h1 | h1 | h1
  ·exact .inl ⟨h1,s.r0 k h1⟩
  ·exact .inr ⟨.inl h1,by rw[h1];exact s.rx⟩
  ·exact .inr ⟨.inr h1,by rw[h1];exact s.ry⟩
 have old:∀p,p<m.R→al p=true→p≠q∧m.al p=true∧rv p=m.rv p:=fun p hp hp2=>by
  have hne:p≠q:=fun e=>by rw[e,s.aq] at hp2;cases hp2
  exact⟨hne,by rw[←s.a0 p hp hne];exact hp2,s.v0 p hp hne hp2⟩
 refine { cg:=fun k hk=>⟨?_,rfl⟩,hf:=fun k hk=>?_,hn:=fun k hk=>⟨?_,rfl⟩,hp:=fun k hk=>⟨?_,rfl⟩,pn:=fun k hk=>?_,np:=fun k hk=>?_,hr:=fun k hk=>?_,rn:=fun k hk=>?_,ff:=fun k hk=>?_,rc:=h.rc,ra:=fun p hp hl2=>?_,ro:=fun p hp hl2=>?_,fc:=h.fc,va:=fun u hu=>?_ }
 ·exact kS (by show (m.n+2)%2=0;omega) hk.1
 ·refine(lL hw).2 ?_
  rcases df k hk.1 with h1 | h1 | h1
  ·exact .inl (by show cT m.V V (f k);rw[s.f0 k h1];exact h.hf k ⟨h1,rfl⟩)
  ·exact .inl (by show cT m.V V (f k);rw[h1,s.fx];exact hv)
  ·exact .inr (by rw[h1];exact s.fy)
 ·show nx k<m.n+2
  rcases df k hk.1 with h1 | h1 | h1
  ·rw[s.n0 k h1];have:=nxl k h1;omega
  ·rw[h1,s.n1];omega
  ·rw[h1,s.n2];omega
 ·show pv k<m.n+2
  rcases df k hk.1 with h1 | h1 | h1
  ·rw[s.p0 k h1];have:=pvl k h1;omega
  ·rw[h1,s.p1];omega
  ·rw[h1,s.p2];omega
 ·show pv (nx k)=k
  rcases df k hk.1 with h1 | h1 | h1
  ·rw[s.n0 k h1,s.p0 _ (nxl k h1)];exact h.pn k ⟨h1,rfl⟩
  ·rw[h1,s.n1,s.p2]
  ·rw[h1,s.n2,s.p1]
 ·show nx (pv k)=k
  rcases df k hk.1 with h1 | h1 | h1
  ·rw[s.p0 k h1,s.n0 _ (pvl k h1)];exact h.np k ⟨h1,rfl⟩
  ·rw[h1,s.p1,s.n2]
  ·rw[h1,s.p2,s.n1]
 ·show cT m.R R (r k)
  rcases rl k hk.1 with⟨h1,h2⟩ | ⟨_,h2⟩
  ·rw[h2];exact h.hr k ⟨h1,rfl⟩
  ·rw[h2];exact hq
 ·show r (nx k)=r k
  rcases df k hk.1 with h1 | h1 | h1
  ·rw[s.n0 k h1,s.r0 _ (nxl k h1),s.r0 k h1];exact h.rn k ⟨h1,rfl⟩
  ·rw[h1,s.n1,s.rx,s.ry]
  ·rw[h1,s.n2,s.rx,s.ry]
 ·show f (nx k)=f (mt k)
  rcases df k hk.1 with h1 | h1 | h1
  ·rw[s.n0 k h1,s.f0 _ (nxl k h1),s.f0 _ (ml k h1)];exact h.ff k ⟨h1,rfl⟩
  ·rw[h1,s.n1,hmx]
  ·rw[h1,s.n2,hmy]
 ·obtain⟨h1,h2,h3⟩:=old p hp.1 hl2
  obtain⟨h4,h5⟩:=h.ra p hp h2
  refine⟨(lL hw).2 (.inl (by show cT m.V V (rv p);rw[h3];exact h4)),fun k hk=>?_⟩
  show r k≠p
  rcases rl k hk.1 with⟨h6,h7⟩ | ⟨_,h7⟩
  ·rw[h7];exact h5 k ⟨h6,rfl⟩
  ·rw[h7];exact h1.symm
 ·show bx nx (m.n+2) (fun k=>true&&decide (r k=p))
  have hl2:al p=false:=hl2
  by_cases e:p=q
  ·refine⟨m.n,[m.n+1],⟨⟨s.n1,s.n2⟩,by simp⟩,fun z=>EO ?_ (gT (n:=m.n+2) (f:=r) (u:=p)).symm⟩
   simp only[cN,JF,FB]
   constructor
   ·rintro (h1 | h1)
    ·exact⟨by omega,by rw[h1,e];exact s.rx⟩
    ·exact⟨by omega,by rw[h1,e];exact s.ry⟩
   ·rintro ⟨h1,h2⟩
    rcases rl z h1 with⟨h3,h4⟩ | ⟨h3,_⟩
    ·exact absurd (by rw[←h4,h2,e]) (rq z h3)
    ·exact h3
  ·refine(h.ro p hp (by rw[←s.a0 p hp.1 e];exact hl2)).ext (fun z hz _=>s.n0 z hz) fun z=>(gT (n:=m.n+2) (f:=r) (u:=p)).trans (EO ?_ (gT (n:=m.n) (f:=m.r) (u:=p)).symm)
   constructor
   ·rintro ⟨h1,h2⟩
    rcases rl z h1 with⟨h3,h4⟩ | ⟨_,h4⟩
    ·exact⟨h3,by rw[←h4];exact h2⟩
    ·exact absurd (h2.symm.trans h4) e
   ·rintro ⟨h1,h2⟩
    exact⟨by omega,by rw[s.r0 z h1];exact h2⟩
 ·show (_∧∀k,_→f k≠u)∨((∀p,cT m.R R p→al p=true→rv p≠u)∧bx (fun k=>mt (pv k)) (m.n+2) (fun k=>true&&decide (f k=u)))
  rcases(lL hw).1 hu with u1 | u1
  ·have uw:u≠w:=fun e=>by have q:V u=true:=u1.2;rw[e,hw2] at q;cases q
   by_cases e:u=m.rv q
   ·refine .inr ⟨fun p hp hl2 e2=>?_,bx.one (a:=m.n) (by show mt (pv m.n)=m.n;rw[s.p1,hmy]) fun z=>(gT (n:=m.n+2) (f:=f) (u:=u)).trans ?_⟩
    ·obtain⟨h1,h2,h3⟩:=old p hp.1 hl2
     exact h1 (uq p hp h2 (by rw[←h3,e2,e]))
    ·constructor
     ·rintro ⟨h1,h2⟩
      rcases df z h1 with h3 | h3 | h3
      ·exact absurd (by rw[←s.f0 z h3,h2,e]) (fk z h3)
      ·exact h3
      ·exact absurd (by rw[←h2,h3,s.fy]) uw
     ·intro h1
      exact⟨by omega,by rw[h1,e];exact s.fx⟩
   ·rcases h.va u u1 with⟨⟨p,⟨p1,p2,p3⟩,p4⟩,p5⟩ | ⟨p1,p2⟩
    ·have hne:p≠q:=fun e2=>e (by rw[←p3,e2])
     have hap:al p=true:=by rw[s.a0 p p1.1 hne];exact p2
     refine .inl ⟨⟨p,⟨p1,hap,?_⟩,fun q' a1 a2 a3=>?_⟩,fun k hk=>?_⟩
     ·show rv p=u;rw[s.v0 p p1.1 hne hap];exact p3
     ·obtain⟨h1,h2,h3⟩:=old q' a1.1 a2
      exact p4 q' a1 h2 (by rw[←h3];exact a3)
     ·rcases df k hk.1 with h1 | h1 | h1
      ·rw[s.f0 k h1];exact p5 k ⟨h1,rfl⟩
      ·rw[h1,s.fx];exact fun e2=>e e2.symm
      ·rw[h1,s.fy];exact uw.symm
    ·refine .inr ⟨fun p hp hl2 e2=>?_,p2.ext (fun z hz _=>by show mt (pv z)=mt (m.pv z);rw[s.p0 z hz]) fun z=>(gT (n:=m.n+2) (f:=f) (u:=u)).trans (EO ?_ (gT (n:=m.n) (f:=m.f) (u:=u)).symm)⟩
     ·obtain⟨h1,h2,h3⟩:=old p hp.1 hl2
      exact p1 p hp h2 (by rw[←h3];exact e2)
     ·constructor
      ·rintro ⟨h1,h2⟩
       rcases df z h1 with h3 | h3 | h3
       ·exact⟨h3,by rw[←s.f0 z h3];exact h2⟩
       ·exact absurd (by rw[←h2,h3,s.fx]) e
       ·exact absurd (by rw[←h2,h3,s.fy]) uw
      ·rintro ⟨h1,h2⟩
       exact⟨by omega,by rw[s.f0 z h1];exact h2⟩
  ·rw[u1]
   refine .inr ⟨fun p hp hl2 e2=>?_,bx.one (a:=m.n+1) (by show mt (pv (m.n+1))=m.n+1;rw[s.p2,hmx]) fun z=>(gT (n:=m.n+2) (f:=f) (u:=w)).trans ?_⟩
   ·obtain⟨h1,h2,h3⟩:=old p hp.1 hl2
    have q2:V (m.rv p)=true:=(h.ra p hp h2).1.2
    rw[←h3,e2,hw2] at q2;cases q2
   ·constructor
    ·rintro ⟨h1,h2⟩
     rcases df z h1 with h3 | h3 | h3
     ·exact absurd (by rw[←s.f0 z h3];exact h2) (fw z h3)
     ·exact absurd (by rw[←s.fx,←h3];exact h2) vw
     ·exact h3
    ·intro h1
     exact⟨by omega,by rw[h1];exact s.fy⟩
end Go.Eng.Tl
set_option linter.unusedSectionVars false
namespace Go.Eng.Tl
open Go.Eng
theorem KA{n a:Nat}{f:Nat→Nat}{u k:Nat}:cT n (fun k=>CH a k&&decide (f k=u)) k↔(k<n∧k≠a∧k≠mt a)∧f k=u:=by
 rw[EA,fY,cK]
theorem WV.oy{m:Mp}{a a0 b0:Nat}{A B:List Nat}{nx pv r:Nat→Nat}{al:Nat→Bool}{rv rc:Nat→Nat}(h:WV m vG)(g:bc m a nx pv)(ha:a<m.n)(hc:bz m.nx a ((a0::A)++mt a::(b0::B)))
 (hm:∀y,y∈a::((a0::A)++mt a::(b0::B))↔y<m.n∧m.r y=m.r a) (hr:∀k,k<m.n→r k=if k∈a0::A then m.R else m.r k)
 (bn:∀q,q<m.R→al q=m.al q) (halR:al m.R=false) (hrv:∀q,q<m.R→al q=true→rv q=m.rv q) (hrc:∀q,q<m.R→rc q=m.rc q) (hrcR:rc m.R=m.rc (m.r a)):
 WV { m with R:=m.R+1,nx:=nx,pv:=pv,r:=r,al:=al,rv:=rv,rc:=rc } ⟨CH a,fun _=>true,fun _=>true,fun _=>true⟩:=by
 have hne:mt a≠a:=rW a
 obtain⟨P1,P2⟩:=kA.1 hc.1
 have na:m.nx a=a0:=P1.1
 have nb:m.nx (mt a)=b0:=P2.1
 have hnd:((a::a0::A)++(mt a::b0::B)).Nodup:=hc.2
 obtain⟨n1,n2,n3⟩:=rT.1 hnd
 have a0a:a0≠a:=fun e=>(cY.1 n1).1 (by rw[←e];simp)
 have b0b:b0≠mt a:=fun e=>(cY.1 n2).1 (by rw[←e];simp)
 have hl:¬(m.nx a=a∧m.nx (mt a)=mt a):=fun⟨h1,_⟩=>a0a (na.symm.trans h1)
 have hb:=bc.b h g ha hl
 have N:∀k,k<m.n→m.nx k<m.n:=fun k hk=>bc.N h g ha hl hk
 have PN:∀k,k<m.n→m.pv (m.nx k)=k:=fun k hk=>bc.PN h g ha hl hk
 have inj:∀y z,y<m.n→z<m.n→m.nx y=m.nx z→y=z:=fun y z hy hz e=>by rw[←PN y hy,e,PN z hz]
 have mA:∀y,y∈a0::A→(y<m.n∧m.r y=m.r a)∧y≠a∧y≠mt a:=fun y hy=>⟨(hm y).1 (by
  have:y∈a::a0::A:=eQ _ hy
  have:y∈(a::a0::A)++(mt a::b0::B):=EL _ this
  exact this),fun e=>(cY.1 n1).1 (e▸hy),fun e=>n3 y (eQ _ hy) (mt a) (by simp) e⟩
 have mB:∀y,y∈b0::B→(y<m.n∧m.r y=m.r a)∧y≠a∧y≠mt a:=fun y hy=>⟨(hm y).1 (by
  have:y∈mt a::b0::B:=eQ _ hy
  have:y∈(a::a0::A)++(mt a::b0::B):=IK _ this
  exact this),fun e=>n3 a (by simp) y (eQ _ hy) e.symm,fun e=>(cY.1 n2).1 (e▸hy)⟩
 have dAB:∀y,y∈a0::A→y∉b0::B:=fun y h1 h2=>n3 y (eQ _ h1) y (eQ _ h2) rfl
 have mAB:∀y,y<m.n→m.r y=m.r a→y≠a→y≠mt a→y∈a0::A∨y∈b0::B:=fun y h1 h2 h3 h4=>by
  have h5:y∈(a::a0::A)++(mt a::b0::B):=(hm y).2 ⟨h1,h2⟩
  rcases fK.1 h5 with h6 | h6
  ·rcases cN.1 h6 with h7 | h7
   ·exact absurd h7 h3
   ·exact .inl h7
  ·rcases cN.1 h6 with h7 | h7
   ·exact absurd h7 h4
   ·exact .inr h7
 have rb:m.r (mt a)=m.r a:=((hm (mt a)).1 (by simp)).2
 have lA:m.nx (rR a0 A A.length)=mt a:=nX (x:=a) P1
 have lB:m.nx (rR b0 B B.length)=a:=nX (x:=mt a) P2
 have atA:rR a0 A A.length∈a0::A:=lS (by simp)
 have atB:rR b0 B B.length∈b0::B:=lS (by simp)
 have b0a:b0≠a:=(mB b0 (by simp)).2.1
 have a0b:a0≠mt a:=(mA a0 (by simp)).2.2
 have sk:∀k,k<m.n→k≠a→k≠mt a→(m.nx k=a∧nx k=b0)∨(m.nx k=mt a∧nx k=a0)∨(m.nx k≠a∧m.nx k≠mt a∧nx k=m.nx k):=fun k hk ka kb=>by
  rw[g.n k hk ka kb]
  rcases sQ N PN ha hb hne.symm hl hk ka kb with⟨_,e2,_⟩ | ⟨e1,_,e4⟩ | ⟨_,e2,_⟩ | ⟨e1,_,e4⟩ | ⟨e1,e2,e4⟩
  ·exact absurd (nb.symm.trans e2) b0b
  ·exact .inl ⟨e1,by rw[e4,nb]⟩
  ·exact absurd (na.symm.trans e2) a0a
  ·exact .inr (.inl ⟨e1,by rw[e4,na]⟩)
  ·exact .inr (.inr ⟨e1,e2,e4⟩)
 have cA:bz nx a0 A:=by
  refine⟨oL (f:=m.nx) P1.2 (cY.1 n1).2 (fun y hy hne2=>?_) ?_,(cY.1 n1).2⟩
  ·obtain⟨⟨h1,h2⟩,h3,h4⟩:=mA y hy
   rcases sk y h1 h3 h4 with⟨e1,_⟩ | ⟨e1,_⟩ | ⟨_,_,e⟩
   ·have:=inj y _ h1 (mB _ atB).1.1 (e1.trans lB.symm)
    exact absurd (this▸atB) (dAB y hy)
   ·exact absurd (inj y _ h1 (mA _ atA).1.1 (e1.trans lA.symm)) hne2
   ·exact e
  ·obtain⟨⟨h1,h2⟩,h3,h4⟩:=mA _ atA
   rcases sk _ h1 h3 h4 with⟨e1,_⟩ | ⟨_,e⟩ | ⟨_,e2,_⟩
   ·exact absurd (lA.symm.trans e1) hne
   ·exact e
   ·exact absurd lA e2
 have cB:bz nx b0 B:=by
  refine⟨oL (f:=m.nx) P2.2 (cY.1 n2).2 (fun y hy hne2=>?_) ?_,(cY.1 n2).2⟩
  ·obtain⟨⟨h1,h2⟩,h3,h4⟩:=mB y hy
   rcases sk y h1 h3 h4 with⟨e1,_⟩ | ⟨e1,_⟩ | ⟨_,_,e⟩
   ·exact absurd (inj y _ h1 (mB _ atB).1.1 (e1.trans lB.symm)) hne2
   ·have:=inj y _ h1 (mA _ atA).1.1 (e1.trans lA.symm)
    exact absurd hy (dAB y (this▸atA))
   ·exact e
  ·obtain⟨⟨h1,h2⟩,h3,h4⟩:=mB _ atB
   rcases sk _ h1 h3 h4 with⟨_,e⟩ | ⟨e1,_⟩ | ⟨e2,_,_⟩
   ·exact e
   ·exact absurd (e1.symm.trans lB) hne
   ·exact absurd lB e2
 have rA:∀k,k∈a0::A→r k=m.R:=fun k hk=>by rw[hr k (mA k hk).1.1,aC hk]
 have rB:∀k,k∈b0::B→r k=m.r a:=fun k hk=>by rw[hr k (mB k hk).1.1,aA fun e=>dAB k e hk];exact(mB k hk).1.2
 have rO:∀k,k<m.n→k≠a→k≠mt a→k∉a0::A→k∉b0::B→m.r k≠m.r a∧r k=m.r k∧nx k=m.nx k∧m.nx k∉a0::A:=fun k h1 h2 h3 h4 h5=>by
  have h6:m.r k≠m.r a:=fun e=>by
   rcases mAB k h1 e h2 h3 with h7 | h7
   ·exact h4 h7
   ·exact h5 h7
  have h7:m.r (m.nx k)=m.r k:=h.rn k ⟨h1,rfl⟩
  refine⟨h6,by rw[hr k h1,aA h4],?_,fun e=>h6 (by rw[←h7];exact(mA _ e).1.2)⟩
  rcases sk k h1 h2 h3 with⟨e1,_⟩ | ⟨e1,_⟩ | ⟨_,_,e⟩
  ·exact absurd (by rw[←h7,e1]) h6
  ·exact absurd (by rw[←h7,e1];exact rb) h6
  ·exact e
 have ral:m.r a<m.R:=(h.hr a ⟨ha,rfl⟩).1
 have nal:∀k,k<m.n→m.al (m.r k)=false:=fun k hk=>by
  cases hx:m.al (m.r k) with
  | false=>rfl
  | true=>exact absurd rfl ((h.ra _ (h.hr k ⟨hk,rfl⟩) hx).2 k ⟨hk,rfl⟩)
 have rl:∀k,k<m.n→m.r k<m.R:=fun k hk=>(h.hr k ⟨hk,rfl⟩).1
 have old:∀q,q<m.R+1→al q=true→q<m.R∧m.al q=true∧rv q=m.rv q:=fun q hq hq2=>by
  have h1:q<m.R:=by
   by_cases e:q=m.R
   ·rw[e,halR] at hq2;cases hq2
   ·omega
  exact⟨h1,by rw[←bn q h1];exact hq2,hrv q h1 hq2⟩
 refine { cg:=fun k hk=>g.cg h ha hl hk,hf:=fun k hk=>h.hf k ⟨hk.1,rfl⟩,hn:=fun k hk=>g.hn h ha hl hk,hp:=fun k hk=>g.hp h ha hl hk,pn:=fun k hk=>g.pn h ha hl hk,np:=fun k hk=>g.np h ha hl hk,hr:=fun k hk=>⟨?_,rfl⟩,rn:=fun k hk=>?_,ff:=fun k hk=>g.ff h ha hl hk,rc:=fun q hq=>?_,ra:=fun q hq hq2=>?_,ro:=fun q hq hq2=>?_,fc:=fun f hf=>?_,va:=fun u hu=>?_ }
 ·show r k<m.R+1
  rw[hr k hk.1]
  have:=rl k hk.1
  split <;> omega
 ·obtain⟨h1,h2,h3⟩:=fY.1 hk
  show r (nx k)=r k
  by_cases e1:k∈a0::A
  ·rw[rA k e1,rA _ (cA.step e1)]
  ·by_cases e2:k∈b0::B
   ·rw[rB k e2,rB _ (cB.step e2)]
   ·obtain⟨_,e3,e4,e5⟩:=rO k h1 h2 h3 e1 e2
    rw[e3,e4,hr _ (N k h1),aA e5];exact h.rn k ⟨h1,rfl⟩
 ·have hq1:q<m.R+1:=hq.1
  show cT m.F (fun _=>true) (rc q)
  by_cases e:q=m.R
  ·rw[e,hrcR];exact h.rc _ ⟨ral,rfl⟩
  ·have h1:q<m.R:=by omega
   rw[hrc q h1];exact h.rc q ⟨h1,rfl⟩
 ·obtain⟨h1,h2,h3⟩:=old q hq.1 hq2
  obtain⟨h4,h5⟩:=h.ra q ⟨h1,rfl⟩ h2
  refine⟨by show cT m.V _ (rv q);rw[h3];exact h4,fun k hk=>?_⟩
  show r k≠q
  rw[hr k hk.1]
  split
  ·omega
  ·exact h5 k ⟨hk.1,rfl⟩
 ·have hq2:al q=false:=hq2
  have hq1:q<m.R+1:=hq.1
  by_cases e:q=m.R
  ·refine⟨a0,A,cA,fun y=>EO ?_ (KA (n:=m.n) (f:=r) (u:=q)).symm⟩
   rw[e]
   constructor
   ·intro hy;exact⟨⟨(mA y hy).1.1,(mA y hy).2.1,(mA y hy).2.2⟩,rA y hy⟩
   ·rintro ⟨⟨h1,_,_⟩,h4⟩
    refine FA fun h5=>?_
    rw[hr y h1,aA h5] at h4
    have:=rl y h1;omega
  ·have h1:q<m.R:=by omega
   by_cases e2:q=m.r a
   ·refine⟨b0,B,cB,fun y=>EO ?_ (KA (n:=m.n) (f:=r) (u:=q)).symm⟩
    rw[e2]
    constructor
    ·intro hy;exact⟨⟨(mB y hy).1.1,(mB y hy).2.1,(mB y hy).2.2⟩,rB y hy⟩
    ·rintro ⟨⟨h2,h3,h4⟩,h5⟩
     by_cases e3:y∈a0::A
     ·rw[rA y e3] at h5;omega
     ·rw[hr y h2,aA e3] at h5
      rcases mAB y h2 h5 h3 h4 with h6 | h6
      ·exact absurd h6 e3
      ·exact h6
   ·refine(h.ro q ⟨h1,rfl⟩ (by rw[←bn q h1];exact hq2)).ext (fun y hy hp=>?_) fun y=>(KA (n:=m.n) (f:=r) (u:=q)).trans (EO ?_ (gT (n:=m.n) (f:=m.r) (u:=q)).symm)
    ·have hp:m.r y=q:=(gT (f:=m.r)).1 ⟨hy,hp⟩ |>.2
     have y1:y≠a:=fun e3=>e2 (by rw[←hp,e3])
     have y2:y≠mt a:=fun e3=>e2 (by rw[←hp,e3,rb])
     exact(rO y hy y1 y2 (fun e3=>e2 (by rw[←hp];exact(mA y e3).1.2)) fun e3=>e2 (by rw[←hp];exact(mB y e3).1.2)).2.2.1
    ·constructor
     ·rintro ⟨⟨h2,h3,h4⟩,h5⟩
      by_cases e3:y∈a0::A
      ·rw[rA y e3] at h5;omega
      ·rw[hr y h2,aA e3] at h5;exact⟨h2,h5⟩
     ·rintro ⟨h2,h3⟩
      refine⟨⟨h2,fun e3=>e2 (by rw[←h3,e3]),fun e3=>e2 (by rw[←h3,e3,rb])⟩,?_⟩
      rw[hr y h2,aA fun e3=>e2 (by rw[←h3];exact(mA y e3).1.2)];exact h3
 ·obtain⟨q,q1,q2⟩:=h.fc f hf
  have q1:q<m.R:=q1.1
  exact⟨q,⟨by show q<m.R+1;omega,rfl⟩,by show rc q=f;rw[hrc q q1];exact q2⟩
 ·rcases h.va u ⟨hu.1,rfl⟩ with⟨⟨q,⟨q1,q2,q3⟩,q4⟩,h2⟩ | ⟨h1,h2⟩
  ·have q1:q<m.R:=q1.1
   have q5:al q=true:=by rw[bn q q1];exact q2
   refine .inl ⟨⟨q,⟨⟨by show q<m.R+1;omega,rfl⟩,q5,?_⟩,fun q' p1 p2 p3=>?_⟩,fun k hk=>h2 k ⟨hk.1,rfl⟩⟩
   ·show rv q=u;rw[hrv q q1 q5];exact q3
   ·obtain⟨o1,o2,o3⟩:=old q' p1.1 p2
    exact q4 q' ⟨o1,rfl⟩ o2 (by rw[←o3];exact p3)
  ·refine .inr ⟨fun q p1 p2 p3=>?_,?_⟩
   ·obtain⟨o1,o2,o3⟩:=old q p1.1 p2
    exact h1 q ⟨o1,rfl⟩ o2 (by rw[←o3];exact p3)
   ·rcases g.jl h ha hl h2 with h3 | h3
    ·-- a half-edge stays at each end
     exfalso
     have fa:m.f a0=m.f (mt a):=by rw[←na];exact h.ff a ⟨ha,rfl⟩
     have fb:m.f b0=m.f a:=by rw[←nb];have:=h.ff (mt a) ⟨hb,rfl⟩;rwa[qA] at this
     obtain⟨x,l,_,hx⟩:=h2
     obtain⟨x1,x2⟩:=(gT (n:=m.n) (f:=m.f) (u:=u)).1 ((hx x).1 (by simp))
     by_cases e1:x=a
     ·exact h3 b0 (fY.2 ⟨(mB b0 (by simp)).1.1,b0a,b0b⟩) (by rw[fb,←e1];exact x2)
     ·by_cases e2:x=mt a
      ·exact h3 a0 (fY.2 ⟨(mA a0 (by simp)).1.1,a0a,a0b⟩) (by rw[fa,←e2];exact x2)
      ·exact h3 x (fY.2 ⟨x1,e1,e2⟩) x2
    ·exact h3
end Go.Eng.Tl
set_option linter.unusedSectionVars false
namespace Go.Eng.Tl
open Go.Eng
theorem WV.qi{m:Mp}{a u w:Nat}{nx pv r:Nat→Nat}(h:WV m vG)(g:bc m a nx pv)(ha:a<m.n)(hl:¬(m.nx a=a∧m.nx (mt a)=mt a))(hu:m.r a=u)(hw:m.r (mt a)=w)(hne:u≠w)
 (hface:∀q,q<m.R→m.rc q=m.rc w→q=w) (hr:∀k,k<m.n→r k=if m.r k=w then u else m.r k):
 WV { m with nx:=nx,pv:=pv,r:=r } ⟨CH a,fun q=>decide (q≠w),fun _=>true,fun f=>decide (f≠m.rc w)⟩:=by
 have hab:a≠mt a:=(rW a).symm
 have hb:=bc.b h g ha hl
 have N:∀k,k<m.n→m.nx k<m.n:=fun k hk=>bc.N h g ha hl hk
 have PN:∀k,k<m.n→m.pv (m.nx k)=k:=fun k hk=>bc.PN h g ha hl hk
 have inj:∀y z,y<m.n→z<m.n→m.nx y=m.nx z→y=z:=fun y z hy hz e=>by rw[←PN y hy,e,PN z hz]
 have rN:∀k,k<m.n→m.r (m.nx k)=m.r k:=fun k hk=>h.rn k ⟨hk,rfl⟩
 have ul:u<m.R:=hu▸(h.hr a ⟨ha,rfl⟩).1
 have wl:w<m.R:=hw▸(h.hr _ ⟨hb,rfl⟩).1
 have nal:∀k,k<m.n→m.al (m.r k)=false:=fun k hk=>by
  cases hx:m.al (m.r k) with
  | false=>rfl
  | true=>exact absurd rfl ((h.ra _ (h.hr k ⟨hk,rfl⟩) hx).2 k ⟨hk,rfl⟩)
 have nab:m.nx a≠mt a:=fun e=>hne (by rw[←hu,←hw,←e];exact(rN a ha).symm)
 have nba:m.nx (mt a)≠a:=fun e=>hne (by rw[←hu,←hw,←rN _ hb,e])
 have rlt:∀k,k<m.n→r k<m.R∧r k≠w:=fun k hk=>by
  rw[hr k hk]
  split
  ·exact⟨ul,hne⟩
  ·rename_i e;exact⟨(h.hr k ⟨hk,rfl⟩).1,e⟩
 have ru:∀k,k<m.n→(r k=u↔m.r k=u∨m.r k=w):=fun k hk=>by
  rw[hr k hk]
  split
  ·rename_i e;exact⟨fun _=>.inr e,fun _=>rfl⟩
  ·rename_i e;exact⟨.inl,fun h2=>h2.elim id fun h3=>absurd h3 e⟩
 have ro:∀k q,k<m.n→q≠u→q≠w→(r k=q↔m.r k=q):=fun k q hk h1 h2=>by
  rw[hr k hk]
  split
  ·rename_i e;exact⟨fun h3=>absurd h3.symm h1,fun h3=>absurd (h3.symm.trans e) h2⟩
  ·rfl
 have hO:bx nx m.n (fun k=>CH a k&&decide (r k=u)):=by
  have o1:bx m.nx m.n (fun k=>true&&decide (m.r k=u)):=h.ro u ⟨ul,rfl⟩ (by rw[←hu];exact nal a ha)
  have o2:bx m.nx m.n (fun k=>true&&decide (m.r k=w)):=h.ro w ⟨wl,rfl⟩ (by rw[←hw];exact nal _ hb)
  have mR:∀y,cT m.n (fun k=>decide (r k=u)) y↔cT m.n (fun k=>true&&decide (m.r k=u)) y∨cT m.n (fun k=>true&&decide (m.r k=w)) y:=fun y=>by
   rw[gT,gT]
   unfold cT
   rw[cK]
   constructor
   ·rintro ⟨h1,h2⟩
    rcases(ru y h1).1 h2 with h3 | h3
    ·exact .inl ⟨h1,h3⟩
    ·exact .inr ⟨h1,h3⟩
   ·rintro (⟨h1,h2⟩ | ⟨h1,h2⟩)
    ·exact⟨h1,(ru y h1).2 (.inl h2)⟩
    ·exact⟨h1,(ru y h1).2 (.inr h2)⟩
  obtain⟨s,hs⟩:∃s:Nat→Nat,s=fun k=>if k=a then m.nx (mt a) else if k=mt a then m.nx a else m.nx k:=⟨_,rfl⟩
  have sa:s a=m.nx (mt a):=by rw[hs];exact aC rfl
  have sb:s (mt a)=m.nx a:=by rw[hs];show (if mt a=a then _ else _)=_;rw[aA hab.symm,aC rfl]
  have so:∀k,k≠a→k≠mt a→s k=m.nx k:=fun k h1 h2=>by rw[hs];show (if k=a then _ else _)=_;rw[aA h1,aA h2]
  have o3:bx s m.n (fun k=>decide (r k=u)):=o1.merge o2 (fun y h1 h2=>hne ((gT.1 h1).2.symm.trans (gT.1 h2).2)) (a:=a) (b:=mt a) (gT.2 ⟨ha,hu⟩) (gT.2 ⟨hb,hw⟩) sa sb (fun y _ h1 h2=>so y h1 h2) mR
  have sinj:∀y z,cT m.n (fun k=>decide (r k=u)) y→cT m.n (fun k=>decide (r k=u)) z→s y=s z→y=z:=fun y z hy hz e=>by
   by_cases y1:y=a
   ·rw[y1,sa] at e
    by_cases z1:z=a
    ·rw[y1,z1]
    ·by_cases z2:z=mt a
     ·rw[z2,sb] at e;exact absurd (inj _ _ hb ha e) hab.symm
     ·rw[so z z1 z2] at e;exact absurd (inj _ _ hb hz.1 e).symm z2
   ·by_cases y2:y=mt a
    ·rw[y2,sb] at e
     by_cases z1:z=a
     ·rw[z1,sa] at e;exact absurd (inj _ _ ha hb e) hab
     ·by_cases z2:z=mt a
      ·rw[y2,z2]
      ·rw[so z z1 z2] at e;exact absurd (inj _ _ ha hz.1 e).symm z1
    ·rw[so y y1 y2] at e
     by_cases z1:z=a
     ·rw[z1,sa] at e;exact absurd (inj _ _ hy.1 hb e) y2
     ·by_cases z2:z=mt a
      ·rw[z2,sb] at e;exact absurd (inj _ _ hy.1 ha e) y1
      ·rw[so z z1 z2] at e;exact inj _ _ hy.1 hz.1 e
  rcases QV (a:=a) (b:=mt a) o3 sinj hab with h1 | h1
  ·exfalso
   have q1:=h1 (m.nx a) ⟨N a ha,aM ((ru _ (N a ha)).2 (.inl (by rw[rN a ha,hu])))⟩
   have q2:=h1 (m.nx (mt a)) ⟨N _ hb,aM ((ru _ (N _ hb)).2 (.inr (by rw[rN _ hb,hw])))⟩
   exact hl ⟨q1.resolve_right nab,q2.resolve_left nba⟩
  ·refine h1.ext (fun y hy hp=>?_) fun y=>?_
   ·have hp:=iC.1 hp
    have hp1:=iC.1 hp.1
    have ya:y≠a:=cH hp1.2
    have yb:y≠mt a:=cH hp.2
    rw[g.n y hy ya yb]
    unfold skip
    simp only[so y ya yb,sa,sb]
   ·show (y<m.n∧(CH a y&&decide (r y=u))=true)↔(y<m.n∧((decide (r y=u)&&decide (y≠a))&&decide (y≠mt a))=true)
    unfold CH
    simp only[cM,cK]
    exact⟨fun⟨a1,⟨a2,a3⟩,a4⟩=>⟨a1,⟨a4,a2⟩,a3⟩,fun⟨a1,⟨a4,a2⟩,a3⟩=>⟨a1,⟨a2,a3⟩,a4⟩⟩
 refine { cg:=fun k hk=>g.cg h ha hl hk,hf:=fun k hk=>h.hf k ⟨hk.1,rfl⟩,hn:=fun k hk=>g.hn h ha hl hk,hp:=fun k hk=>g.hp h ha hl hk,pn:=fun k hk=>g.pn h ha hl hk,np:=fun k hk=>g.np h ha hl hk,hr:=fun k hk=>⟨(rlt k hk.1).1,aM (rlt k hk.1).2⟩,rn:=fun k hk=>?_,ff:=fun k hk=>g.ff h ha hl hk,rc:=fun q hq=>⟨(h.rc q ⟨hq.1,rfl⟩).1,aM fun e=>(cH hq.2:q≠w) (hface q hq.1 e)⟩,ra:=fun q hq hq2=>?_,ro:=fun q hq hq2=>?_,fc:=fun f hf=>?_,va:=fun v hv=>?_ }
 ·obtain⟨h1,h2,h3⟩:=fY.1 hk
  have hk2:=(fY.1 (g.hn h ha hl hk)).1
  show r (nx k)=r k
  have key:∀x,x<m.n→(m.r x=u∨m.r x=w)→∀y,y<m.n→(m.r y=u∨m.r y=w)→r x=r y:=fun x hx h4 y hy h5=>by rw[(ru x hx).2 h4,(ru y hy).2 h5]
  have ka:∀x,x<m.n→m.nx x=a→m.r x=u∨m.r x=w:=fun x hx e=>.inl (by rw[←rN x hx,e,hu])
  have kb:∀x,x<m.n→m.nx x=mt a→m.r x=u∨m.r x=w:=fun x hx e=>.inr (by rw[←rN x hx,e,hw])
  have na':m.r (m.nx a)=u∨m.r (m.nx a)=w:=.inl (by rw[rN a ha,hu])
  have nb':m.r (m.nx (mt a))=u∨m.r (m.nx (mt a))=w:=.inr (by rw[rN _ hb,hw])
  rw[g.n k h1 h2 h3] at hk2 ⊢
  rcases sQ N PN ha hb hab hl h1 h2 h3 with⟨e1,_,_,e4⟩ | ⟨e1,_,e4⟩ | ⟨e1,_,_,e4⟩ | ⟨e1,_,e4⟩ | ⟨e1,e2,e4⟩
  ·rw[e4];exact key _ (N a ha) na' k h1 (ka k h1 e1)
  ·rw[e4];exact key _ (N _ hb) nb' k h1 (ka k h1 e1)
  ·rw[e4];exact key _ (N _ hb) nb' k h1 (kb k h1 e1)
  ·rw[e4];exact key _ (N a ha) na' k h1 (kb k h1 e1)
  ·rw[e4,hr _ (N k h1),hr k h1,rN k h1]
 ·obtain⟨h4,h5⟩:=h.ra q ⟨hq.1,rfl⟩ hq2
  refine⟨h4,fun k hk e=>?_⟩
  have e:r k=q:=e
  have qw:q≠w:=cH hq.2
  by_cases e2:q=u
  ·have:m.al q=true:=hq2
   rw[e2,←hu,nal a ha] at this;cases this
  ·exact h5 k ⟨hk.1,rfl⟩ ((ro k q hk.1 e2 qw).1 e)
 ·have qw:q≠w:=cH hq.2
  have q1:q<m.R:=hq.1
  show bx nx m.n (fun k=>CH a k&&decide (r k=q))
  by_cases e:q=u
  ·rw[e];exact hO
  ·refine(h.ro q ⟨q1,rfl⟩ hq2).ext (fun y hy hp=>?_) fun y=>(KA (n:=m.n) (f:=r) (u:=q)).trans (EO ?_ (gT (n:=m.n) (f:=m.r) (u:=q)).symm)
   ·have hp:m.r y=q:=(gT (f:=m.r)).1 ⟨hy,hp⟩ |>.2
    have y1:y≠a:=fun e3=>e (by rw[←hp,e3,hu])
    have y2:y≠mt a:=fun e3=>qw (by rw[←hp,e3,hw])
    rw[g.n y hy y1 y2]
    rcases sQ N PN ha hb hab hl hy y1 y2 with⟨e1,_⟩ | ⟨e1,_⟩ | ⟨e1,_⟩ | ⟨e1,_⟩ | ⟨_,_,e4⟩
    ·exact absurd (by rw[←hp,←rN y hy,e1,hu]) e
    ·exact absurd (by rw[←hp,←rN y hy,e1,hu]) e
    ·exact absurd (by rw[←hp,←rN y hy,e1,hw]) qw
    ·exact absurd (by rw[←hp,←rN y hy,e1,hw]) qw
    ·exact e4
   ·constructor
    ·rintro ⟨⟨h2,h3,h4⟩,h5⟩
     exact⟨h2,(ro y q h2 e qw).1 h5⟩
    ·rintro ⟨h2,h3⟩
     exact⟨⟨h2,fun e3=>e (by rw[←h3,e3,hu]),fun e3=>qw (by rw[←h3,e3,hw])⟩,(ro y q h2 e qw).2 h3⟩
 ·have hf1:f<m.F:=hf.1
  have hf2:f≠m.rc w:=cH hf.2
  obtain⟨q,q1,q2⟩:=h.fc f ⟨hf1,rfl⟩
  exact⟨q,⟨q1.1,aM fun e=>hf2 (by rw[←q2,e])⟩,q2⟩
 ·have hv1:v<m.V:=hv.1
  rcases h.va v ⟨hv1,rfl⟩ with⟨⟨q,⟨q1,q2,q3⟩,q4⟩,h2⟩ | ⟨h1,h2⟩
  ·refine .inl ⟨⟨q,⟨⟨q1.1,aM fun e=>?_⟩,q2,q3⟩,fun q' p1 p2 p3=>q4 q' ⟨p1.1,rfl⟩ p2 p3⟩,fun k hk=>h2 k ⟨hk.1,rfl⟩⟩
   rw[e,←hw,nal _ hb] at q2;cases q2
  ·refine .inr ⟨fun q p1 p2 p3=>h1 q ⟨p1.1,rfl⟩ p2 p3,?_⟩
   rcases g.jl h ha hl h2 with h3 | h3
   ·exfalso
    have fa:m.f (m.nx a)=m.f (mt a):=h.ff a ⟨ha,rfl⟩
    have fb:m.f (m.nx (mt a))=m.f a:=by have:=h.ff (mt a) ⟨hb,rfl⟩;rwa[qA] at this
    have e1:m.f a=v→m.nx (mt a)=mt a:=fun e=>FA fun e2=>h3 _ (fY.2 ⟨N _ hb,nba,e2⟩) (by rw[fb,e])
    have e2:m.f (mt a)=v→m.nx a=a:=fun e=>FA fun e2=>h3 _ (fY.2 ⟨N a ha,e2,nab⟩) (by rw[fa,e])
    have e3:m.f a=v→m.f (mt a)=v:=fun e=>by rw[←e1 e,fb,e]
    have e4:m.f (mt a)=v→m.f a=v:=fun e=>by rw[←e2 e,fa,e]
    obtain⟨x,l,_,hx⟩:=h2
    obtain⟨x1,x2⟩:=(gT (n:=m.n) (f:=m.f) (u:=v)).1 ((hx x).1 (by simp))
    by_cases c1:x=a
    ·have c2:m.f a=v:=by rw[←c1];exact x2
     exact hl ⟨e2 (e3 c2),e1 c2⟩
    ·by_cases c2:x=mt a
     ·have c3:m.f (mt a)=v:=by rw[←c2];exact x2
      exact hl ⟨e2 c3,e1 (e4 c3)⟩
     ·exact h3 x (fY.2 ⟨x1,c1,c2⟩) x2
   ·exact h3
open Go.Eng Go.Proofs
def BL(t:Tp)(h g:Nat)(ra rb:Int):List Hf:=
 if h=g then lk (lk (lk (t.hs++[Hf.mk (hG t.hs h).f 0 0 ra,Hf.mk (hG t.hs g).f 0 0 rb]) (pv t h) t.hs.length) t.hs.length g) (t.hs.length+1) (t.hs.length+1)
 else lk (lk (lk (lk (t.hs++[Hf.mk (hG t.hs h).f 0 0 ra,Hf.mk (hG t.hs g).f 0 0 rb]) (pv t h) t.hs.length) t.hs.length g) (pv t g) (t.hs.length+1)) (t.hs.length+1) h
theorem BZ(t:Tp)(h g:Nat)(ra rb:Int):(BL t h g ra rb).length=t.hs.length+2:=by
 unfold BL;by_cases e:h=g
 ·rw[aC e];simp
 ·rw[aA e];simp
theorem zD{t:Tp}(ht:Hok t){h g:Nat}(hh:h<t.hs.length)(hg:g<t.hs.length)(ra rb:Int){j:Nat}(hj:j<t.hs.length):hG (BL t h g ra rb) j=⟨(hG t.hs j).f,if h≠g∧pv t g=j then ((t.hs.length+1:Nat):Int) else if pv t h=j then (t.hs.length:Int) else (hG t.hs j).n,if h≠g∧h=j then ((t.hs.length+1:Nat):Int) else if g=j then (t.hs.length:Int) else (hG t.hs j).p,(hG t.hs j).r⟩:=by
 have hp:=ht.aj hh
 have hq:=ht.aj hg
 have hl:(t.hs++[Hf.mk (hG t.hs h).f 0 0 ra,Hf.mk (hG t.hs g).f 0 0 rb]).length=t.hs.length+2:=by simp
 unfold BL
 by_cases e:h=g
 ·rw[aC e,aY (by simp only[aF,hl];omega) (by simp only[aF,hl];omega),aY (by simp only[aF,hl];omega) (by simp only[aF,hl];omega),aY (by omega) (by omega),fQ hj]
  simp only[aA (show ¬t.hs.length+1=j by omega),aA (show ¬t.hs.length=j by omega),aA (show ¬(h≠g∧pv t g=j) from fun x=>x.1 e),aA (show ¬(h≠g∧h=j) from fun x=>x.1 e)]
 ·rw[aA e,aY (by simp only[aF,hl];omega) (by simp only[aF,hl];omega),aY (by simp only[aF,hl];omega) (by simp only[aF,hl];omega),aY (by simp only[aF,hl];omega) (by simp only[aF,hl];omega),aY (by omega) (by omega),fQ hj]
  simp only[aA (show ¬t.hs.length+1=j by omega),aA (show ¬t.hs.length=j by omega),vM,e,ZZ,TW]
theorem NC{t:Tp}(ht:Hok t){h g:Nat}(hh:h<t.hs.length)(hg:g<t.hs.length)(ra rb:Int):hG (BL t h g ra rb) (t.hs.length:Nat)=⟨(hG t.hs h).f,(g:Int),(pv t h:Int),ra⟩:=by
 have hp:=ht.aj hh
 have hq:=ht.aj hg
 have hl:(t.hs++[Hf.mk (hG t.hs h).f 0 0 ra,Hf.mk (hG t.hs g).f 0 0 rb]).length=t.hs.length+2:=by simp
 unfold BL
 by_cases e:h=g
 ·rw[aC e,aY (by simp only[aF,hl];omega) (by simp only[aF,hl];omega),aY (by simp only[aF,hl];omega) (by simp only[aF,hl];omega),aY (by omega) (by omega),oH]
  simp only[aA (show ¬t.hs.length+1=t.hs.length by omega),aA (show ¬g=t.hs.length by omega),eP]
 ·rw[aA e,aY (by simp only[aF,hl];omega) (by simp only[aF,hl];omega),aY (by simp only[aF,hl];omega) (by simp only[aF,hl];omega),aY (by simp only[aF,hl];omega) (by simp only[aF,hl];omega),aY (by omega) (by omega),oH]
  simp only[aA (show ¬t.hs.length+1=t.hs.length by omega),aA (show ¬g=t.hs.length by omega),aA (show ¬h=t.hs.length by omega),aA (show ¬pv t g=t.hs.length by omega),eP]
theorem TI{t:Tp}(ht:Hok t){h g:Nat}(hh:h<t.hs.length)(hg:g<t.hs.length)(ra rb:Int):hG (BL t h g ra rb) ((t.hs.length+1:Nat):Int)=⟨(hG t.hs g).f,if h=g then ((t.hs.length+1:Nat):Int) else (h:Int),if h=g then ((t.hs.length+1:Nat):Int) else (pv t g:Int),rb⟩:=by
 have hp:=ht.aj hh
 have hq:=ht.aj hg
 have hl:(t.hs++[Hf.mk (hG t.hs h).f 0 0 ra,Hf.mk (hG t.hs g).f 0 0 rb]).length=t.hs.length+2:=by simp
 unfold BL
 by_cases e:h=g
 ·rw[aC e,aY (by simp only[aF,hl];omega) (by simp only[aF,hl];omega),aY (by simp only[aF,hl];omega) (by simp only[aF,hl];omega),aY (by omega) (by omega),oJ]
  simp only[aC e,eP]
 ·rw[aA e,aY (by simp only[aF,hl];omega) (by simp only[aF,hl];omega),aY (by simp only[aF,hl];omega) (by simp only[aF,hl];omega),aY (by simp only[aF,hl];omega) (by simp only[aF,hl];omega),aY (by omega) (by omega),oJ]
  simp only[aA e,aA (show ¬h=t.hs.length+1 by omega),aA (show ¬pv t g=t.hs.length+1 by omega),eP]
theorem My{t:Tp}(ht:Hok t){h g:Nat}(hh:h<t.hs.length)(hg:g<t.hs.length)(ra rb:Int)(hn:t.hs.length+2≤256):dq (BL t h g ra rb):=by
 have hp:=ht.aj hh
 have hq:=ht.aj hg
 have h0:dq (t.hs++[Hf.mk (hG t.hs h).f 0 0 ra,Hf.mk (hG t.hs g).f 0 0 rb]):=fun k hk=>by
  simp only[tT,oB,xC] at hk
  by_cases e1:k<t.hs.length
  ·rw[fQ e1];exact ht.kz k e1
  ·by_cases e2:k=t.hs.length
   ·subst e2;rw[oH];simp
   ·have e3:k=t.hs.length+1:=by omega
    subst e3;rw[oJ];simp
 have hl:(t.hs++[Hf.mk (hG t.hs h).f 0 0 ra,Hf.mk (hG t.hs g).f 0 0 rb]).length=t.hs.length+2:=by simp
 unfold BL
 by_cases e:h=g
 ·rw[aC e]
  exact((h0.lk (by omega) (by omega) (by omega)).lk (by simp only[aF];omega) (by simp only[aF];omega) (by simp only[aF];omega)).lk (by simp only[aF];omega) (by simp only[aF];omega) (by simp only[aF];omega)
 ·rw[aA e]
  exact(((h0.lk (by omega) (by omega) (by omega)).lk (by simp only[aF];omega) (by simp only[aF];omega) (by simp only[aF];omega)).lk (by simp only[aF];omega) (by simp only[aF];omega) (by simp only[aF];omega)).lk (by simp only[aF];omega) (by simp only[aF];omega) (by simp only[aF];omega)
theorem Mz{f:Nat→Nat}{x:Nat}{m:List Nat}(h:bz f x m){k:Nat}(hk:k<m.length):f (rR x m k)=rR x m (k+1):=by
 cases m with
 | nil=>simp at hk
 | cons a m'=>
  cases k with
  | zero=>exact h.1.1
  | succ k=>exact HE h.1 (k:=k) (by simpa using hk)
structure Mf (t:Tp) (h g r:Nat) (P Q:List Nat):Prop where
 ht:CKP t
 hh:h<t.hs.length
 hg:g<t.hs.length
 hr:r<t.rs.length
 cj:eK t r h=true
 m1:∀y,(y∈P∨y∈Q)↔y<t.hs.length∧eK t r y=true
 dj:∀y,y∈P→y∈Q→False
 cb:∀V F rs ra rb,bz (nx ⟨V,F,BL t h g ra rb,rs⟩) (t.hs.length+1) P
 ca:∀V F rs ra rb,bz (nx ⟨V,F,BL t h g ra rb,rs⟩) t.hs.length Q
 me:h≠g→∃A,P=h::A∧pv t g=rR (t.hs.length+1) P P.length
 emp:h=g→P=[]
theorem Wi{t:Tp}(ht:CKP t){h g r:Nat}(hh:h<t.hs.length)(hg:g<t.hs.length)(hr:r<t.rs.length)(cj:eK t r h=true)(hrg:eK t r g=true):∃P Q,Mf t h g r P Q:=by
 have hk:=ht.toHok
 have hp:=hk.aj hh
 have hq:=hk.aj hg
 obtain⟨_,_,_,_,ho⟩:=I4 ht hr hh cj
 obtain⟨c,hc,hcm⟩:=ho.at hh cj
 have nxa:∀V F rs ra rb,nx ⟨V,F,BL t h g ra rb,rs⟩ t.hs.length=g:=fun V F rs ra rb=>by
  show ((hG (BL t h g ra rb) (t.hs.length:Nat)).n).toNat=g
  rw[NC hk hh hg];rfl
 have nxb:∀V F rs ra rb,nx ⟨V,F,BL t h g ra rb,rs⟩ (t.hs.length+1)=if h=g then t.hs.length+1 else h:=fun V F rs ra rb=>by
  show ((hG (BL t h g ra rb) ((t.hs.length+1:Nat):Int)).n).toNat=_
  rw[TI hk hh hg]
  by_cases e:h=g
  ·simp only[aC e];rfl
  ·simp only[aA e];rfl
 have nxl:∀V F rs ra rb y,y<t.hs.length→nx ⟨V,F,BL t h g ra rb,rs⟩ y=if h≠g∧pv t g=y then t.hs.length+1 else if pv t h=y then t.hs.length else nx t y:=fun V F rs ra rb y hy=>by
  show ((hG (BL t h g ra rb) (y:Nat)).n).toNat=_
  rw[zD hk hh hg _ _ hy]
  by_cases e1:h≠g∧pv t g=y
  ·simp only[aC e1];rfl
  ·by_cases e2:pv t h=y
   ·simp only[aA e1,aC e2];rfl
   ·simp only[aA e1,aA e2];rfl
 have hnd:=hc.2
 have hlt:∀y∈h::c,y<t.hs.length:=fun y hy=>((hcm y).1 hy).1
 by_cases e:h=g
 ·subst e
  have hlast:pv t h=rR h c c.length:=by
   have h2:nx t (rR h c c.length)=h:=by
    cases c with
    | nil=>exact hc.1
    | cons b c'=>
     have h5:=nX (f:=nx t) (x:=h) (a:=b) (m:=c') hc.1
     exact h5
   have h3:=hlt _ (lS (x:=h) (m:=c) (k:=c.length) (by simp))
   rw[←hk.pn h3,h2]
  refine⟨[],h::c,ht,hh,hg,hr,cj,fun y=>by simp only[JF,false_or];exact hcm y,fun y h1=>by simp at h1,fun V F rs ra rb=>⟨by show nx _ _=_;rw[nxb,aC rfl],by simp⟩,fun V F rs ra rb=>⟨⟨nxa V F rs ra rb,?_⟩,?_⟩,fun e=>absurd rfl e,fun _=>rfl⟩
  ·refine oL (f:=nx t) (z:=h) hc.1 hnd (fun y hy hne=>?_) ?_
   ·rw[nxl V F rs ra rb y (hlt y hy),aA fun x=>x.1 rfl,aA fun x=>hne (by rw[←x,hlast])]
   ·rw[nxl V F rs ra rb _ (hlt _ (lS (by simp))),aA fun x=>x.1 rfl,aC hlast]
  ·exact cY.2 ⟨fun hm=>by have:=hlt _ hm;omega,hnd⟩
 ·have hgc:g∈c:=by
   rcases cN.1 ((hcm g).2 ⟨hg,hrg⟩) with e2 | h2
   ·exact absurd e2.symm e
   ·exact h2
  obtain⟨A,B,rfl⟩:=LC hgc
  obtain⟨p1,p2⟩:=kA.1 hc.1
  have hnd2:((h::A)++(g::B)).Nodup:=hnd
  obtain⟨n1,n2,n3⟩:=rT.1 hnd2
  have lA:∀y∈h::A,y<t.hs.length:=fun y hy=>hlt y (by
   have:y∈(h::A)++(g::B):=EL _ hy
   exact this)
  have lB:∀y∈g::B,y<t.hs.length:=fun y hy=>hlt y (by
   have:y∈(h::A)++(g::B):=IK _ hy
   exact this)
  have e1:pv t g=rR h A A.length:=by
   have h2:nx t (rR h A A.length)=g:=by
    cases A with
    | nil=>exact p1
    | cons b c'=>
     have h5:=nX (f:=nx t) (x:=h) (a:=b) (m:=c') p1
     exact h5
   rw[←hk.pn (lA _ (lS (by simp))),h2]
  have e2:pv t h=rR g B B.length:=by
   have h2:nx t (rR g B B.length)=h:=by
    cases B with
    | nil=>exact p2
    | cons b c'=>
     have h5:=nX (f:=nx t) (x:=g) (a:=b) (m:=c') p2
     exact h5
   rw[←hk.pn (lB _ (lS (by simp))),h2]
  have mA:rR h A A.length∈h::A:=lS (by simp)
  have mB:rR g B B.length∈g::B:=lS (by simp)
  refine⟨h::A,g::B,ht,hh,hg,hr,cj,fun y=>?_,fun y h1 h2=>n3 y h1 y h2 rfl,fun V F rs ra rb=>⟨⟨by rw[nxb,aA e],?_⟩,?_⟩,fun V F rs ra rb=>⟨⟨nxa V F rs ra rb,?_⟩,?_⟩,fun _=>⟨A,rfl,?_⟩,fun e3=>absurd e3 e⟩
  ·rw[←hcm y]
   have:y∈h::(A++g::B)↔y∈(h::A)++(g::B):=zO
   rw[this,fK]
  ·refine oL (f:=nx t) (z:=g) p1 n1 (fun y hy hne=>?_) ?_
   ·rw[nxl V F rs ra rb y (lA y hy),aA fun x=>hne (by rw[←x.2,e1]),aA fun x=>n3 y hy y (by rw[←x,e2];exact mB) rfl]
   ·rw[nxl V F rs ra rb _ (lA _ mA),aC ⟨e,e1⟩]
  ·exact cY.2 ⟨fun hm=>by have:=lA _ hm;omega,n1⟩
  ·refine oL (f:=nx t) (z:=h) p2 n2 (fun y hy hne=>?_) ?_
   ·rw[nxl V F rs ra rb y (lB y hy),aA fun x=>n3 y (by rw[←x.2,e1];exact mA) y hy rfl,aA fun x=>hne (by rw[←x,e2])]
   ·rw[nxl V F rs ra rb _ (lB _ mB),aA fun x=>n3 _ (by rw[←x.2,e1];exact mA) _ mB rfl,aC e2]
  ·exact cY.2 ⟨fun hm=>by have:=lB _ hm;omega,n2⟩
  ·rw[e1];rfl
def B1(t:Tp)(h g r:Nat)(P:List Nat):List Hf:=ar (BL t h g (r:Int) (t.rs.length:Int)) ((t.hs.length+1)::P) (t.rs.length:Int)
namespace Mf
variable {t:Tp} {h g r:Nat} {P Q:List Nat}
theorem bP(k:Mf t h g r P Q)(ra rb:Int):∀y∈(t.hs.length+1)::P,y<(BL t h g ra rb).length:=fun y hy=>by
 rw[BZ]
 rcases cN.1 hy with e | h2
 ·omega
 ·have:=((k.m1 y).1 (.inl h2)).1;omega
theorem bQ(k:Mf t h g r P Q)(ra rb:Int):∀y∈t.hs.length::Q,y<(BL t h g ra rb).length:=fun y hy=>by
 rw[BZ]
 rcases cN.1 hy with e | h2
 ·omega
 ·have:=((k.m1 y).1 (.inr h2)).1;omega
theorem len(k:Mf t h g r P Q):(B1 t h g r P).length=t.hs.length+2:=by unfold B1;rw[cF,BZ]
theorem rl(k:Mf t h g r P Q){j:Nat}(hj:j<t.hs.length):(hG (B1 t h g r P) j).r=if j∈P then (t.rs.length:Int) else (hG t.hs j).r:=by
 unfold B1
 rw[dX _ _ _ _ (k.bP _ _)]
 by_cases e:j∈P
 ·rw[aC e,aC (eQ _ e)]
 ·rw[aA e,aA,zD k.ht.toHok k.hh k.hg _ _ hj]
  intro h2
  rcases cN.1 h2 with e2 | e2
  ·omega
  ·exact e e2
theorem ra(k:Mf t h g r P Q):(hG (B1 t h g r P) (t.hs.length:Nat)).r=(r:Int):=by
 unfold B1
 rw[dX _ _ _ _ (k.bP _ _),aA,NC k.ht.toHok k.hh k.hg]
 intro h2
 rcases cN.1 h2 with e2 | e2
 ·omega
 ·have:=((k.m1 _).1 (.inl e2)).1;omega
theorem rb(k:Mf t h g r P Q):(hG (B1 t h g r P) ((t.hs.length+1:Nat):Int)).r=(t.rs.length:Int):=by
 unfold B1
 rw[dX _ _ _ _ (k.bP _ _),aC (by simp)]
theorem lq(k:Mf t h g r P Q):ar (ar (BL t h g 0 0) (t.hs.length::Q) (r:Int)) ((t.hs.length+1)::P) (t.rs.length:Int)=B1 t h g r P:=by
 have hk:=k.ht.toHok
 unfold B1
 have hb1:=k.bP 0 0
 refine uS (by simp only[cF,BZ]) fun j hj=>?_
 simp only[cF,BZ] at hj
 rw[dX _ _ _ _ (fun y hy=>by rw[cF];exact hb1 y hy),dX _ _ _ _ (k.bQ 0 0),dX _ _ _ _ (k.bP _ _)]
 by_cases e1:j∈(t.hs.length+1)::P
 ·rw[aC e1,aC e1]
  by_cases e2:j<t.hs.length
  ·by_cases e3:j∈t.hs.length::Q
   ·rw[aC e3,zD hk k.hh k.hg _ _ e2,zD hk k.hh k.hg _ _ e2]
   ·rw[aA e3,zD hk k.hh k.hg _ _ e2,zD hk k.hh k.hg _ _ e2]
  ·have e4:j=t.hs.length+1:=by
    rcases cN.1 e1 with h2 | h2
    ·exact h2
    ·have:=((k.m1 _).1 (.inl h2)).1;omega
   subst e4
   have e3:t.hs.length+1∉t.hs.length::Q:=fun h2=>by
    rcases cN.1 h2 with h2 | h2
    ·omega
    ·have:=((k.m1 _).1 (.inr h2)).1;omega
   rw[aA e3,TI hk k.hh k.hg,TI hk k.hh k.hg]
 ·rw[aA e1,aA e1]
  by_cases e2:j<t.hs.length
  ·by_cases e3:j∈t.hs.length::Q
   ·rw[aC e3,zD hk k.hh k.hg _ _ e2,zD hk k.hh k.hg _ _ e2]
    have hq:j∈Q:=by
     rcases cN.1 e3 with h2 | h2
     ·omega
     ·exact h2
    have:=cH ((k.m1 j).1 (.inr hq)).2
    simp only[this]
   ·rw[aA e3,zD hk k.hh k.hg _ _ e2,zD hk k.hh k.hg _ _ e2]
  ·have e4:j=t.hs.length:=by
    by_cases e5:j=t.hs.length
    ·exact e5
    ·exfalso;apply e1
     have:j=t.hs.length+1:=by omega
     rw[this];simp
   subst e4
   rw[aC (by simp),NC hk k.hh k.hg,NC hk k.hh k.hg]
theorem mem(k:Mf t h g r P Q){i:Nat}(hi:i<t.rs.length)(hne:r≠i):(∃j,j<(B1 t h g r P).length∧(hG (B1 t h g r P) (j:Nat)).r=(i:Int))↔∃j,j<t.hs.length∧(hG t.hs (j:Nat)).r=(i:Int):=by
 rw[k.len]
 constructor
 ·rintro ⟨j,hj,hr⟩
  by_cases e2:j<t.hs.length
  ·rw[k.rl e2] at hr
   by_cases e:j∈P
   ·rw[aC e] at hr;omega
   ·rw[aA e] at hr;exact⟨j,e2,hr⟩
  ·by_cases e4:j=t.hs.length
   ·subst e4;rw[k.ra] at hr;omega
   ·have e5:j=t.hs.length+1:=by omega
    subst e5;rw[k.rb] at hr;omega
 ·rintro ⟨j,hj,hr⟩
  refine⟨j,by omega,?_⟩
  rw[k.rl hj,aA]
  ·exact hr
  ·intro e
   have:=cH ((k.m1 j).1 (.inl e)).2
   omega
theorem fin(k:Mf t h g r P Q):lz ⟨t.V,t.F+1,B1 t h g r P,t.rs.set r { rG t.rs r with h:=(t.hs.length:Int),v:=-1 }++[⟨((t.hs.length+1:Nat):Int),-1,t.F⟩]⟩=dn ⟨t.V,t.F+1,B1 t h g r P,t.rs++[⟨-1,-1,t.F⟩]⟩:=by
 have hr:=k.hr
 have hv:(rG t.rs r).v=-1:=by
  rcases k.ht.dy hr with⟨_,_,h3⟩ | ⟨h1,_⟩
  ·exact h3
  ·exact absurd ⟨h,k.hh,cH k.cj⟩ h1
 refine L8 rfl rfl rfl (by simp) fun i hi=>?_
 have hi':i<t.rs.length+1:=by simpa using hi
 by_cases e1:i=t.rs.length
 ·subst e1
  have x1:rG (t.rs.set r { rG t.rs r with h:=(t.hs.length:Int),v:=-1 }++[(⟨((t.hs.length+1:Nat):Int),-1,t.F⟩:Rg)]) (t.rs.length:Nat)=⟨((t.hs.length+1:Nat):Int),-1,t.F⟩:=nB (by simp)
  have y1:rG (t.rs++[(⟨-1,-1,t.F⟩:Rg)]) (t.rs.length:Nat)=⟨-1,-1,t.F⟩:=nB rfl
  simp only[x1,y1]
  refine⟨trivial,trivial,.inl ⟨⟨t.hs.length+1,by rw[k.len];omega,aM k.rb⟩,by omega,by decide⟩⟩
 ·have hil:i<t.rs.length:=by omega
  have x1:rG (t.rs.set r { rG t.rs r with h:=(t.hs.length:Int),v:=-1 }++[(⟨((t.hs.length+1:Nat):Int),-1,t.F⟩:Rg)]) i=if r=i then { rG t.rs r with h:=(t.hs.length:Int),v:=-1 } else rG t.rs i:=by
   rw[jM (by simpa using hil),iD hr]
  have y1:rG (t.rs++[(⟨-1,-1,t.F⟩:Rg)]) i=rG t.rs i:=jM hil
  simp only[x1,y1]
  by_cases e:r=i
  ·subst e
   simp only[eP]
   refine⟨trivial,hv.symm,.inl ⟨⟨t.hs.length,by rw[k.len];omega,aM k.ra⟩,by omega,by omega⟩⟩
  ·simp only[aA e]
   refine⟨trivial,trivial,?_⟩
   rcases k.ht.dy hil with⟨h1,h2,h3⟩ | ⟨h1,h2,_⟩
   ·obtain⟨j,a,b⟩:=(k.mem hil e).2 h1
    exact .inl ⟨⟨j,a,aM b⟩,h2,by omega⟩
   ·refine .inr ⟨fun j hj=>?_,h2,.inr h2⟩
    exact aQ fun b=>h1 ((k.mem hil e).1 ⟨j,hj,b⟩)
theorem rg(k:Mf t h g r P Q):eg (B1 t h g r P) (t.rs.length+1):=fun j hj=>by
 rw[k.len] at hj
 have hr:=k.hr
 by_cases e2:j<t.hs.length
 ·rw[k.rl e2]
  by_cases e:j∈P
  ·rw[aC e];omega
  ·rw[aA e];have:=k.ht.toHok.kg j e2;omega
 ·by_cases e4:j=t.hs.length
  ·subst e4;rw[k.ra];omega
  ·have e5:j=t.hs.length+1:=by omega
   subst e5;rw[k.rb];omega
end Mf
theorem Wj{t:Tp}{h g r:Nat}{P Q:List Nat}(k:Mf t h g r P Q)(hn:t.hs.length+2≤256)(hF:t.F+1≤257)(hR:t.rs.length+1≤257)(hrg:eK t r g=true):
 kX (t.V,t.F,t.hs.map tH,t.rs.map tR,(h:Int),(g:Int),())=some (wY (dn ⟨t.V,t.F+1,B1 t h g r P,t.rs++[⟨-1,-1,t.F⟩]⟩) 0):=by
 have ht:=k.ht
 have hk:=ht.toHok
 have hz:=hk.toSz
 have hh:=k.hh
 have hg:=k.hg
 have hr:=k.hr
 have hV1:=ht.V1
 have hF0:=ht.F0
 have hp:=hk.aj hh
 have hq:=hk.aj hg
 have hro:gQ t 2 0 1 1=true:=by
  unfold gQ;simp only[cM,cK];omega
 have rr:dD (t.V,t.F,t.hs.map tH,t.rs.map tR,(2:Int),(0:Int),(1:Int),(1:Int),())=some (true,()):=by
  rw[←hro];exact FZ hz (a:=2) (b:=0) (c:=1) (d:=1) (by decide) (by decide) (by decide) (by decide)
 have hi1:rJ (h:Int) (t.hs.length:Int)=true:=bR.2 ⟨by omega,by omega⟩
 have hi2:rJ (g:Int) (t.hs.length:Int)=true:=bR.2 ⟨by omega,by omega⟩
 have hr1:(hG t.hs h).r=(r:Int):=cH k.cj
 have hr2:(hG t.hs g).r=(r:Int):=cH hrg
 have hw:wr .i64 (t.F+1)=t.F+1:=gN (by omega) (by omega)
 have hlR:aH ((t.rs.set r { rG t.rs r with h:=(t.hs.length:Int),v:=-1 }++[(⟨((t.hs.length+1:Nat):Int),-1,t.F⟩:Rg)]).map tR)=((t.rs.length+1:Nat):Int):=by rw[bC];simp
 have hwR:wr .i64 (((t.rs.length+1:Nat):Int)-1)=(t.rs.length:Int):=by rw[gN (by omega) (by omega)];push_cast;omega
 obtain⟨L1,hL1⟩:∃L1,L1=t.hs++[Hf.mk (hG t.hs h).f 0 0 0,Hf.mk (hG t.hs g).f 0 0 0]:=⟨_,rfl⟩
 have hl1:L1.length=t.hs.length+2:=by rw[hL1];simp
 have g1:∀y,y<t.hs.length→hG L1 y=hG t.hs y:=fun y hy=>by rw[hL1];exact fQ hy
 have lkr:∀(l:List Hf),l.length=t.hs.length+2→∀a b:Nat,a<t.hs.length+2→b<t.hs.length+2→aJ (t.V,t.F,l.map tH,t.rs.map tR,(a:Int),(b:Int),())=some ((lk l a b).map tH,t.rs.map tR,()):=fun l h1 a b h2 h3=>xL (by omega) (by omega)
 have hrr:qH (t.rs.map tR) [tR ⟨((t.hs.length+1:Nat):Int),-1,t.F⟩] 24=some ((t.rs++[(⟨((t.hs.length+1:Nat):Int),-1,t.F⟩:Rg)]).map tR):=by
  rw[rV (by simp only[cS,oB,xC];omega) (by decide),EM];rfl
 have hfold:T.agg [tI ((t.hs.length+1:Nat):Int),tI (-1),tI t.F]=tR ⟨((t.hs.length+1:Nat):Int),-1,t.F⟩:=rfl
 have hsm:=My hk hh hg 0 0 hn
 have s1:=xM (V:=t.V) (F:=t.F+1) (hs:=BL t h g 0 0) (rs:=t.rs++[(⟨((t.hs.length+1:Nat):Int),-1,t.F⟩:Rg)]) (by rw[BZ];omega) (r:=r) (k.ca _ _ _ _ _) (k.bQ 0 0) (fun y hy=>hsm.mc (k.bQ 0 0 y hy)) (by simp;omega)
 have e1:rG (t.rs++[(⟨((t.hs.length+1:Nat):Int),-1,t.F⟩:Rg)]) r=rG t.rs r:=jM hr
 have e2:(t.rs++[(⟨((t.hs.length+1:Nat):Int),-1,t.F⟩:Rg)]).set r { rG t.rs r with h:=(t.hs.length:Int),v:=-1 }=t.rs.set r { rG t.rs r with h:=(t.hs.length:Int),v:=-1 }++[(⟨((t.hs.length+1:Nat):Int),-1,t.F⟩:Rg)]:=by rw[JE,aC hr]
 unfold lJ at s1
 simp only[e1,e2] at s1
 have hsm1:dq (ar (BL t h g 0 0) (t.hs.length::Q) (r:Int)):=hsm.ar (k.bQ 0 0) _
 have hcb:bz (nx ⟨t.V,t.F+1,ar (BL t h g 0 0) (t.hs.length::Q) (r:Int),t.rs.set r { rG t.rs r with h:=(t.hs.length:Int),v:=-1 }++[(⟨((t.hs.length+1:Nat):Int),-1,t.F⟩:Rg)]⟩) (t.hs.length+1) P:=by
  refine(k.cb t.V (t.F+1) (t.rs.set r { rG t.rs r with h:=(t.hs.length:Int),v:=-1 }++[(⟨((t.hs.length+1:Nat):Int),-1,t.F⟩:Rg)]) 0 0).ext fun y hy=>?_
  show ((hG (BL t h g 0 0) y).n).toNat=((hG (ar (BL t h g 0 0) (t.hs.length::Q) (r:Int)) y).n).toNat
  rw[Cj _ _ _ _ (k.bQ 0 0)]
 have hbP:∀y∈(t.hs.length+1)::P,y<(ar (BL t h g 0 0) (t.hs.length::Q) (r:Int)).length:=fun y hy=>by rw[cF];exact k.bP 0 0 y hy
 have s2:=xM (V:=t.V) (F:=t.F+1) (hs:=ar (BL t h g 0 0) (t.hs.length::Q) (r:Int)) (rs:=t.rs.set r { rG t.rs r with h:=(t.hs.length:Int),v:=-1 }++[(⟨((t.hs.length+1:Nat):Int),-1,t.F⟩:Rg)]) (by rw[cF,BZ];omega) (r:=t.rs.length) hcb hbP (fun y hy=>hsm1.mc (hbP y hy)) (by simp)
 have e3:rG (t.rs.set r { rG t.rs r with h:=(t.hs.length:Int),v:=-1 }++[(⟨((t.hs.length+1:Nat):Int),-1,t.F⟩:Rg)]) (t.rs.length:Nat)=⟨((t.hs.length+1:Nat):Int),-1,t.F⟩:=nB (by simp)
 have e4:(t.rs.set r { rG t.rs r with h:=(t.hs.length:Int),v:=-1 }++[(⟨((t.hs.length+1:Nat):Int),-1,t.F⟩:Rg)]).set t.rs.length ⟨((t.hs.length+1:Nat):Int),-1,t.F⟩=t.rs.set r { rG t.rs r with h:=(t.hs.length:Int),v:=-1 }++[(⟨((t.hs.length+1:Nat):Int),-1,t.F⟩:Rg)]:=by rw[JE];simp
 unfold lJ at s2
 simp only[e3,e4,k.lq] at s2
 have hls:=F3 (V:=t.V) (F:=t.F+1) (hs:=B1 t h g r P) (rs:=t.rs.set r { rG t.rs r with h:=(t.hs.length:Int),v:=-1 }++[(⟨((t.hs.length+1:Nat):Int),-1,t.F⟩:Rg)]) (by rw[k.len];omega) (by simp;omega)
 rw[k.fin] at hls
 unfold kX
 by_cases e:h=g
 ·subst e
  have d1:decide ((h:Int)=(h:Int))=true:=aM rfl
  have hLL:lk (lk (lk L1 (pv t h) t.hs.length) t.hs.length h) (t.hs.length+1) (t.hs.length+1)=BL t h h 0 0:=by rw[hL1];unfold BL;rw[aC rfl]
  have g2:hG L1 h=hG t.hs h:=g1 h hh
  simp only[zS,bD ht,fP,bL,hi1,rr,dW (l:=t.hs) (i:=(h:Int)) (by omega) (by omega),jK,sX,mK,hr1,mM hz,aG (n:=(t.hs.length:Int)) (i:=h) (by omega),aU,gI hh,FX (hs:=t.hs) (by omega),←hL1,hl1,aG (n:=((t.hs.length+2:Nat):Int)) (i:=h) (by omega),gI (l:=L1) (k:=h) (by omega),g2,hk.bo hh,lkr L1 hl1 _ _ (by omega:pv t h<_) (by omega:t.hs.length<_),lkr (lk L1 (pv t h) t.hs.length) (by rw[aF,hl1]) _ _ (by omega:t.hs.length<_) (by omega:h<_),lkr (lk (lk L1 (pv t h) t.hs.length) t.hs.length h) (by rw[aF,aF,hl1]) _ _ (by omega:t.hs.length+1<_) (by omega:t.hs.length+1<_),hLL,aW,bS,hfold,hrr,aO,hw,s1,hlR,nO,hwR,s2,hls]
  rfl
 ·have d1:decide ((h:Int)=(g:Int))=false:=aQ (by omega)
  have hLL:lk (lk (lk (lk L1 (pv t h) t.hs.length) t.hs.length g) (pv t g) (t.hs.length+1)) (t.hs.length+1) h=BL t h g 0 0:=by rw[hL1];unfold BL;rw[aA e]
  have g2:hG L1 h=hG t.hs h:=g1 h hh
  have g3:hG L1 g=hG t.hs g:=g1 g hg
  simp only[zS,bD ht,fP,bL,hi1,hi2,rr,dW (l:=t.hs) (i:=(h:Int)) (by omega) (by omega),dW (l:=t.hs) (i:=(g:Int)) (by omega) (by omega),jK,sX,mK,hr1,hr2,d1,mM hz,aG (n:=(t.hs.length:Int)) (i:=h) (by omega),aG (n:=(t.hs.length:Int)) (i:=g) (by omega),aU,gI hh,gI hg,FX (hs:=t.hs) (by omega),←hL1,hl1,aG (n:=((t.hs.length+2:Nat):Int)) (i:=h) (by omega),aG (n:=((t.hs.length+2:Nat):Int)) (i:=g) (by omega),gI (l:=L1) (k:=h) (by omega),gI (l:=L1) (k:=g) (by omega),g2,g3,hk.bo hh,hk.bo hg,lkr L1 hl1 _ _ (by omega:pv t h<_) (by omega:t.hs.length<_),lkr (lk L1 (pv t h) t.hs.length) (by rw[aF,hl1]) _ _ (by omega:t.hs.length<_) (by omega:g<_),lkr (lk (lk L1 (pv t h) t.hs.length) t.hs.length g) (by rw[aF,aF,hl1]) _ _ (by omega:pv t g<_) (by omega:t.hs.length+1<_),lkr (lk (lk (lk L1 (pv t h) t.hs.length) t.hs.length g) (pv t g) (t.hs.length+1)) (by rw[aF,aF,aF,hl1]) _ _ (by omega:t.hs.length+1<_) (by omega:h<_),hLL,aW,bS,hfold,hrr,aO,hw,s1,hlR,nO,hwR,s2,hls]
  rfl
theorem Rr{t:Tp}{h g r:Nat}{P Q:List Nat}(k:Mf t h g r P Q)(hn:t.hs.length+2≤256)(hF:t.F+1≤257)(hR:t.rs.length+1≤257)(hrg:eK t r g=true):
 dU (t.V,t.F,t.hs.map tH,t.rs.map tR,(h:Int),(g:Int),())=some (wY (dn ⟨t.V,t.F+1,B1 t h g r P,t.rs++[⟨-1,-1,t.F⟩]⟩) 0):=by
 have ht:=k.ht
 have hk:=ht.toHok
 have hz:=hk.toSz
 have hh:=k.hh
 have hg:=k.hg
 have hr:=k.hr
 have hV1:=ht.V1
 have hF0:=ht.F0
 have hp:=hk.aj hh
 have hq:=hk.aj hg
 have hro:gQ t 2 0 1 1=true:=by
  unfold gQ;simp only[cM,cK];omega
 have pr:bT (t.V,t.F,t.hs.map tH,t.rs.map tR,(2:Int),(0:Int),(1:Int),(1:Int),())=some (true,()):=by
  rw[←hro];exact F5 hz (a:=2) (b:=0) (c:=1) (d:=1) (by decide) (by decide) (by decide) (by decide)
 have hi1:rJ (h:Int) (t.hs.length:Int)=true:=bR.2 ⟨by omega,by omega⟩
 have hi2:rJ (g:Int) (t.hs.length:Int)=true:=bR.2 ⟨by omega,by omega⟩
 have hr1:(hG t.hs h).r=(r:Int):=cH k.cj
 have hr2:(hG t.hs g).r=(r:Int):=cH hrg
 have hw:wr .i64 (t.F+1)=t.F+1:=gN (by omega) (by omega)
 obtain⟨L1,hL1⟩:∃L1,L1=t.hs++[Hf.mk (hG t.hs h).f 0 0 (r:Int),Hf.mk (hG t.hs g).f 0 0 (t.rs.length:Int)]:=⟨_,rfl⟩
 have hl1:L1.length=t.hs.length+2:=by rw[hL1];simp
 have lkp:∀(l:List Hf) (R:List T),l.length=t.hs.length+2→∀a b:Nat,a<t.hs.length+2→b<t.hs.length+2→aB ((),(a:Int),(b:Int),t.V,t.F+1,l.map tH,R,())=some (t.V,t.F+1,(lk l a b).map tH,R,()):=fun l R h1 a b h2 h3=>xN (by omega) (by omega)
 have hrr:qH (t.rs.map tR) [tR ⟨-1,-1,t.F⟩] 24=some ((t.rs++[(⟨-1,-1,t.F⟩:Rg)]).map tR):=by
  rw[rV (by simp only[cS,oB,xC];omega) (by decide),EM];rfl
 have hfold:T.agg [tI (-1),tI (-1),tI t.F]=tR ⟨-1,-1,t.F⟩:=rfl
 have hsm:=My hk hh hg (r:Int) (t.rs.length:Int) hn
 have hd:=AC (V:=t.V) (F:=t.F+1) (hs:=B1 t h g r P) (rs:=t.rs++[(⟨-1,-1,t.F⟩:Rg)]) (by rw[k.len];omega) (by simp;omega) (by
  have:(t.rs++[(⟨-1,-1,t.F⟩:Rg)]).length=t.rs.length+1:=by simp
  rw[this];exact k.rg)
 unfold dU
 by_cases e:h=g
 ·subst e
  have d1:decide ((h:Int)=(h:Int))=true:=aM rfl
  have hP:=k.emp rfl
  have hid:B1 t h h r P=BL t h h (r:Int) (t.rs.length:Int):=by
   unfold B1
   rw[hP]
   refine Ez (fun x hx=>?_) (fun x hx=>?_)
   ·have:x=t.hs.length+1:=by simpa using hx
    rw[BZ];omega
   ·have:x=t.hs.length+1:=by simpa using hx
    subst this
    rw[TI hk hh hg]
  have hLL:lk (lk (lk L1 (pv t h) t.hs.length) t.hs.length h) (t.hs.length+1) (t.hs.length+1)=B1 t h h r P:=by rw[hid,hL1];unfold BL;rw[aC rfl]
  simp only[zS,bE ht,cE,hi1,pr,dW (l:=t.hs) (i:=(h:Int)) (by omega) (by omega),jK,sX,mK,hr1,oZ hz,bL,bC,aG (n:=(t.hs.length:Int)) (i:=h) (by omega),aU,gI hh,bS,hfold,hrr,aO,hw,F4 (hs:=t.hs) (by omega),←hL1,hk.bo hh,lkp L1 _ hl1 _ _ (by omega:pv t h<_) (by omega:t.hs.length<_),lkp (lk L1 (pv t h) t.hs.length) _ (by rw[aF,hl1]) _ _ (by omega:t.hs.length<_) (by omega:h<_),lkp (lk (lk L1 (pv t h) t.hs.length) t.hs.length h) _ (by rw[aF,aF,hl1]) _ _ (by omega:t.hs.length+1<_) (by omega:t.hs.length+1<_),hLL,hd]
  rfl
 ·have d1:decide ((h:Int)=(g:Int))=false:=aQ (by omega)
  obtain⟨A,hPA,hlast⟩:=k.me e
  have hLL:lk (lk (lk (lk L1 (pv t h) t.hs.length) t.hs.length g) (pv t g) (t.hs.length+1)) (t.hs.length+1) h=BL t h g (r:Int) (t.rs.length:Int):=by rw[hL1];unfold BL;rw[aA e]
  have hcy:=k.cb t.V (t.F+1) (t.rs++[(⟨-1,-1,t.F⟩:Rg)]) (r:Int) (t.rs.length:Int)
  have hasg:=F7 (V:=t.V) (F:=t.F+1) (hs:=BL t h g (r:Int) (t.rs.length:Int)) (rs:=(t.rs++[(⟨-1,-1,t.F⟩:Rg)]).map tR) (r:=(t.rs.length:Int)) (x:=t.hs.length+1) (m:=P) hcy.2 (k.bP _ _) (fun j hj=>by
   have hm:=k.bP (r:Int) (t.rs.length:Int) _ (lS (x:=t.hs.length+1) (m:=P) (k:=j) (by simp;omega))
   rw[hsm.mc (V:=t.V) (F:=t.F+1) (rs:=t.rs++[(⟨-1,-1,t.F⟩:Rg)]) hm,Mz hcy hj]) (last:=pv t g) hlast
  have hH:ar (BL t h g (r:Int) (t.rs.length:Int)) ((t.hs.length+1)::P) (t.rs.length:Int)=B1 t h g r P:=rfl
  rw[hH] at hasg
  simp only[zS,bE ht,cE,hi1,hi2,pr,dW (l:=t.hs) (i:=(h:Int)) (by omega) (by omega),dW (l:=t.hs) (i:=(g:Int)) (by omega) (by omega),jK,sX,mK,hr1,hr2,d1,oZ hz,bL,bC,aG (n:=(t.hs.length:Int)) (i:=h) (by omega),aG (n:=(t.hs.length:Int)) (i:=g) (by omega),aU,gI hh,gI hg,bS,hfold,hrr,aO,hw,F4 (hs:=t.hs) (by omega),←hL1,hk.bo hh,hk.bo hg,lkp L1 _ hl1 _ _ (by omega:pv t h<_) (by omega:t.hs.length<_),lkp (lk L1 (pv t h) t.hs.length) _ (by rw[aF,hl1]) _ _ (by omega:t.hs.length<_) (by omega:g<_),lkp (lk (lk L1 (pv t h) t.hs.length) t.hs.length g) _ (by rw[aF,aF,hl1]) _ _ (by omega:pv t g<_) (by omega:t.hs.length+1<_),lkp (lk (lk (lk L1 (pv t h) t.hs.length) t.hs.length g) (pv t g) (t.hs.length+1)) _ (by rw[aF,aF,aF,hl1]) _ _ (by omega:t.hs.length+1<_) (by omega:h<_),hLL,hasg,hd]
  rfl
theorem Na{l m:List Hf}(he:l.length%2=0)(hl:l.length=m.length){h:Nat}(hh:h<l.length)(hg:∀y:Nat,y<l.length→y/2≠h/2→hG l y=hG m y):dE l h=dE m h:=by
 refine uS (by rw[kU,kU,hl]) fun j hj=>?_
 rw[kU] at hj
 obtain⟨a,b⟩:=HG he hh hj
 rw[BD he hh hj,BD (by omega) (by omega) (by omega),hg _ a b,hl]
theorem zR(a b:Int)(x:Hf):gR a b x=⟨x.f,x.n,x.p,if x.r=a then b else x.r⟩:=by
 unfold gR;by_cases e:x.r=a
 ·rw[aC e,aC e]
 ·rw[aA e,aA e]
theorem Wk(X:Tp)(f:Int){r:Nat}(hr:r<X.rs.length):dR (dF X f) r=dF (dR X r) f:=by
 unfold dR dF
 simp only[cS]
 congr 1
 have hl:X.rs.length-1<X.rs.length:=by omega
 rw[uU _ hl,LE,OY]
theorem MA(X:Tp){r i:Nat}(hr:r<X.rs.length)(hi:i<X.rs.length-1):rG (dR X r).rs i=rG X.rs (if r=i then X.rs.length-1 else i:Nat):=by
 show rG ((X.rs.set r _).take _) i=_
 rw[Qj hi,iD hr]
 by_cases e:r=i
 ·rw[aC e,aC e]
 ·rw[aA e,aA e]
theorem Nb(X:Tp){r i:Nat}(hr:r<X.rs.length)(hi:i<X.rs.length-1)(hno:¬∃k,k<X.hs.length∧(hG X.hs (k:Nat)).r=(r:Int)):(∃k,k<(dR X r).hs.length∧(hG (dR X r).hs (k:Nat)).r=(i:Int))↔∃k,k<X.hs.length∧(hG X.hs (k:Nat)).r=((if r=i then X.rs.length-1 else i:Nat):Int):=by
 have e0:(dR X r).hs=X.hs.map (gR ((X.rs.length-1:Nat):Int) (r:Int)):=rfl
 rw[e0,cS]
 constructor
 ·rintro ⟨k,hk,h⟩
  rw[qQ _ hk,zR] at h
  simp only[] at h
  refine⟨k,hk,?_⟩
  by_cases e1:(hG X.hs (k:Nat)).r=((X.rs.length-1:Nat):Int)
  ·rw[aC e1] at h
   rw[aC (by omega)];exact e1
  ·rw[aA e1] at h
   by_cases e2:r=i
   ·exact absurd ⟨k,hk,by rw[h,e2]⟩ hno
   ·rw[aA e2];exact h
 ·rintro ⟨k,hk,h⟩
  refine⟨k,hk,?_⟩
  rw[qQ _ hk,zR]
  simp only[]
  by_cases e2:r=i
  ·rw[aC e2] at h
   rw[aC h,e2]
  ·rw[aA e2] at h
   rw[aA (by omega)];exact h
structure Ke (t:Tp) (h u w:Nat) (c:List Nat):Prop where
 ht:CKP t
 hh:h<t.hs.length
 hu:u<t.rs.length
 hw:w<t.rs.length
 ru:(hG t.hs h).r=(u:Int)
 rw:(hG t.hs (mt h:Nat)).r=(w:Int)
 ne:u≠w
 hc:bz (nx t) (mt h) c
 hm:∀y,y∈mt h::c↔y<t.hs.length∧eK t w y=true
 na:¬(nx t h=h∧c=[])
def GB(t:Tp)(h:Nat)(l:List Hf):List Hf:=if nx t (mt h)=mt h then lk l (pv t h) (nx t h) else if nx t h=h then lk l (pv t (mt h)) (nx t (mt h)) else lk (lk l (pv t h) (nx t (mt h))) (pv t (mt h)) (nx t h)
theorem pG(t:Tp)(h:Nat)(l:List Hf):(GB t h l).length=l.length:=by
 unfold GB;split
 ·rw[aF]
 ·split
  ·rw[aF]
  ·rw[aF,aF]
namespace Ke
variable {t:Tp} {h u w:Nat} {c:List Nat}
theorem cm(k:Ke t h u w c):mt h<t.hs.length:=kS k.ht.e k.hh
theorem jy(k:Ke t h u w c){y:Nat}(hy:y∈c):y<t.hs.length∧(hG t.hs y).r=(w:Int)∧y≠mt h∧y≠h:=by
 have h1:=(k.hm y).1 (eQ _ hy)
 have h2:=cH h1.2
 refine⟨h1.1,h2,fun e=>(cY.1 k.hc.2).1 (e▸hy),fun e=>?_⟩
 rw[e,k.ru] at h2
 have:=k.ne;omega
theorem mw(k:Ke t h u w c):nx t (mt h)=mt h↔c=[]:=by
 constructor
 ·intro e
  cases c with
  | nil=>rfl
  | cons a A=>exact absurd (k.hc.1.1.symm.trans e) (k.jy (by simp)).2.2.1
 ·intro e;subst e;exact k.hc.1
theorem ld(k:Ke t h u w c)(g:Hf→Hf)(hg:∀x,(g x).f=x.f∧(g x).n=x.n∧(g x).p=x.p){l l':List Hf}(h1:l.length=t.hs.length)(h2:l'.length=t.hs.length)(y:Nat)(hy:(hG l y).f=(hG l' y).f∧(hG l y).n=(hG l' y).n∧(hG l y).p=(hG l' y).p):(hG (GB t h l) y).f=(hG (GB t h l') y).f∧(hG (GB t h l) y).n=(hG (GB t h l') y).n∧(hG (GB t h l) y).p=(hG (GB t h l') y).p∧(hG (GB t h l) y).r=(hG l y).r:=by
 have hk:=k.ht.toHok
 have p1:=hk.aj k.hh
 have p2:=hk.bf k.hh
 have p3:=hk.aj k.cm
 have p4:=hk.bf k.cm
 obtain⟨a,b,d⟩:=hy
 unfold GB
 by_cases e1:nx t (mt h)=mt h
 ·rw[aC e1,aC e1,aY (by omega) (by omega),aY (by omega) (by omega)]
  simp only[a,b,d,UG]
 ·rw[aA e1,aA e1]
  by_cases e2:nx t h=h
  ·rw[aC e2,aC e2,aY (by omega) (by omega),aY (by omega) (by omega)]
   simp only[a,b,d,UG]
  ·rw[aA e2,aA e2,aY (by simp only[aF];omega) (by simp only[aF];omega),aY (by omega) (by omega),aY (by simp only[aF];omega) (by simp only[aF];omega),aY (by omega) (by omega)]
   simp only[a,b,d,UG]
theorem gq(k:Ke t h u w c){l:List Hf}(h1:l.length=t.hs.length)(y:Nat):(hG (GB t h l) y).r=(hG l y).r:=(k.ld id (fun _=>⟨rfl,rfl,rfl⟩) h1 h1 y ⟨rfl,rfl,rfl⟩).2.2.2
theorem jz(k:Ke t h u w c){l:List Hf}(h1:l.length=t.hs.length)(h2:dq l):dq (GB t h l):=by
 have hk:=k.ht.toHok
 have hn:=k.ht.n
 have p1:=hk.aj k.hh
 have p2:=hk.bf k.hh
 have p3:=hk.aj k.cm
 have p4:=hk.bf k.cm
 unfold GB
 split
 ·exact h2.lk (by omega) (by omega) (by omega)
 ·split
  ·exact h2.lk (by omega) (by omega) (by omega)
  ·exact(h2.lk (by omega) (by omega) (by omega)).lk (by simp only[aF];omega) (by simp only[aF];omega) (by simp only[aF];omega)
end Ke
def uV(t:Tp)(h u w:Nat):List Hf:=(GB t h t.hs).map (gR (w:Int) (u:Int))
def MB(t:Tp)(h u w:Nat):Tp:=dR (dF ⟨t.V,t.F,dE (uV t h u w) h,t.rs⟩ (rG t.rs w).c) w
namespace Ke
variable {t:Tp} {h u w:Nat} {c:List Nat}
theorem di(k:Ke t h u w c):(uV t h u w).length=t.hs.length:=by unfold uV;rw[cS,pG]
theorem gu(k:Ke t h u w c){y:Nat}(hy:y<t.hs.length):(hG (uV t h u w) y).r=if (hG t.hs y).r=(w:Int) then (u:Int) else (hG t.hs y).r:=by
 unfold uV
 rw[qQ _ (by rw[pG];exact hy),zR,k.gq rfl]
theorem py(k:Ke t h u w c):dq (uV t h u w):=fun y hy=>by
 rw[k.di] at hy
 have:=k.jz rfl k.ht.toHok.kz y (by rw[pG];exact hy)
 unfold uV
 rw[qQ _ (by rw[pG];exact hy),zR]
 exact this
theorem my(k:Ke t h u w c)(i:Int):(∃j,j<(dE (uV t h u w) h).length∧(hG (dE (uV t h u w) h) (j:Nat)).r=i)↔∃y,y<t.hs.length∧y/2≠h/2∧(if (hG t.hs (y:Nat)).r=(w:Int) then (u:Int) else (hG t.hs (y:Nat)).r)=i:=by
 have h1:=Cp (hs:=uV t h u w) (by rw[k.di];exact k.ht.e) (h:=h) (by rw[k.di];exact k.hh) i
 rw[k.di] at h1
 rw[h1]
 constructor
 ·rintro ⟨y,a,b,d⟩;rw[k.gu a] at d;exact⟨y,a,b,d⟩
 ·rintro ⟨y,a,b,d⟩;exact⟨y,a,b,by rw[k.gu a];exact d⟩
theorem jf(k:Ke t h u w c):¬∃j,j<(dE (uV t h u w) h).length∧(hG (dE (uV t h u w) h) (j:Nat)).r=(w:Int):=by
 rw[k.my]
 rintro ⟨y,_,_,d⟩
 by_cases e:(hG t.hs (y:Nat)).r=(w:Int)
 ·rw[aC e] at d;have:=k.ne;omega
 ·rw[aA e] at d;exact e d
theorem ko(k:Ke t h u w c){o:Nat}(ho:o<t.rs.length)(hne:o≠w):(∃j,j<(dE (uV t h u w) h).length∧(hG (dE (uV t h u w) h) (j:Nat)).r=(o:Int))↔∃j,j<t.hs.length∧(hG t.hs (j:Nat)).r=(o:Int):=by
 have hk:=k.ht.toHok
 rw[k.my]
 constructor
 ·rintro ⟨y,a,b,d⟩
  by_cases e:(hG t.hs (y:Nat)).r=(w:Int)
  ·rw[aC e] at d
   exact⟨h,k.hh,by rw[k.ru];exact d⟩
  ·rw[aA e] at d;exact⟨y,a,d⟩
 ·rintro ⟨y,a,d⟩
  by_cases eu:o=u
  ·subst eu
   cases c with
   | nil=>
    have hx:nx t h≠h:=fun e=>k.na ⟨e,rfl⟩
    have hr:(hG t.hs (nx t h:Nat)).r=(o:Int):=by rw[hk.rg k.hh];exact k.ru
    refine⟨nx t h,hk.bf k.hh,fun e=>?_,by rw[aA (by rw[hr];omega)];exact hr⟩
    rcases qR e with e2 | e2
    ·exact hx e2
    ·rw[e2,k.rw] at hr;omega
   | cons a A=>
    obtain⟨q1,q2,q3,q4⟩:=k.jy (y:=a) (by simp)
    refine⟨a,q1,fun e=>?_,by rw[aC q2]⟩
    rcases qR e with e2 | e2
    ·exact q4 e2
    ·exact q3 e2
  ·refine⟨y,a,fun e=>?_,by rw[aA (by rw[d];omega)];exact d⟩
   rcases qR e with e2 | e2
   ·rw[e2,k.ru] at d;omega
   ·rw[e2,k.rw] at d;omega
theorem gv(k:Ke t h u w c):(MB t h u w).rs.length=t.rs.length-1∧(MB t h u w).hs.length=2*(t.hs.length/2-1):=by
 constructor
 ·have h0:(dF ⟨t.V,t.F,dE (uV t h u w) h,t.rs⟩ (rG t.rs w).c).rs.length=t.rs.length:=by show (t.rs.map _).length=_;simp
  show (((dF ⟨t.V,t.F,dE (uV t h u w) h,t.rs⟩ (rG t.rs w).c).rs.set _ _).take _).length=_
  rw[mU,cW,h0];omega
 ·show ((dE (uV t h u w) h).map _).length=_
  rw[cS,kU,k.di]
theorem fin(k:Ke t h u w c):lz (MB t h u w)=dn (MB t h u w):=by
 have hw:=k.hw
 refine gn fun i hi=>?_
 rw[k.gv.1] at hi
 have hx:(dF ⟨t.V,t.F,dE (uV t h u w) h,t.rs⟩ (rG t.rs w).c).rs.length=t.rs.length:=by show (t.rs.map _).length=_;simp
 have hxh:(dF ⟨t.V,t.F,dE (uV t h u w) h,t.rs⟩ (rG t.rs w).c).hs=dE (uV t h u w) h:=rfl
 have hmem:=Nb (dF ⟨t.V,t.F,dE (uV t h u w) h,t.rs⟩ (rG t.rs w).c) (r:=w) (i:=i) (by rw[hx];exact hw) (by rw[hx];exact hi) (by rw[hxh];exact k.jf)
 have hrow:=MA (dF ⟨t.V,t.F,dE (uV t h u w) h,t.rs⟩ (rG t.rs w).c) (r:=w) (i:=i) (by rw[hx];exact hw) (by rw[hx];exact hi)
 have e1:MB t h u w=dR (dF ⟨t.V,t.F,dE (uV t h u w) h,t.rs⟩ (rG t.rs w).c) w:=rfl
 rw[e1,hmem,hrow,hx,hxh]
 have ho:(if w=i then t.rs.length-1 else i)<t.rs.length:=by split <;> omega
 have hne:(if w=i then t.rs.length-1 else i)≠w:=by
  by_cases e:w=i
  ·rw[aC e];omega
  ·rw[aA e];omega
 generalize (if w=i then t.rs.length-1 else i)=o at ho hne
 have hr2:rG (dF ⟨t.V,t.F,dE (uV t h u w) h,t.rs⟩ (rG t.rs w).c).rs o=gC (t.F-1) (rG t.rs w).c (rG t.rs o):=uU _ ho
 rw[hr2,Cq,Cr,k.ko ho hne]
 rcases k.ht.dy ho with⟨a,b,d⟩ | ⟨a,b,_⟩
 ·exact .inl ⟨a,b,by omega⟩
 ·exact .inr ⟨a,b⟩
theorem rg(k:Ke t h u w c):eg (MB t h u w).hs (MB t h u w).rs.length:=fun j hj=>by
 have hw:=k.hw
 rw[k.gv.2] at hj
 rw[k.gv.1]
 have e:(MB t h u w).hs=(dE (uV t h u w) h).map (gR (((t.rs.map (gC (t.F-1) (rG t.rs w).c)).length-1:Nat):Int) (w:Int)):=rfl
 have hl:(dE (uV t h u w) h).length=2*(t.hs.length/2-1):=by rw[kU,k.di]
 rw[e,qQ _ (by omega),zR,cS]
 have h0:eg (uV t h u w) t.rs.length:=fun y hy=>by
  rw[k.di] at hy
  rw[k.gu hy]
  by_cases e2:(hG t.hs y).r=(w:Int)
  ·rw[aC e2];have:=k.hu;omega
  ·rw[aA e2];exact k.ht.toHok.kg y hy
 have h1:=h0.dE (by rw[k.di];exact k.ht.e) (h:=h) (by rw[k.di];exact k.hh) j (by omega)
 have h2:(hG (dE (uV t h u w) h) (j:Nat)).r≠(w:Int):=fun e3=>k.jf ⟨j,by omega,e3⟩
 simp only[]
 split <;> omega
theorem prog(k:Ke t h u w c):dE (GB t h (ar t.hs c (u:Int))) h=dE (uV t h u w) h:=by
 have hb:∀y∈c,y<t.hs.length:=fun y hy=>(k.jy hy).1
 refine Na (by rw[pG,cF];exact k.ht.e) (by rw[pG,cF,k.di]) (by rw[pG,cF];exact k.hh) fun y hy hne=>?_
 rw[pG,cF] at hy
 have hs:(hG (ar t.hs c (u:Int)) y).f=(hG t.hs y).f∧(hG (ar t.hs c (u:Int)) y).n=(hG t.hs y).n∧(hG (ar t.hs c (u:Int)) y).p=(hG t.hs y).p:=by
  rw[dX _ _ _ _ hb]
  by_cases e:y∈c
  ·rw[aC e];exact⟨rfl,rfl,rfl⟩
  ·rw[aA e];exact⟨rfl,rfl,rfl⟩
 obtain⟨a,b,d,e⟩:=k.ld id (fun _=>⟨rfl,rfl,rfl⟩) (cF _ _ _) rfl y hs
 have hr:(hG (ar t.hs c (u:Int)) y).r=if (hG t.hs y).r=(w:Int) then (u:Int) else (hG t.hs y).r:=by
  rw[dX _ _ _ _ hb]
  by_cases e1:(hG t.hs y).r=(w:Int)
  ·rw[aC e1]
   have:y∈c:=by
    rcases cN.1 ((k.hm y).2 ⟨hy,aM e1⟩) with e2 | e2
    ·exact absurd (by rw[e2,V7]) hne
    ·exact e2
   rw[aC this]
  ·rw[aA e1,aA fun e2=>e1 (k.jy e2).2.1]
 unfold uV
 rw[qQ _ (by rw[pG];exact hy),zR,k.gq rfl,←a,←b,←d,←hr,←e]
end Ke
theorem Xu{t:Tp}{hs:List Hf}(hn:hs.length≤1000)(x0:Int)(u w:Int)(f:T)(a b:Int)(x y:T):bH pS (x0,(),tI u,tI w,f,(),0,a,b,x,y,t.V,t.F,hs.map tH,t.rs.map tR,())=some (.inl (x0,(),tI w,f,(),a,b,x,y,t.V,t.F,(hs.map (gR w u)).map tH,t.rs.map tR,())):=by
 have hl:=bN (F:=pS) hs.length (fun k=>(x0,(),tI u,tI w,f,(),(k:Int),a,b,x,y,t.V,t.F,(mk (gR w u) hs k).map tH,t.rs.map tR,())) (fun k hk=>by
  have hlt:decide ((k:Int)<(hs.length:Int))=true:=aM (by omega)
  have hx:=sL hs k hk
  have hlen:(mk (gR w u) hs k).length=hs.length:=BB _ _ _
  have hg:((mk (gR w u) hs k).map tH)[k]?=some (tH (hG hs k)):=by rw[eW,xP _ _ hk,hx];rfl
  unfold pS
  simp only[zS,aK,bL,hlen,hlt,aG (n:=(hs.length:Int)) (i:=k) (by omega),aU,hg,jK]
  by_cases e:(hG hs k).r=w
  ·have hgx:gR w u (hG hs k)={ hG hs k with r:=u }:=aC e
   rw[←zC (gR w u) hx,hgx]
   simp only[aM e,bF,fI,bS,Hy,CG,aW,aO,wk (k:=k) (by omega)]
  ·rw[yE (gR w u) hx (aA e)]
   simp only[aQ e,bV,fI,aW,aO,wk (k:=k) (by omega)])
 have e0:(x0,(),tI u,tI w,f,(),(0:Int),a,b,x,y,t.V,t.F,hs.map tH,t.rs.map tR,())=(x0,(),tI u,tI w,f,(),((0:Nat):Int),a,b,x,y,t.V,t.F,(mk (gR w u) hs 0).map tH,t.rs.map tR,()):=by rw[wI];rfl
 rw[e0,hl]
 refine bA ?_
 have hlt:decide ((hs.length:Int)<(hs.length:Int))=false:=aQ (by omega)
 unfold pS
 simp only[aK,BC,bL,cS,hlt,bV]
theorem YZ{V F:Int}{hs:List Hf}{rs:List Rg}(hn:hs.length≤1000)(hR:rs.length≤1000){r:Nat}(hr:r<rs.length):bI ((),(r:Int),V,F,hs.map tH,rs.map tR,())=some (oF (dR ⟨V,F,hs,rs⟩ r)):=QU (t:=⟨V,F,hs,rs⟩) hn hR hr
theorem Wl{t:Tp}{h u w:Nat}{c:List Nat}(k:Ke t h u w c)(hf:(rG t.rs w).c≠(rG t.rs u).c)(hcnt:av (uI t (rG t.rs w).c) t.rs.length≤1):
 kY (t.V,t.F,t.hs.map tH,t.rs.map tR,(h:Int),())=some (wY (lz (MB t h u w)) 0):=by
 have ht:=k.ht
 have hk:=ht.toHok
 have hz:=hk.toSz
 have hh:=k.hh
 have hm:=k.cm
 have hu:=k.hu
 have hw:=k.hw
 have hn:=ht.n
 have he:=ht.e
 have hF0:=ht.F0
 have hF1:=ht.F1
 have hR:=ht.R
 have hV1:=ht.V1
 have p1:=hk.aj hh
 have p2:=hk.bf hh
 have p3:=hk.aj hm
 have p4:=hk.bf hm
 have hi1:rJ (h:Int) (t.hs.length:Int)=true:=bR.2 ⟨by omega,by omega⟩
 have d1:decide ((rG t.rs w).c=(rG t.rs u).c)=false:=aQ hf
 have d2:decide ((1:Int)<(av (uI t (rG t.rs w).c) t.rs.length:Int))=false:=aQ (by omega)
 have lkr:∀(l:List Hf) (R:List T),l.length=t.hs.length→∀a b:Nat,a<t.hs.length→b<t.hs.length→aJ (t.V,t.F,l.map tH,R,(a:Int),(b:Int),())=some ((lk l a b).map tH,R,()):=fun l R h1 a b h2 h3=>xL (by omega) (by omega)
 have hL:=pG t h t.hs
 have hkl:=Xu (t:=t) (hs:=GB t h t.hs) (by omega) (h:Int) (u:Int) (w:Int) (tI (rG t.rs w).c) 0 0 (T.v (.slice none 0 0)) (T.v (.slice none 0 0))
 have hA:(GB t h t.hs).map (gR (w:Int) (u:Int))=uV t h u w:=rfl
 rw[hA] at hkl
 have hdr:=V4 (V:=t.V) (F:=t.F) (rs:=t.rs.map tR) (hs:=uV t h u w) (by rw[k.di];omega) (by rw[k.di];exact he) (h:=h) (by rw[k.di];exact hh) k.py
 have hdf:=NB (V:=t.V) (F:=t.F) (hs:=dE (uV t h u w) h) (rs:=t.rs) (by omega) (by omega) (rG t.rs w).c
 obtain⟨X,hX⟩:∃X,X=dF ⟨t.V,t.F,dE (uV t h u w) h,t.rs⟩ (rG t.rs w).c:=⟨_,rfl⟩
 have hXr:X.rs.length=t.rs.length:=by rw[hX];show (t.rs.map _).length=_;simp
 have hXh:X.hs.length≤1000:=by rw[hX];show (dE _ _).length≤_;rw[kU,k.di];omega
 rw[←hX] at hdf
 have hdR:=QS (t:=X) hXh (by omega) (r:=w) (by omega)
 have hXT:dR X w=MB t h u w:=by rw[hX];rfl
 rw[hXT] at hdR
 have hls:=J7 (X:=MB t h u w) (by rw[k.gv.2];omega) (by rw[k.gv.1];omega)
 unfold kY
 by_cases e1:nx t (mt h)=mt h
 ·have hne:nx t h≠h:=fun e=>k.na ⟨e,k.mw.1 e1⟩
  have b1:decide ((nx t (mt h):Int)=(mt h:Int))=true:=aM (by omega)
  have b2:decide ((nx t h:Int)=(h:Int))=false:=aQ (by omega)
  have hK:GB t h t.hs=lk t.hs (pv t h) (nx t h):=aC e1
  rw[hK] at hkl
  simp only[zS,bD ht,fP,bL,hi1,qN (k:=h) (by omega),dW (l:=t.hs) (i:=(h:Int)) (by omega) (by omega),dW (l:=t.hs) (i:=((mt h:Nat):Int)) (by omega) (by omega),jK,mZ,mK,k.ru,k.rw,fO,hJ (l:=t.rs) (i:=(w:Int)) (by omega) (by omega),hJ (l:=t.rs) (i:=(u:Int)) (by omega) (by omega),fA,hk.bd hh,hk.bd hm,hk.bo hh,d1,AE (t:=t) (by omega),aK,d2,b1,b2,mM hz,aG (n:=(t.hs.length:Int)) (i:=h) (by omega),aU,gI hh,lkr t.hs _ rfl _ _ p1 p2,aW,hkl,hdr,hdf,oF,hdR,hls]
  rfl
 ·have b1:decide ((nx t (mt h):Int)=(mt h:Int))=false:=aQ (by omega)
  by_cases e2:nx t h=h
  ·have b2:decide ((nx t h:Int)=(h:Int))=true:=aM (by omega)
   have hK:GB t h t.hs=lk t.hs (pv t (mt h)) (nx t (mt h)):=(aA e1).trans (aC e2)
   rw[hK] at hkl
   simp only[zS,bD ht,fP,bL,hi1,qN (k:=h) (by omega),dW (l:=t.hs) (i:=(h:Int)) (by omega) (by omega),dW (l:=t.hs) (i:=((mt h:Nat):Int)) (by omega) (by omega),jK,mZ,mK,k.ru,k.rw,fO,hJ (l:=t.rs) (i:=(w:Int)) (by omega) (by omega),hJ (l:=t.rs) (i:=(u:Int)) (by omega) (by omega),fA,hk.bd hh,hk.bd hm,hk.bo hh,hk.bo hm,d1,AE (t:=t) (by omega),aK,d2,b1,b2,mM hz,aG (n:=(t.hs.length:Int)) (i:=h) (by omega),aG (n:=(t.hs.length:Int)) (i:=mt h) (by omega),aU,gI hh,gI hm,lkr t.hs _ rfl _ _ p3 p4,aW,hkl,hdr,hdf,oF,hdR,hls]
   rfl
  ·have b2:decide ((nx t h:Int)=(h:Int))=false:=aQ (by omega)
   have hK:GB t h t.hs=lk (lk t.hs (pv t h) (nx t (mt h))) (pv t (mt h)) (nx t h):=(aA e1).trans (aA e2)
   rw[hK] at hkl
   simp only[zS,bD ht,fP,bL,hi1,qN (k:=h) (by omega),dW (l:=t.hs) (i:=(h:Int)) (by omega) (by omega),dW (l:=t.hs) (i:=((mt h:Nat):Int)) (by omega) (by omega),jK,mZ,mK,k.ru,k.rw,fO,hJ (l:=t.rs) (i:=(w:Int)) (by omega) (by omega),hJ (l:=t.rs) (i:=(u:Int)) (by omega) (by omega),fA,hk.bd hh,hk.bd hm,hk.bo hh,hk.bo hm,d1,AE (t:=t) (by omega),aK,d2,b1,b2,mM hz,aG (n:=(t.hs.length:Int)) (i:=h) (by omega),aG (n:=(t.hs.length:Int)) (i:=mt h) (by omega),aU,gI hh,gI hm,lkr t.hs _ rfl _ _ p1 p4,lkr (lk t.hs (pv t h) (nx t (mt h))) _ (by rw[aF]) _ _ p3 p2,aW,hkl,hdr,hdf,oF,hdR,hls]
   rfl
theorem B3{l:List Hf}{xs:List Nat}{r:Int}{a b:Nat}(hb:∀x∈xs,x<l.length)(ha:a<l.length)(hbl:b<l.length):ar (lk l a b) xs r=lk (ar l xs r) a b:=by
 have hb2:∀x∈xs,x<(lk l a b).length:=fun x hx=>by rw[aF];exact hb x hx
 refine uS (by rw[cF,aF,aF,cF]) fun j hj=>?_
 rw[dX _ _ _ _ hb2,aY ha hbl,aY (by rw[cF];exact ha) (by rw[cF];exact hbl),dX _ _ _ _ hb]
 by_cases e:j∈xs
 ·rw[aC e,aC e]
 ·rw[aA e,aA e]
theorem Rs{t:Tp}{h u w:Nat}{c:List Nat}(k:Ke t h u w c)(hf:(rG t.rs w).c≠(rG t.rs u).c)(hcnt:av (uI t (rG t.rs w).c) t.rs.length≤1):
 fW (t.V,t.F,t.hs.map tH,t.rs.map tR,(h:Int),())=some (wY (lz (MB t h u w)) 0):=by
 have ht:=k.ht
 have hk:=ht.toHok
 have hz:=hk.toSz
 have hh:=k.hh
 have hm:=k.cm
 have hu:=k.hu
 have hw:=k.hw
 have hn:=ht.n
 have he:=ht.e
 have hF0:=ht.F0
 have hF1:=ht.F1
 have hR:=ht.R
 have hV1:=ht.V1
 have p1:=hk.aj hh
 have p2:=hk.bf hh
 have p3:=hk.aj hm
 have p4:=hk.bf hm
 have hi1:rJ (h:Int) (t.hs.length:Int)=true:=bR.2 ⟨by omega,by omega⟩
 have d1:decide ((rG t.rs u).c=(rG t.rs w).c)=false:=aQ fun e=>hf e.symm
 have d2:decide ((0:Int)<(av (uI t (rG t.rs w).c) t.rs.length:Int)-1)=false:=aQ (by omega)
 have lkp:∀(l:List Hf) (R:List T),l.length=t.hs.length→∀a b:Nat,a<t.hs.length→b<t.hs.length→aB ((),(a:Int),(b:Int),t.V,t.F,l.map tH,R,())=some (t.V,t.F,(lk l a b).map tH,R,()):=fun l R h1 a b h2 h3=>xN (by omega) (by omega)
 have hbc:∀y∈c,y<t.hs.length:=fun y hy=>(k.jy hy).1
 have hl2:(ar t.hs c (u:Int)).length=t.hs.length:=cF _ _ _
 have hsm2:dq (GB t h (ar t.hs c (u:Int))):=k.jz hl2 (hk.kz.ar hbc _)
 have hdr:=DY (V:=t.V) (F:=t.F) (rs:=t.rs.map tR) (hs:=GB t h (ar t.hs c (u:Int))) (by rw[pG,hl2];omega) (by rw[pG,hl2];exact he) (h:=h) (by rw[pG,hl2];exact hh) hsm2
 rw[k.prog] at hdr
 have hdR:=YZ (V:=t.V) (F:=t.F) (hs:=dE (uV t h u w) h) (rs:=t.rs) (by rw[kU,k.di];omega) (by omega) (r:=w) hw
 obtain⟨X,hX⟩:∃X,X=dR ⟨t.V,t.F,dE (uV t h u w) h,t.rs⟩ w:=⟨_,rfl⟩
 have hXr:X.rs.length≤1000:=by rw[hX];show ((t.rs.set _ _).take _).length≤_;simp;omega
 have hXF:0≤X.F∧X.F≤1000:=by rw[hX];show 0≤t.F∧t.F≤1000;omega
 rw[←hX] at hdR
 have hdf:=QT (t:=X) hXr hXF (rG t.rs w).c
 have hXT:dF X (rG t.rs w).c=MB t h u w:=by rw[hX];exact(Wk (⟨t.V,t.F,dE (uV t h u w) h,t.rs⟩:Tp) (rG t.rs w).c hw).symm
 rw[hXT] at hdf
 have hls:=AC (V:=(MB t h u w).V) (F:=(MB t h u w).F) (hs:=(MB t h u w).hs) (rs:=(MB t h u w).rs) (by rw[k.gv.2];omega) (by rw[k.gv.1];omega) k.rg
 have hgoal:dn ⟨(MB t h u w).V,(MB t h u w).F,(MB t h u w).hs,(MB t h u w).rs⟩=lz (MB t h u w):=k.fin.symm
 unfold fW
 by_cases e1:nx t (mt h)=mt h
 ·have hne:nx t h≠h:=fun e=>k.na ⟨e,k.mw.1 e1⟩
  have hcn:=k.mw.1 e1
  have b1:decide ((nx t (mt h):Int)=(mt h:Int))=true:=aM (by omega)
  have b2:decide ((nx t h:Int)=(h:Int))=false:=aQ (by omega)
  have hK:GB t h (ar t.hs c (u:Int))=lk t.hs (pv t h) (nx t h):=by rw[hcn];exact aC e1
  rw[hK] at hdr
  simp only[zS,bE ht,cE,bL,hi1,rP (k:=h) (by omega),dW (l:=t.hs) (i:=(h:Int)) (by omega) (by omega),dW (l:=t.hs) (i:=((mt h:Nat):Int)) (by omega) (by omega),jK,mZ,mK,k.ru,k.rw,fO,hJ (l:=t.rs) (i:=(w:Int)) (by omega) (by omega),hJ (l:=t.rs) (i:=(u:Int)) (by omega) (by omega),fA,hk.bd hh,hk.bd hm,hk.bo hh,hk.bo hm,d1,BG (t:=t) (by omega) hw,aK,d2,b1,b2,oZ hz,aG (n:=(t.hs.length:Int)) (i:=h) (by omega),aG (n:=(t.hs.length:Int)) (i:=mt h) (by omega),aU,gI hh,gI hm,lkp t.hs _ rfl _ _ p1 p2,aW,hdr,hdR,oF,hdf,hls,hgoal]
  rw[←hgoal];rfl
 ·have b1:decide ((nx t (mt h):Int)=(mt h:Int))=false:=aQ (by omega)
  cases c with
  | nil=>exact absurd (k.mw.2 rfl) e1
  | cons a A=>
   have hfa:nx t (mt h)=a:=k.hc.1.1
   have hlast:pv t (mt h)=rR a A A.length:=by
    have h5:=nX (f:=nx t) (x:=mt h) (a:=a) (m:=A) k.hc.1
    rw[←hk.pn (hbc _ (lS (by simp))),h5]
   have hndc:=(cY.1 k.hc.2).2
   by_cases e2:nx t h=h
   ·have b2:decide ((nx t h:Int)=(h:Int))=true:=aM (by omega)
    have hK:GB t h (ar t.hs (a::A) (u:Int))=ar (lk t.hs (pv t (mt h)) (nx t (mt h))) (a::A) (u:Int):=by
     rw[B3 hbc p3 p4]
     exact(aA e1).trans (aC e2)
    rw[hK] at hdr
    have hasg:=F7 (V:=t.V) (F:=t.F) (hs:=lk t.hs (pv t (mt h)) (nx t (mt h))) (rs:=t.rs.map tR) (r:=(u:Int)) (x:=a) (m:=A) hndc (fun y hy=>by rw[aF];exact hbc y hy) (fun j hj=>by
     have hyl:=hbc _ (lS (x:=a) (m:=A) (k:=j) (by simp;omega))
     rw[aY p3 p4]
     have hne:pv t (mt h)≠rR a A j:=fun e=>by
      rw[hlast] at e
      have i1:(a::A)[A.length]?=some (rR a A A.length):=by rw[dG (by simp),F6]
      have i2:(a::A)[j]?=some (rR a A A.length):=by rw[dG (by simp;omega),F6,e]
      have:=G2 hndc i1 i2
      omega
     simp only[aA hne]
     rw[hk.bd hyl,HE k.hc.1 hj]) (last:=pv t (mt h)) hlast
    have hasg':aR ((),(nx t (mt h):Int),(pv t (mt h):Int),(u:Int),t.V,t.F,(lk t.hs (pv t (mt h)) (nx t (mt h))).map tH,t.rs.map tR,())=some (t.V,t.F,(ar (lk t.hs (pv t (mt h)) (nx t (mt h))) (a::A) (u:Int)).map tH,t.rs.map tR,()):=by
     have h9:=hasg
     rw[←hfa] at h9 ⊢
     exact h9
    simp only[zS,bE ht,cE,bL,hi1,rP (k:=h) (by omega),dW (l:=t.hs) (i:=(h:Int)) (by omega) (by omega),dW (l:=t.hs) (i:=((mt h:Nat):Int)) (by omega) (by omega),jK,mZ,mK,k.ru,k.rw,fO,hJ (l:=t.rs) (i:=(w:Int)) (by omega) (by omega),hJ (l:=t.rs) (i:=(u:Int)) (by omega) (by omega),fA,hk.bd hh,hk.bd hm,hk.bo hh,hk.bo hm,d1,BG (t:=t) (by omega) hw,aK,d2,b1,b2,oZ hz,aG (n:=(t.hs.length:Int)) (i:=h) (by omega),aG (n:=(t.hs.length:Int)) (i:=mt h) (by omega),aU,gI hh,gI hm,lkp t.hs _ rfl _ _ p3 p4,hasg',aW,hdr,hdR,oF,hdf,hls]
    rw[←hgoal];rfl
   ·have b2:decide ((nx t h:Int)=(h:Int))=false:=aQ (by omega)
    have hK:GB t h (ar t.hs (a::A) (u:Int))=lk (lk (ar t.hs (a::A) (u:Int)) (pv t h) (nx t (mt h))) (pv t (mt h)) (nx t h):=(aA e1).trans (aA e2)
    rw[hK] at hdr
    have hasg:=F7 (V:=t.V) (F:=t.F) (hs:=t.hs) (rs:=t.rs.map tR) (r:=(u:Int)) (x:=a) (m:=A) hndc hbc (fun j hj=>by
     have hyl:=hbc _ (lS (x:=a) (m:=A) (k:=j) (by simp;omega))
     rw[hk.bd hyl,HE k.hc.1 hj]) (last:=pv t (mt h)) hlast
    have hasg':aR ((),(nx t (mt h):Int),(pv t (mt h):Int),(u:Int),t.V,t.F,t.hs.map tH,t.rs.map tR,())=some (t.V,t.F,(ar t.hs (a::A) (u:Int)).map tH,t.rs.map tR,()):=by
     rw[hfa];exact hasg
    simp only[zS,bE ht,cE,bL,hi1,rP (k:=h) (by omega),dW (l:=t.hs) (i:=(h:Int)) (by omega) (by omega),dW (l:=t.hs) (i:=((mt h:Nat):Int)) (by omega) (by omega),jK,mZ,mK,k.ru,k.rw,fO,hJ (l:=t.rs) (i:=(w:Int)) (by omega) (by omega),hJ (l:=t.rs) (i:=(u:Int)) (by omega) (by omega),fA,hk.bd hh,hk.bd hm,hk.bo hh,hk.bo hm,d1,BG (t:=t) (by omega) hw,aK,d2,b1,b2,oZ hz,aG (n:=(t.hs.length:Int)) (i:=h) (by omega),aG (n:=(t.hs.length:Int)) (i:=mt h) (by omega),aU,gI hh,gI hm,hasg',lkp (ar t.hs (a::A) (u:Int)) _ hl2 _ _ p1 p4,lkp (lk (ar t.hs (a::A) (u:Int)) (pv t h) (nx t (mt h))) _ (by rw[aF,hl2]) _ _ p3 p2,aW,hdr,hdR,oF,hdf,hls]
    rw[←hgoal];rfl
end Go.Eng.Tl
set_option linter.unusedSectionVars false
namespace Go.Eng.Tl
open Go.Eng
theorem KB{n h k:Nat}:cT n (CH h) k↔k<n∧k/2≠h/2:=by
 rw[fY]
 have:=nH h
 have:=oY h
 constructor
 ·rintro ⟨h1,h2,h3⟩;exact⟨h1,by omega⟩
 ·rintro ⟨h1,h2⟩;exact⟨h1,by omega,by omega⟩
theorem Nd{n h:Nat}(he:n%2=0)(hh:h<n):ic n (CH h) (2*(n/2-1)) (fun _=>true) (CV n h) (Ic (h/2) (n/2-1)):=by
 refine⟨fun k hk=>?_,fun j hj=>?_,fun k hk=>?_,fun j hj=>?_⟩
 ·obtain⟨h1,h2⟩:=KB.1 hk
  refine⟨?_,rfl⟩
  unfold Ic;split <;> omega
 ·exact KB.2 (HG he hh hj.1)
 ·obtain⟨h1,h2⟩:=KB.1 hk
  unfold CV Ic
  by_cases e:k/2=n/2-1
  ·rw[aC e,aC (by omega)];omega
  ·rw[aA e,aA h2]
 ·have:=hj.1
  unfold CV Ic
  by_cases e:j/2=h/2
  ·rw[aC e,aC (by omega)];omega
  ·rw[aA e,aA (by omega)]
theorem Ud{n h k:Nat}:Ic (h/2) (n/2-1) (mt k)=mt (Ic (h/2) (n/2-1) k):=by
 have h1:=nH k
 have h2:=oY k
 unfold Ic
 by_cases e:k/2=n/2-1
 ·rw[aC e,aC (by omega)]
  have:=nH (2*(h/2)+k%2)
  have:=oY (2*(h/2)+k%2)
  omega
 ·rw[aA e,aA (by omega)]
theorem Nf{X:Tp}{R V F:Nat→Bool}{h:Nat}(he:X.hs.length%2=0)(hh:h<X.hs.length)(hw:WV (aZ X) ⟨CH h,R,V,F⟩):WV (aZ { X with hs:=dE X.hs h }) ⟨fun _=>true,R,V,F⟩:=by
 have e1:(aZ { X with hs:=dE X.hs h }).n=2*(X.hs.length/2-1):=kU _ _
 have h1:=hw.mz (m:=aZ X) (Nd he hh) (fun k _=>Ud) (f:=(aZ { X with hs:=dE X.hs h }).f) (r:=(aZ { X with hs:=dE X.hs h }).r) (nx:=(aZ { X with hs:=dE X.hs h }).nx) (pv:=(aZ { X with hs:=dE X.hs h }).pv)
  (fun j hj=>by show (hG (dE X.hs h) j).f.toNat=_;rw[BD he hh hj.1];rfl) (fun j hj=>by show (hG (dE X.hs h) j).r.toNat=_;rw[BD he hh hj.1];rfl)
  (fun j hj=>by show (hG (dE X.hs h) j).n.toNat=_;rw[BD he hh hj.1];rfl) (fun j hj=>by show (hG (dE X.hs h) j).p.toNat=_;rw[BD he hh hj.1];rfl)
 have e:aZ { X with hs:=dE X.hs h }={ aZ X with n:=2*(X.hs.length/2-1),f:=(aZ { X with hs:=dE X.hs h }).f,r:=(aZ { X with hs:=dE X.hs h }).r,nx:=(aZ { X with hs:=dE X.hs h }).nx,pv:=(aZ { X with hs:=dE X.hs h }).pv }:=by
  rw[←e1];rfl
 rw[e];exact h1
theorem Ng{X:Tp}{R V F:Nat→Bool}{h:Nat}(he:X.hs.length%2=0)(hh:h<X.hs.length)(hn:NN X ⟨CH h,R,V,F⟩):NN { X with hs:=dE X.hs h } ⟨fun _=>true,R,V,F⟩:=
 ⟨fun k hk=>by
  have hk:k<2*(X.hs.length/2-1):=by have:=hk.1;rwa[show ({ X with hs:=dE X.hs h }:Tp).hs=dE X.hs h from rfl,kU] at this
  obtain⟨a,b,c,d⟩:=hn.h _ (KB.2 (HG he hh hk))
  show 0≤(hG (dE X.hs h) k).f∧0≤(hG (dE X.hs h) k).n∧0≤(hG (dE X.hs h) k).p∧0≤(hG (dE X.hs h) k).r
  rw[BD he hh hk]
  exact⟨a,by show (0:Int)≤((_:Nat):Int);omega,by show (0:Int)≤((_:Nat):Int);omega,d⟩,hn.c⟩
theorem TK(a b:Int)(x:Hf):gF a b x=⟨if x.f=a then b else x.f,x.n,x.p,x.r⟩:=by
 unfold gF;by_cases e:x.f=a
 ·rw[aC e,aC e]
 ·rw[aA e,aA e]
theorem Y4(a b:Int)(x:Rg):gV a b x=⟨x.h,if x.v=a then b else x.v,x.c⟩:=by
 unfold gV;by_cases e:x.v=a
 ·rw[aC e,aC e]
 ·rw[aA e,aA e]
theorem QW(a b:Int)(x:Rg):gC a b x=⟨x.h,x.v,if x.c=a then b else x.c⟩:=by
 unfold gC;by_cases e:x.c=a
 ·rw[aC e,aC e]
 ·rw[aA e,aA e]
theorem Wm{X:Tp}{R F:Nat→Bool}{v:Int}(hv:0≤v∧v<X.V)(hn:NN X ⟨fun _=>true,R,fun u=>decide (u≠v.toNat),F⟩)(hw:WV (aZ X) ⟨fun _=>true,R,fun u=>decide (u≠v.toNat),F⟩):
 WV (aZ (dV X v)) ⟨fun _=>true,R,fun _=>true,F⟩∧NN (dV X v) ⟨fun _=>true,R,fun _=>true,F⟩:=by
 have lh:(dV X v).hs.length=X.hs.length:=cS ..
 have lr:(dV X v).rs.length=X.rs.length:=cS ..
 have gh:∀k,k<X.hs.length→hG (dV X v).hs (k:Nat)=gF (X.V-1) v (hG X.hs k):=fun k hk=>qQ _ hk
 have gr:∀q,q<X.rs.length→rG (dV X v).rs (q:Nat)=gV (X.V-1) v (rG X.rs q):=fun q hq=>uU _ hq
 refine⟨?_,⟨fun k hk=>?_,fun q hq=>?_⟩⟩
 ·have hren:=J9 (n:=X.V.toNat) (x:=v.toNat) (by omega) (P:=fun u=>decide (u≠v.toNat)) fun k hk=>by rw[cK]
  have h0:WV { aZ X with f:=(aZ X).f,r:=(aZ (dV X v)).r,nx:=(aZ (dV X v)).nx,pv:=(aZ (dV X v)).pv,al:=(aZ (dV X v)).al,rv:=(aZ X).rv,rc:=(aZ (dV X v)).rc } ⟨fun _=>true,R,fun u=>decide (u≠v.toNat),F⟩:=hw.congr (fun _ _=>rfl)
   (fun k hk=>by show (hG (dV X v).hs k).r.toNat=_;rw[gh k hk.1,TK];rfl) (fun k hk=>by show (hG (dV X v).hs k).n.toNat=_;rw[gh k hk.1,TK];rfl) (fun k hk=>by show (hG (dV X v).hs k).p.toNat=_;rw[gh k hk.1,TK];rfl)
   (fun q hq=>by show decide ((rG (dV X v).rs q).h=-1)=_;rw[gr q hq.1,Y4];rfl) (fun _ _ _=>rfl) (fun q hq=>by show (rG (dV X v).rs q).c.toNat=_;rw[gr q hq.1,Y4];rfl)
  have h1:=h0.lu hren (f:=(aZ (dV X v)).f) (rv:=(aZ (dV X v)).rv) (fun k hk=>by
   have h3:=(hn.h k hk).1
   show (hG (dV X v).hs k).f.toNat=if (hG X.hs k).f.toNat=X.V.toNat-1 then v.toNat else (hG X.hs k).f.toNat
   rw[gh k hk.1,TK]
   show (if (hG X.hs k).f=X.V-1 then v else (hG X.hs k).f).toNat=_
   by_cases e:(hG X.hs k).f=X.V-1
   ·rw[aC e,aC (by omega)]
   ·rw[aA e,aA (by omega)]) (fun q hq hl=>by
   have hl:decide ((rG (dV X v).rs q).h=-1)=true:=hl
   rw[gr q hq.1,We] at hl
   have h4:0≤(rG X.rs q).v:=by
    rcases(hn.c q hq).2 with h4 | h4
    ·exact h4.2
    ·exact absurd (cH hl) h4.1
   show (rG (dV X v).rs q).v.toNat=if (rG X.rs q).v.toNat=X.V.toNat-1 then v.toNat else (rG X.rs q).v.toNat
   rw[gr q hq.1,Y4]
   show (if (rG X.rs q).v=X.V-1 then v else (rG X.rs q).v).toNat=_
   by_cases e:(rG X.rs q).v=X.V-1
   ·rw[aC e,aC (by omega)]
   ·rw[aA e,aA (by omega)])
  have e:aZ (dV X v)={ aZ X with V:=X.V.toNat-1,f:=(aZ (dV X v)).f,r:=(aZ (dV X v)).r,nx:=(aZ (dV X v)).nx,pv:=(aZ (dV X v)).pv,al:=(aZ (dV X v)).al,rv:=(aZ (dV X v)).rv,rc:=(aZ (dV X v)).rc }:=by
   show Mp.mk _ _ _ _ _ _ _ _ _ _ _=Mp.mk _ _ _ _ _ _ _ _ _ _ _
   congr 1
   show (X.V-1).toNat=X.V.toNat-1
   omega
  rw[e];exact h1
 ·have hk':k<X.hs.length:=by rw[←lh];exact hk.1
  obtain⟨a,b,c,d⟩:=hn.h k ⟨hk',rfl⟩
  rw[gh k hk',TK]
  refine⟨?_,b,c,d⟩
  show 0≤(if (hG X.hs k).f=X.V-1 then v else (hG X.hs k).f)
  split <;> omega
 ·have hq':q<X.rs.length:=by rw[←lr];exact hq.1
  obtain⟨a,b⟩:=hn.c q ⟨hq',hq.2⟩
  rw[gr q hq',Y4]
  refine⟨a,?_⟩
  show ((rG X.rs q).h=-1∧0≤(if (rG X.rs q).v=X.V-1 then v else (rG X.rs q).v))∨((rG X.rs q).h≠-1∧(if (rG X.rs q).v=X.V-1 then v else (rG X.rs q).v)=-1)
  rcases b with⟨b1,b2⟩ | ⟨b1,b2⟩
  ·exact .inl ⟨b1,by split <;> omega⟩
  ·exact .inr ⟨b1,by rw[aA (by omega)];exact b2⟩
end Go.Eng.Tl
set_option linter.unusedSectionVars false
namespace Go.Eng.Tl
open Go.Eng
theorem Wn{X:Tp}{L R V:Nat→Bool}{c:Int}(hc:0≤c∧c<X.F)(hn:NN X ⟨L,R,V,fun u=>decide (u≠c.toNat)⟩)(hw:WV (aZ X) ⟨L,R,V,fun u=>decide (u≠c.toNat)⟩):
 WV (aZ (dF X c)) ⟨L,R,V,fun _=>true⟩∧NN (dF X c) ⟨L,R,V,fun _=>true⟩:=by
 have lr:(dF X c).rs.length=X.rs.length:=cS ..
 have gr:∀q,q<X.rs.length→rG (dF X c).rs (q:Nat)=gC (X.F-1) c (rG X.rs q):=fun q hq=>uU _ hq
 refine⟨?_,⟨fun k hk=>hn.h k hk,fun q hq=>?_⟩⟩
 ·have hren:=J9 (n:=X.F.toNat) (x:=c.toNat) (by omega) (P:=fun u=>decide (u≠c.toNat)) fun k hk=>by rw[cK]
  have h0:WV { aZ X with f:=(aZ X).f,r:=(aZ X).r,nx:=(aZ X).nx,pv:=(aZ X).pv,al:=(aZ (dF X c)).al,rv:=(aZ (dF X c)).rv,rc:=(aZ X).rc } ⟨L,R,V,fun u=>decide (u≠c.toNat)⟩:=hw.congr (fun _ _=>rfl) (fun _ _=>rfl) (fun _ _=>rfl) (fun _ _=>rfl)
   (fun q hq=>by show decide ((rG (dF X c).rs q).h=-1)=_;rw[gr q hq.1,QW];rfl) (fun q hq _=>by show (rG (dF X c).rs q).v.toNat=_;rw[gr q hq.1,QW];rfl) (fun _ _=>rfl)
  have h1:=h0.lv hren (rc:=(aZ (dF X c)).rc) (fun q hq=>by
   have h3:=(hn.c q hq).1
   show (rG (dF X c).rs q).c.toNat=if (rG X.rs q).c.toNat=X.F.toNat-1 then c.toNat else (rG X.rs q).c.toNat
   rw[gr q hq.1,QW]
   show (if (rG X.rs q).c=X.F-1 then c else (rG X.rs q).c).toNat=_
   by_cases e:(rG X.rs q).c=X.F-1
   ·rw[aC e,aC (by omega)]
   ·rw[aA e,aA (by omega)])
  have e:aZ (dF X c)={ aZ X with F:=X.F.toNat-1,al:=(aZ (dF X c)).al,rv:=(aZ (dF X c)).rv,rc:=(aZ (dF X c)).rc }:=by
   show Mp.mk _ _ _ _ _ _ _ _ _ _ _=Mp.mk _ _ _ _ _ _ _ _ _ _ _
   congr 1
   show (X.F-1).toNat=X.F.toNat-1
   omega
  rw[e];exact h1
 ·have hq':q<X.rs.length:=by rw[←lr];exact hq.1
  obtain⟨a,b⟩:=hn.c q ⟨hq',hq.2⟩
  rw[gr q hq',QW]
  refine⟨?_,b⟩
  show 0≤(if (rG X.rs q).c=X.F-1 then c else (rG X.rs q).c)
  split <;> omega
theorem Rt{X:Tp}{L V F:Nat→Bool}{w:Nat}(hr:w<X.rs.length)(hn:NN X ⟨L,fun q=>decide (q≠w),V,F⟩)(hw:WV (aZ X) ⟨L,fun q=>decide (q≠w),V,F⟩):
 WV (aZ (dR X w)) ⟨L,fun _=>true,V,F⟩∧NN (dR X w) ⟨L,fun _=>true,V,F⟩:=by
 have lh:(dR X w).hs.length=X.hs.length:=cS ..
 have lr:(dR X w).rs.length=X.rs.length-1:=by show ((X.rs.set w _).take _).length=_;rw[mU,cW];omega
 have gh:∀k,k<X.hs.length→hG (dR X w).hs (k:Nat)=gR ((X.rs.length-1:Nat):Int) (w:Int) (hG X.hs k):=fun k hk=>qQ _ hk
 have gr:∀i,i<X.rs.length-1→rG (dR X w).rs (i:Nat)=rG X.rs (if i=w then X.rs.length-1 else i:Nat):=fun i hi=>by
  rw[MA X hr hi]
  by_cases e:i=w
  ·rw[aC e.symm,aC e]
  ·rw[aA fun e2=>e e2.symm,aA e]
 have hren:=J9 (n:=X.rs.length) (x:=w) hr (P:=fun u=>decide (u≠w)) fun k hk=>by rw[cK]
 refine⟨?_,⟨fun k hk=>?_,fun q hq=>?_⟩⟩
 ·have h0:WV { aZ X with f:=(aZ (dR X w)).f,r:=(aZ X).r,nx:=(aZ (dR X w)).nx,pv:=(aZ (dR X w)).pv,al:=(aZ X).al,rv:=(aZ X).rv,rc:=(aZ X).rc } ⟨L,fun q=>decide (q≠w),V,F⟩:=hw.congr
   (fun k hk=>by show (hG (dR X w).hs k).f.toNat=_;rw[gh k hk.1,zR];rfl) (fun _ _=>rfl) (fun k hk=>by show (hG (dR X w).hs k).n.toNat=_;rw[gh k hk.1,zR];rfl) (fun k hk=>by show (hG (dR X w).hs k).p.toNat=_;rw[gh k hk.1,zR];rfl)
   (fun _ _=>rfl) (fun _ _ _=>rfl) (fun _ _=>rfl)
  have h1:=h0.jk hren (r:=(aZ (dR X w)).r) (al:=(aZ (dR X w)).al) (rv:=(aZ (dR X w)).rv) (rc:=(aZ (dR X w)).rc) (fun k hk=>by
   have h3:=(hn.h k hk).2.2.2
   show (hG (dR X w).hs k).r.toNat=if (hG X.hs k).r.toNat=X.rs.length-1 then w else (hG X.hs k).r.toNat
   rw[gh k hk.1,zR]
   show (if (hG X.hs k).r=((X.rs.length-1:Nat):Int) then (w:Int) else (hG X.hs k).r).toNat=_
   by_cases e:(hG X.hs k).r=((X.rs.length-1:Nat):Int)
   ·rw[aC e,aC (by omega)];rfl
   ·rw[aA e,aA (by omega)])
   (fun j hj=>by show decide ((rG (dR X w).rs j).h=-1)=_;rw[gr j hj.1];rfl) (fun j hj _=>by show (rG (dR X w).rs j).v.toNat=_;rw[gr j hj.1];rfl) (fun j hj=>by show (rG (dR X w).rs j).c.toNat=_;rw[gr j hj.1];rfl)
  have e:aZ (dR X w)={ aZ X with n:=(dR X w).hs.length,R:=X.rs.length-1,f:=(aZ (dR X w)).f,r:=(aZ (dR X w)).r,nx:=(aZ (dR X w)).nx,pv:=(aZ (dR X w)).pv,al:=(aZ (dR X w)).al,rv:=(aZ (dR X w)).rv,rc:=(aZ (dR X w)).rc }:=by
   rw[←lr];rfl
  rw[e,lh];exact h1
 ·have hk':k<X.hs.length:=by rw[←lh];exact hk.1
  obtain⟨a,b,c,d⟩:=hn.h k ⟨hk',hk.2⟩
  rw[gh k hk',zR]
  refine⟨a,b,c,?_⟩
  show 0≤(if (hG X.hs k).r=((X.rs.length-1:Nat):Int) then (w:Int) else (hG X.hs k).r)
  split <;> omega
 ·have hq':q<X.rs.length-1:=by rw[←lr];exact hq.1
  rw[gr q hq']
  exact hn.c _ (hren.fr q ⟨hq',rfl⟩)
end Go.Eng.Tl
set_option linter.unusedSectionVars false
namespace Go.Eng.Tl
open Go.Eng
theorem WV.alive{m:Mp}{a:cw}(h:WV m a){R V F:Nat→Bool}(hR:∀q,q<m.R→a.R q=R q)(hV:∀q,q<m.V→a.V q=V q)(hF:∀q,q<m.F→a.F q=F q):WV m ⟨a.L,R,V,F⟩:=by
 have rn:∀(n:Nat) (P Q:Nat→Bool),(∀q,q<n→P q=Q q)→ic n P n Q id id:=fun n P Q hh=>⟨fun k hk=>⟨hk.1,by rw[show id k=k from rfl,←hh k hk.1];exact hk.2⟩,fun k hk=>⟨hk.1,by rw[show id k=k from rfl,hh k hk.1];exact hk.2⟩,fun _ _=>rfl,fun _ _=>rfl⟩
 have h1:=h.jk (rn m.R a.R R hR) (r:=m.r) (al:=m.al) (rv:=m.rv) (rc:=m.rc) (fun _ _=>rfl) (fun _ _=>rfl) (fun _ _ _=>rfl) (fun _ _=>rfl)
 have h2:=h1.lu (rn m.V a.V V hV) (f:=m.f) (rv:=m.rv) (fun _ _=>rfl) (fun _ _ _=>rfl)
 exact h2.lv (rn m.F a.F F hF) (rc:=m.rc) (fun _ _=>rfl)
theorem WV.nm{m:Mp}{a:cw}(h:WV m a){V':Nat}(hV:m.V≤V'):WV { m with V:=V' } { a with V:=fun u=>a.V u&&decide (u<m.V) }:=
 h.lu (s:=id) (i:=id) ⟨fun k hk=>⟨KY hk.1 hV,by show (a.V k&&decide (k<m.V))=true;rw[cM,cK];exact⟨hk.2,hk.1⟩⟩,fun k hk=>⟨cH (iC.1 hk.2).2,(iC.1 hk.2).1⟩,fun _ _=>rfl,fun _ _=>rfl⟩ (f:=m.f) (rv:=m.rv) (fun _ _=>rfl) (fun _ _ _=>rfl)
theorem Nh{t:Tp}(ht:CKP t){r:Nat}(hr:r<t.rs.length)(hs:(rG t.rs r).h=-1)(hn:t.hs.length+2≤256)(hV:t.V+1≤257):CKP (lz (eM t r)):=by
 obtain⟨hw,nn⟩:=ht.wv
 have hV0:=ht.V0
 have hv:=(F8 ht hr hs).1
 have he:=ht.e
 have hset:∀q:Nat,rG (eM t r).rs q=if r=q then { rG t.rs r with h:=(t.hs.length:Int),v:=-1 } else rG t.rs q:=fun q=>iD hr
 have hlr:(eM t r).rs.length=t.rs.length:=cW ..
 refine WV.fe { n:=by rw[oK];exact hn,e:=by rw[oK];omega,V0:=by show (1:Int)≤t.V+1;omega,V1:=hV,F0:=ht.F0,F1:=ht.F1,R:=by rw[hlr];exact ht.R } ⟨fun k hk=>?_,fun q hq=>?_⟩ ?_
 ·have hk:k<t.hs.length+2:=by rw[←oK t r];exact hk.1
  by_cases e1:k<t.hs.length
  ·rw[uH e1];exact nn.h k ⟨e1,rfl⟩
  ·by_cases e2:k=t.hs.length
   ·rw[e2,wH];exact⟨hv,by show (0:Int)≤((_:Nat):Int);omega,by show (0:Int)≤((_:Nat):Int);omega,by show (0:Int)≤(r:Int);omega⟩
   ·have e3:k=t.hs.length+1:=by omega
    rw[e3,xO];exact⟨by show 0≤t.V;omega,by show (0:Int)≤((_:Nat):Int);omega,by show (0:Int)≤((_:Nat):Int);omega,by show (0:Int)≤(r:Int);omega⟩
 ·have hq':q<t.rs.length:=by rw[←hlr];exact hq.1
  obtain⟨n1,n2⟩:=nn.c q ⟨hq',rfl⟩
  rw[hset q]
  by_cases e:r=q
  ·rw[aC e]
   exact⟨by show 0≤(rG t.rs r).c;rw[e];exact n1,.inr ⟨by show (t.hs.length:Int)≠-1;omega,rfl⟩⟩
  ·rw[aA e];exact⟨n1,n2⟩
 ·have h1:=hw.nm (V':=t.V.toNat+1) (by show t.V.toNat≤_;omega)
  have h2:=h1.lf (m:={ aZ t with V:=t.V.toNat+1 }) (R:=fun _=>true) (F:=fun _=>true) (q:=r) (w:=t.V.toNat) he ⟨hr,rfl⟩ (aM hs) (by show t.V.toNat<t.V.toNat+1;omega) (by show (true&&decide (t.V.toNat<t.V.toNat))=false;rw[fM];exact aQ (by omega))
   (f:=(aZ (eM t r)).f) (nx:=(aZ (eM t r)).nx) (pv:=(aZ (eM t r)).pv) (r:=(aZ (eM t r)).r) (al:=(aZ (eM t r)).al) (rv:=(aZ (eM t r)).rv)
   {
    f0:=fun k hk=>by show (hG (eM t r).hs k).f.toNat=_;rw[uH hk];rfl,
    fx:=by show (hG (eM t r).hs (t.hs.length:Nat)).f.toNat=_;rw[wH];rfl,
    fy:=by show (hG (eM t r).hs ((t.hs.length+1:Nat):Int)).f.toNat=_;rw[xO],
    n0:=fun k hk=>by show (hG (eM t r).hs k).n.toNat=_;rw[uH hk];rfl,
    n1:=by show (hG (eM t r).hs (t.hs.length:Nat)).n.toNat=_;rw[wH];rfl,
    n2:=by show (hG (eM t r).hs ((t.hs.length+1:Nat):Int)).n.toNat=_;rw[xO];rfl,
    p0:=fun k hk=>by show (hG (eM t r).hs k).p.toNat=_;rw[uH hk];rfl,
    p1:=by show (hG (eM t r).hs (t.hs.length:Nat)).p.toNat=_;rw[wH];rfl,
    p2:=by show (hG (eM t r).hs ((t.hs.length+1:Nat):Int)).p.toNat=_;rw[xO];rfl,
    r0:=fun k hk=>by show (hG (eM t r).hs k).r.toNat=_;rw[uH hk];rfl,
    rx:=by show (hG (eM t r).hs (t.hs.length:Nat)).r.toNat=_;rw[wH];rfl,
    ry:=by show (hG (eM t r).hs ((t.hs.length+1:Nat):Int)).r.toNat=_;rw[xO];rfl,
    aq:=by show decide ((rG (eM t r).rs r).h=-1)=false;rw[hset r,aC rfl];exact aQ (by show ¬(t.hs.length:Int)=-1;omega),
    a0:=fun p hp hne=>by show decide ((rG (eM t r).rs p).h=-1)=_;rw[hset p,aA (fun e=>hne e.symm)];rfl,
    v0:=fun p hp hne _=>by show (rG (eM t r).rs p).v.toNat=_;rw[hset p,aA (fun e=>hne e.symm)];rfl }
  have h3:=h2.alive (R:=fun _=>true) (V:=fun _=>true) (F:=fun _=>true) (fun _ _=>rfl) (fun u hu=>by
   have hu:u<t.V.toNat+1:=hu
   show ((true&&decide (u<t.V.toNat))||decide (u=t.V.toNat))=true
   rw[fM,pD,cK,cK];omega) (fun _ _=>rfl)
  have h4:=h3.gw (al:=(aZ (eM t r)).al) (rv:=(aZ (eM t r)).rv) (rc:=(aZ (eM t r)).rc) (fun _ _=>rfl) (fun _ _ _=>rfl) (fun q hq=>by
   show (rG (eM t r).rs q).c.toNat=(rG t.rs q).c.toNat
   rw[hset q]
   by_cases e:r=q
   ·rw[aC e,←e]
   ·rw[aA e])
  have e:aZ (eM t r)={ aZ t with n:=t.hs.length+2,V:=t.V.toNat+1,f:=(aZ (eM t r)).f,r:=(aZ (eM t r)).r,nx:=(aZ (eM t r)).nx,pv:=(aZ (eM t r)).pv,al:=(aZ (eM t r)).al,rv:=(aZ (eM t r)).rv,rc:=(aZ (eM t r)).rc }:=by
   show Mp.mk _ _ _ _ _ _ _ _ _ _ _=Mp.mk _ _ _ _ _ _ _ _ _ _ _
   congr 1
   ·exact oK t r
   ·show (t.V+1).toNat=t.V.toNat+1
    omega
  rw[e];exact h4
def fZ(n:Nat)(g:Nat→Int):List T:=(List.range n).map fun v=>tI (g v)
theorem MD(n:Nat)(g:Nat→Int):(fZ n g).length=n:=by simp[fZ]
theorem zF{n:Nat}{g:Nat→Int}{v:Nat}(h:v<n):(fZ n g)[v]?=some (tI (g v)):=by simp[fZ,h]
theorem Nw{n:Nat}{g:Nat→Int}{v:Nat}(h:v<n):cL (fZ n g) (v:Int)=some (tI (g v)):=by rw[A5,zF h]
theorem tS{n:Nat}{g g':Nat→Int}(h:∀v,v<n→g v=g' v):fZ n g=fZ n g':=by
 unfold fZ
 refine OI fun v hv=>?_
 rw[h v (xB.1 hv)]
theorem ME{n:Nat}{g:Nat→Int}{v:Nat}{x:Int}:(fZ n g).set v (tI x)=fZ n (fun w=>if w=v then x else g w):=by
 refine HR fun i=>?_
 rw[qU]
 by_cases hi:i<n
 ·rw[zF (g:=fun w=>if w=v then x else g w) hi]
  by_cases e:v=i
  ·subst e
   rw[aC rfl,aC (by rw[MD];exact hi)]
   exact fL (fun z=>some (tI z)) (aC rfl).symm
  ·rw[aA e,zF hi]
   exact fL (fun z=>some (tI z)) (aA (fun h:i=v=>e h.symm)).symm
 ·have h1:(fZ n g)[i]?=none:=vK (by rw[MD];omega)
  have h2:(fZ n (fun w=>if w=v then x else g w))[i]?=none:=vK (by rw[MD];omega)
  rw[h1,h2]
  split
  ·split
   ·rename_i h3 h4;rw[MD] at h4;omega
   ·rfl
  ·rfl
theorem Cx(n:Nat)(c:Int):List.replicate n (tI c)=fZ n (fun _=>c):=by
 unfold fZ
 rw[List.map_const',OZ]
theorem wJ(n:Nat)(g:Nat→Int):aH (fZ n g)=(n:Int):=by rw[jI,MD]
theorem R3{n i:Nat}(h:i<n):aV (n:Int) (i:Int)=some i:=aG (by omega)
theorem Yz(a b:Nat):RQ false (a:Int) (b:Int)=((min a b:Nat):Int):=by
 unfold RQ;simp only[pB,iK];omega
def ff(t:Tp)(k:Nat):Nat:=(rG t.rs (hG t.hs k).r).c.toNat
def nF(t:Tp):Nat:=t.F.toNat
theorem CKP.iy{t:Tp}(h:CKP t){k:Nat}(hk:k<t.hs.length):(rG t.rs (hG t.hs k).r).c=(ff t k:Int)∧ff t k<nF t:=by
 obtain⟨_,_,_,h1,h2⟩:=iJ.1 (h.b1 k hk)
 obtain⟨r,hr⟩:∃r:Nat,(hG t.hs k).r=(r:Int):=⟨(hG t.hs k).r.toNat,by omega⟩
 have:=h.rc r (by omega)
 unfold ff nF
 rw[hr]
 omega
theorem CKP.dz{t:Tp}(h:CKP t):((nF t:Nat):Int)=t.F∧nF t≤257:=by
 have:=h.F0;have:=h.F1
 unfold nF;omega
open Classical in
noncomputable def rl(t:Tp)(a b:Nat):Bool:=decide (∃k,k<t.hs.length∧ff t k=a∧ff t (mt k)=b)
theorem zG{t:Tp}{a b:Nat}:rl t a b=true↔∃k,k<t.hs.length∧ff t k=a∧ff t (mt k)=b:=by
 unfold rl;exact decide_eq_true_iff
theorem yG{t:Tp}(h:CKP t)(a b:Nat):rl t a b=rl t b a:=by
 have key:∀a b,rl t a b=true→rl t b a=true:=fun a b h1=>by
  obtain⟨k,hk,e1,e2⟩:=zG.1 h1
  exact zG.2 ⟨mt k,kS h.e hk,e2,by rw[qA];exact e1⟩
 cases h1:rl t a b with
 | true=>exact(key a b h1).symm
 | false=>
  cases h2:rl t b a with
  | false=>rfl
  | true=>rw[key b a h2] at h1;cases h1
theorem CKP.idx{t:Tp}(h:CKP t){k:Nat}(hk:k<t.hs.length):cL (t.hs.map tH) (k:Int)=some (tH (hG t.hs k))∧cL (t.rs.map tR) (hG t.hs k).r=some (tR (rG t.rs (hG t.hs k).r)):=by
 obtain⟨_,_,_,h1,h2⟩:=iJ.1 (h.b1 k hk)
 exact⟨dW (by omega) (by omega),hJ h1 h2⟩
def Rv(t:Tp)(i:Nat):Unit×List T×Int×Int×Int×List T×List T×Unit:=((),fZ (nF t) (fun v=>if v<i then (v:Int) else 0),(i:Int),t.V,t.F,t.hs.map tH,t.rs.map tR,())
theorem Za{t:Tp}(h:CKP t){i:Nat}(hi:i<nF t):lN (Rv t i)=some (.inl (Rv t (i+1))):=by
 have hN:=h.dz.2
 have hlt:decide ((i:Int)<(nF t:Int))=true:=aM (by omega)
 unfold lN Rv
 simp only[aK,wJ,hlt,bF,R3 hi,fI,aU,zF hi,bS,DT,aO,wk (k:=i) (by omega),ME]
 have e:fZ (nF t) (fun w=>if w=i then (i:Int) else if w<i then (w:Int) else 0)=fZ (nF t) (fun v=>if v<i+1 then (v:Int) else 0):=tS fun v _=>by
  by_cases e1:v=i
  ·subst e1;rw[aC rfl,aC (by omega)]
  ·rw[aA e1]
   by_cases e2:v<i
   ·rw[aC e2,aC (by omega)]
   ·rw[aA e2,aA (by omega)]
 rw[e]
theorem Qz{t:Tp}:lN (Rv t (nF t))=some (.inr (.inl ((),fZ (nF t) (fun v=>(v:Int)),t.V,t.F,t.hs.map tH,t.rs.map tR,()))):=by
 have hlt:decide ((nF t:Int)<(nF t:Int))=false:=aQ (by omega)
 unfold lN Rv
 simp only[aK,wJ,hlt,bV]
 rw[tS (g:=fun v=>if v<nF t then (v:Int) else 0) (g':=fun v=>(v:Int)) fun v hv=>aC hv]
def Ra(t:Tp)(lb:Nat→Nat)(r k:Nat):Unit×List T×Int×Int×Int×Int×List T×List T×Unit:=((),fZ (nF t) (fun v=>(lb v:Int)),(r:Int),(k:Int),t.V,t.F,t.hs.map tH,t.rs.map tR,())
theorem WO{t:Tp}(h:CKP t){lb:Nat→Nat}{r k:Nat}(hk:k<t.hs.length):lO (Ra t lb r k)=some (.inl (Ra t (jn lb (ff t k) (ff t (mt k))) r (k+1))):=by
 have hn:=h.n
 have hm:=kS h.e hk
 have hlt:decide ((k:Int)<(t.hs.length:Int))=true:=aM (by omega)
 obtain⟨i1,i2⟩:=h.idx hk
 obtain⟨j1,j2⟩:=h.idx hm
 obtain⟨a1,a2⟩:=h.iy hk
 obtain⟨c1,c2⟩:=h.iy hm
 unfold lO Ra
 simp only[aK,bL,hlt,bF,i1,i2,fI,jK,fO,qN (k:=k) (by omega),j1,j2,fA,a1,c1,wJ,R3 a2,R3 c2,aU,zF a2,zF c2,oG,jX,Yz,bS,DT,ME,aO,wk (k:=k) (by omega)]
 rw[tS (g':=fun v=>((jn lb (ff t k) (ff t (mt k)) v:Nat):Int)) fun v _=>by
  unfold jn
  by_cases e1:v=ff t (mt k)
  ·simp only[aC e1]
  ·by_cases e2:v=ff t k
   ·simp only[aA e1,aC e2]
   ·simp only[aA e1,aA e2]]
theorem Nx{t:Tp}(h:CKP t)(lb:Nat→Nat)(r:Nat):bH lO (Ra t lb r 0)=some (.inl ((),fZ (nF t) (fun v=>((Ir (fun k=>ff t k) (fun k=>ff t (mt k)) lb t.hs.length v:Nat):Int)),(r:Int),t.V,t.F,t.hs.map tH,t.rs.map tR,())):=by
 have hlt:decide ((t.hs.length:Int)<(t.hs.length:Int))=false:=aQ (by omega)
 have h1:=bN (F:=lO) t.hs.length (fun k=>Ra t (Ir (fun k=>ff t k) (fun k=>ff t (mt k)) lb k) r k) (fun k hk=>WO h hk)
 have h0:Ra t (Ir (fun k=>ff t k) (fun k=>ff t (mt k)) lb 0) r 0=Ra t lb r 0:=rfl
 rw[←h0,h1]
 refine bA ?_
 unfold lO Ra
 simp only[aK,bL,hlt,bV]
def Un(t:Tp)(r:Nat):Unit×List T×Int×Int×Int×List T×List T×Unit:=((),fZ (nF t) (fun v=>((EC (fun k=>ff t k) (fun k=>ff t (mt k)) t.hs.length r v:Nat):Int)),(r:Int),t.V,t.F,t.hs.map tH,t.rs.map tR,())
theorem Ff{t:Tp}(h:CKP t){r:Nat}(hr:r<nF t):lP (Un t r)=some (.inl (Un t (r+1))):=by
 obtain⟨hN1,hN2⟩:=h.dz
 have hlt:decide ((r:Int)<t.F)=true:=aM (by omega)
 have hl:=Nx h (EC (fun k=>ff t k) (fun k=>ff t (mt k)) t.hs.length r) r
 unfold Ra at hl
 unfold lP Un
 simp only[aK,hlt,bF]
 have e0:((0:Nat):Int)=0:=rfl
 rw[e0] at hl
 rw[hl]
 simp only[fI,aW,aO,wk (k:=r) (by omega)]
 rfl
theorem Rb{t:Tp}(h:CKP t):lP (Un t (nF t))=some (.inr (.inl (fZ (nF t) (fun v=>((iO (nF t) (rl t) v:Nat):Int)),()))):=by
 obtain⟨hN1,hN2⟩:=h.dz
 have hlt:decide ((nF t:Int)<t.F)=false:=aQ (by omega)
 unfold lP Un
 simp only[aK,hlt,bV]
 rw[tS (g':=fun v=>((iO (nF t) (rl t) v:Nat):Int)) fun v hv=>by
  rw[Nv (r:=rl t) (yG h) (fa:=fun k=>ff t k) (fb:=fun k=>ff t (mt k)) (n:=t.hs.length) (fun k hk=>⟨(h.iy hk).2,(h.iy (kS h.e hk)).2,zG.2 ⟨k,hk,rfl,rfl⟩⟩) (fun a b _ hr=>zG.1 hr) hv]]
noncomputable def Rw(t:Tp)(i:Nat):List T×List T×Int×Int×Unit:=(fZ (nF t) (fun v=>((iO (nF t) (rl t) v:Nat):Int)),fZ (nF t) (fun v=>if v<i then ((OF (nF t) (rl t) v:Nat):Int) else 0),((oM (nF t) (rl t) i:Nat):Int),(i:Int),())
theorem Zb{t:Tp}(h:CKP t){i:Nat}(hi:i<nF t):lM (Rw t i)=some (.inl (Rw t (i+1))):=by
 obtain⟨hN1,hN2⟩:=h.dz
 have hlt:decide ((i:Int)<(nF t:Int))=true:=aM (by omega)
 have hle:=HI (r:=rl t) hi
 have hll:=xQ (r:=rl t) (yG h) hi
 have hrk:=OE (N:=nF t) (r:=rl t) i
 have hset:∀x:Int,x=((OF (nF t) (rl t) i:Nat):Int)→fZ (nF t) (fun w=>if w=i then x else if w<i then ((OF (nF t) (rl t) w:Nat):Int) else 0)=fZ (nF t) (fun v=>if v<i+1 then ((OF (nF t) (rl t) v:Nat):Int) else 0):=fun x hx=>tS fun v _=>by
  by_cases e1:v=i
  ·subst e1;rw[aC rfl,aC (by omega),hx]
  ·rw[aA e1]
   by_cases e2:v<i
   ·rw[aC e2,aC (by omega)]
   ·rw[aA e2,aA (by omega)]
 unfold lM Rw
 simp only[zS,aK,wJ,hlt,Nw hi,oG]
 by_cases hc:iO (nF t) (rl t) i=i
 ·have hd:decide (((iO (nF t) (rl t) i:Nat):Int)=(i:Int))=true:=aM (by omega)
  simp only[hd,bF,R3 hi,fI,aU,zF hi,bS,DT,ME,aW,aO,wk (k:=i) (by omega),wk (k:=oM (nF t) (rl t) i) (by omega)]
  rw[hset _ (by unfold OF;rw[hc])]
  have:oM (nF t) (rl t) (i+1)=oM (nF t) (rl t) i+1:=by
   show oM _ _ i+(if _ then 1 else 0)=_
   rw[aC hc]
  rw[this]
 ·have hd:decide (((iO (nF t) (rl t) i:Nat):Int)=(i:Int))=false:=aQ (by omega)
  have hl2:iO (nF t) (rl t) i<nF t:=by omega
  simp only[hd,bV,R3 hi,R3 hl2,fI,aU,zF hi,zF hl2,oG,fO,jX,bS,DT,ME,aW,aO,wk (k:=i) (by omega)]
  rw[hset _ (by rw[aC (by omega)];unfold OF;rw[hll])]
  have:oM (nF t) (rl t) (i+1)=oM (nF t) (rl t) i:=by
   show oM _ _ i+(if _ then 1 else 0)=_
   rw[aA hc];rfl
  rw[this]
noncomputable def shl(t:Tp):List T:=fZ (nF t) (fun v=>((OF (nF t) (rl t) v:Nat):Int))
theorem Ny{t:Tp}(h:CKP t):BH (fZ (nF t) (fun v=>((iO (nF t) (rl t) v:Nat):Int)),())=some (shl t,()):=by
 obtain⟨hN1,hN2⟩:=h.dz
 have hlt:decide ((nF t:Int)<(nF t:Int))=false:=aQ (by omega)
 have l0:=bN (F:=lM) (nF t) (Rw t) (fun k hk=>Zb h hk)
 have l1:bH lM (Rw t (nF t))=some (.inl (shl t,())):=by
  refine bA ?_
  unfold lM Rw
  simp only[aK,wJ,hlt,bV]
  unfold shl
  rw[tS (g:=fun v=>if v<nF t then ((OF (nF t) (rl t) v:Nat):Int) else 0) (g':=fun v=>((OF (nF t) (rl t) v:Nat):Int)) fun v hv=>aC hv]
 unfold BH
 have hmk:vR ((nF t:Nat):Int) ((nF t:Nat):Int) 8=some (nF t,nF t):=A6 (by omega) (by omega) (by omega) (by omega)
 simp only[wJ,hmk,fI,G5,bS,Cx]
 have e0:(fZ (nF t) (fun v=>((iO (nF t) (rl t) v:Nat):Int)),fZ (nF t) (fun _=>0),(0:Int),(0:Int),())=Rw t 0:=by
  unfold Rw
  rw[tS (g:=fun v=>if v<0 then ((OF (nF t) (rl t) v:Nat):Int) else 0) (g':=fun _=>0) fun v _=>aA (by omega)]
  rfl
 rw[e0,l0,l1]
 rfl
theorem Uw{t:Tp}(h:CKP t):GI (oF t)=some (shl t,()):=by
 obtain⟨hN1,hN2⟩:=h.dz
 have l0:=bN (F:=lN) (nF t) (Rv t) (fun k hk=>Za h hk)
 have l0':=bA (Qz (t:=t))
 have l1:=bN (F:=lP) (nF t) (Un t) (fun k hk=>Ff h hk)
 have l1':=bA (Rb h)
 have hck:eO (t.V,t.F,t.hs.map tH,t.rs.map tR,())=some (true,()):=by
  have:=QN t
  rw[HC.2 h] at this
  exact this
 have hmk:vR t.F t.F 8=some (nF t,nF t):=A6 (by omega) (by omega) (by omega) (by omega)
 unfold GI oF
 simp only[hck,fI,BQ,bV,hmk,G5,bS,Cx]
 have e0:((),fZ (nF t) (fun _=>0),(0:Int),t.V,t.F,t.hs.map tH,t.rs.map tR,())=Rv t 0:=by
  unfold Rv
  rw[tS (g:=fun v=>if v<0 then (v:Int) else 0) (g':=fun _=>0) fun v _=>aA (by omega)]
  rfl
 rw[e0,l0,l0']
 simp only[fI,aW]
 have e1:((),fZ (nF t) (fun v=>(v:Int)),(0:Int),t.V,t.F,t.hs.map tH,t.rs.map tR,())=Un t 0:=rfl
 rw[e1,l1,l1']
 simp only[fI,aW,Ny h]
def HJ(t:Tp)(v:Nat):Nat→List Nat
 | 0=>[]
 | k+1=>if ff t k=v then HJ t v k++[ff t (mt k)] else HJ t v k
theorem Fg{t:Tp}{v w:Nat}:∀{k:Nat},w∈HJ t v k↔∃j,j<k∧ff t j=v∧ff t (mt j)=w
 | 0=>by simp[HJ]
 | k+1=>by
  have ih:=Fg (t:=t) (v:=v) (w:=w) (k:=k)
  unfold HJ
  by_cases e:ff t k=v
  ·rw[aC e,fK,ih]
   constructor
   ·rintro (⟨j,a,b,c⟩ | h)
    ·exact⟨j,by omega,b,c⟩
    ·exact⟨k,by omega,e,(by simpa using h:w=ff t (mt k)).symm⟩
   ·rintro ⟨j,a,b,c⟩
    by_cases ej:j=k
    ·subst ej;right;simp[c]
    ·left;exact⟨j,by omega,b,c⟩
  ·rw[aA e,ih]
   constructor
   ·rintro ⟨j,a,b,c⟩;exact⟨j,by omega,b,c⟩
   ·rintro ⟨j,a,b,c⟩
    by_cases ej:j=k
    ·subst ej;exact absurd b e
    ·exact⟨j,by omega,b,c⟩
theorem OG(t:Tp)(v:Nat):∀k,(HJ t v k).length≤k
 | 0=>by simp[HJ]
 | k+1=>by
  have ih:=OG t v k
  unfold HJ
  split
  ·simp;omega
  ·omega
def fR(n:Nat)(g:Nat→List Nat):List (List T):=(List.range n).map fun v=>tN (g v)
theorem MF(n:Nat)(g:Nat→List Nat):(fR n g).length=n:=by simp[fR]
theorem Q1{n:Nat}{g:Nat→List Nat}{v:Nat}(h:v<n):(fR n g)[v]?=some (tN (g v)):=by simp[fR,h]
theorem Uo{n:Nat}{g g':Nat→List Nat}{v:Nat}{l:List Nat}(h:∀w,w<n→g' w=if w=v then l else g w):(fR n g).set v (tN l)=fR n g':=by
 refine HR fun i=>?_
 rw[qU]
 by_cases hi:i<n
 ·rw[Q1 hi,Q1 hi,h i hi]
  by_cases e:v=i
  ·subst e
   rw[aC rfl,aC (by rw[MF];exact hi),aC rfl]
  ·rw[aA e,aA (fun h:i=v=>e h.symm)]
 ·have h1:(fR n g)[i]?=none:=vK (by rw[MF];omega)
  have h2:(fR n g')[i]?=none:=vK (by rw[MF];omega)
  rw[h1,h2]
  split
  ·split
   ·rename_i h3 h4;rw[MF] at h4;omega
   ·rfl
  ·rfl
def Rx(t:Tp)(k:Nat):Unit×List (List T)×List T×Int×Int×Int×Int×List T×List T×Unit:=((),fR (nF t) (fun v=>HJ t v k),t.hs.map tH,(t.hs.length:Int),(k:Int),t.V,t.F,t.hs.map tH,t.rs.map tR,())
theorem Zc{t:Tp}(h:CKP t){k:Nat}(hk:k<t.hs.length):iX (Rx t k)=some (.inl (Rx t (k+1))):=by
 have hn:=h.n
 have hm:=kS h.e hk
 have hlt:decide ((k:Int)<(t.hs.length:Int))=true:=aM (by omega)
 obtain⟨i1,i2⟩:=h.idx hk
 obtain⟨j1,j2⟩:=h.idx hm
 obtain⟨a1,a2⟩:=h.iy hk
 obtain⟨c1,c2⟩:=h.iy hm
 have hlen:=OG t (ff t k) k
 have eN:∀a:Nat,Ri a a=some ():=fun a=>by unfold Ri;exact aC rfl
 have hl1:∀l:List (List T),aH (List.set (fR (nF t) fun v=>HJ t v k) (ff t k) l.flatten)=(nF t:Int):=fun l=>by rw[jI,cW,MF]
 have hrm:qH (tN (HJ t (ff t k) k)) [tI ((ff t (mt k):Nat):Int)] 8=some (tN (HJ t (ff t k) k++[ff t (mt k)])):=by
  rw[rV (by rw[wE];simp;omega) (by omega)]
  rw[VI];rfl
 have hset:(fR (nF t) fun v=>HJ t v k).set (ff t k) (tN (HJ t (ff t k) k++[ff t (mt k)]))=fR (nF t) fun v=>HJ t v (k+1):=Uo fun w _=>by
  show (if ff t k=w then _ else _)=_
  by_cases e:ff t k=w
  ·rw[aC e,aC e.symm,e]
  ·rw[aA e,aA (fun e'=>e e'.symm)]
 have hget:(fR (nF t) fun v=>HJ t v (k+1))[ff t k]?=some (tN (HJ t (ff t k) (k+1))):=Q1 a2
 unfold iX Rx
 simp only[aK,hlt,bF,i1,i2,fI,jK,fO,rP (k:=k) (by omega),j1,j2,fA,a1,c1,jI,MF,R3 a2,aU,Q1 a2,jX,bS,hrm,hset,eN,aO,wk (k:=k) (by omega)]
theorem Rc{t:Tp}:iX (Rx t t.hs.length)=some (.inr (.inl ((),vX 1 (fR (nF t) (fun v=>HJ t v t.hs.length)),t.V,t.F,t.hs.map tH,t.rs.map tR,()))):=by
 have hlt:decide ((t.hs.length:Int)<(t.hs.length:Int))=false:=aQ (by omega)
 unfold iX Rx
 simp only[aK,hlt,bV]
def KE(t:Tp):List T:=vX 1 (fR (nF t) (fun v=>HJ t v t.hs.length))
theorem Ip{t:Tp}{v:Nat}(h:v<nF t):cL (KE t) (v:Int)=some (T.sl 1 (tN (HJ t v t.hs.length))):=by
 rw[A5]
 unfold KE vX
 rw[eW,Q1 h]
 rfl
def Ry(t:Tp)(i:Nat):List T×List T×Int×Int×Unit:=(KE t,fZ (nF t) (fun v=>if v<i then -1 else 0),(nF t:Int),(i:Int),())
theorem Zd{t:Tp}(h:CKP t){i:Nat}(hi:i<nF t):iY (Ry t i)=some (.inl (Ry t (i+1))):=by
 have hN:=h.dz.2
 have hlt:decide ((i:Int)<(nF t:Int))=true:=aM (by omega)
 unfold iY Ry
 simp only[aK,wJ,hlt,bF,R3 hi,fI,aU,zF hi,bS,DT,aO,wk (k:=i) (by omega),ME]
 have e:fZ (nF t) (fun w=>if w=i then (-1:Int) else if w<i then -1 else 0)=fZ (nF t) (fun v=>if v<i+1 then (-1:Int) else 0):=tS fun v _=>by
  by_cases e1:v=i
  ·subst e1;rw[aC rfl,aC (by omega)]
  ·rw[aA e1]
   by_cases e2:v<i
   ·rw[aC e2,aC (by omega)]
   ·rw[aA e2,aA (by omega)]
 rw[e]
theorem Re{t:Tp}:iY (Ry t (nF t))=some (.inr (.inl (KE t,fZ (nF t) (fun _=>-1),()))):=by
 have hlt:decide ((nF t:Int)<(nF t:Int))=false:=aQ (by omega)
 unfold iY Ry
 simp only[aK,hlt,bV]
 rw[tS (g:=fun v=>if v<nF t then (-1:Int) else 0) (g':=fun _=>-1) fun v hv=>aC hv]
def Rz(t:Tp)(out:Nat→Int)(sh:Nat)(todo:List Nat)(i:Nat):List T×List T×Int×List T×Int×Int×Unit:=(KE t,fZ (nF t) out,(sh:Int),tN todo,(nF t:Int),(i:Int),())
theorem Sc{nb:Nat→List Nat}{B:Nat}(h:∀v,(nb v).length≤B)(out:Nat→Int):∀n,wt nb out n≤n*B
 | 0=>by simp[wt]
 | n+1=>by
  have ih:=Sc h out n
  have:=h n
  simp only[wt,tU,ZV]
  split <;> omega
theorem Fh{t:Tp}{out:Nat→Int}{sh i:Nat}:iZ (Rz t out sh [] i)=some (.inr (.inl (KE t,fZ (nF t) out,(sh:Int),(nF t:Int),(i:Int),()))):=by
 unfold iZ Rz
 simp only[aK,jI,wE,xC]
 rfl
theorem Ze{t:Tp}{out:Nat→Int}{sh i g:Nat}{todo:List Nat}(hg:g<nF t)(hl:todo.length≤1000000)(hh:t.hs.length≤256):iZ (Rz t out sh (g::todo) i)=some (.inl (bif decide (out g<0) then Rz t (fun v=>if v=g then (sh:Int) else out v) sh (todo++HJ t g t.hs.length) i else Rz t out sh todo i)):=by
 have hlen:=OG t g t.hs.length
 have hlt:decide ((0:Int)<((g::todo).length:Int))=true:=aM (by simp only[oB];omega)
 have hc:aV ((g::todo).length:Int) (0:Int)=some 0:=aG (i:=0) (by simp only[oB];omega)
 have hcut:JJ ((g::todo).length:Int) (1:Int) ((g::todo).length:Int)=some (1,todo.length):=by
  unfold JJ
  rw[aC ⟨by omega,by simp only[oB];omega,by omega⟩]
  have:(((g::todo).length:Int)-1).toNat=todo.length:=by simp only[oB];omega
  rw[this];rfl
 have hcn:oC (tN (g::todo)) 1 todo.length=tN todo:=by
  have h1:(tN (g::todo)).drop 1=tN todo:=rfl
  have h2:todo.length=(tN todo).length:=by rw[wE]
  unfold oC
  rw[h1,h2,Z9]
 have h0:(tN (g::todo))[0]?=some (tI (g:Int)):=rfl
 have hrm:qH (tN todo) (tN (HJ t g t.hs.length)) 8=some (tN (todo++HJ t g t.hs.length)):=by
  rw[rV (by rw[wE,wE];omega) (by omega),VI]
 have Xb:T.kf 1 (T.sl 1 (tN (HJ t g t.hs.length)))=some (tN (HJ t g t.hs.length)):=Oz _ _ (by omega)
 unfold iZ Rz
 simp only[aK,jI,wE,hlt,bF,hc,fI,aU,h0,hcut,oG,fO,MD,R3 hg,zF hg,jX,Ip hg,Gi,Xb,hcn,hrm,bS,DT,ME]
 cases decide (out g<0) <;> rfl
theorem Nz{t:Tp}(h:CKP t){i:Nat}(hi:i<nF t)(hl:iO (nF t) (rl t) i=i):∀(m:Nat) (out:Nat→Int) (todo:List Nat),iw (nF t) (rl t) i out todo→todo.length+wt (fun v=>HJ t v t.hs.length) out (nF t)≤m→m≤1000000→bH iZ (Rz t out (oM (nF t) (rl t) i) todo i)=some (.inl (KE t,fZ (nF t) (AH (nF t) (rl t) (i+1)),((oM (nF t) (rl t) i:Nat):Int),(nF t:Int),(i:Int),())):=by
 intro m
 induction m with
 | zero=>
  intro out todo hs hm _
  have:todo=[]:=List.length_eq_zero_iff.1 (by omega)
  subst this
  rw[bA Fh,tS (Y7 (yG h) hi hl hs)]
 | succ m ih=>
  intro out todo hs hm hB
  cases todo with
  | nil=>rw[bA Fh,tS (Y7 (yG h) hi hl hs)]
  | cons g todo=>
   obtain⟨hgN,hgl⟩:=hs.td g (by simp)
   simp only[oB] at hm
   rw[vZ (Ze hgN (by omega) h.n)]
   by_cases hg:out g<0
   ·have hd:decide (out g<0)=true:=aM hg
    rw[hd,bF]
    have hnb:∀w,w∈HJ t g t.hs.length↔w<nF t∧rl t g w=true:=fun w=>by
     rw[Fg,zG]
     constructor
     ·rintro ⟨j,a,b,c⟩
      exact⟨by rw[←c];exact(h.iy (kS h.e a)).2,j,a,b,c⟩
     ·rintro ⟨_,j,a,b,c⟩;exact⟨j,a,b,c⟩
    have hw:=Ul (nb:=fun v=>HJ t v t.hs.length) (out:=out) (g:=g) (x:=((oM (nF t) (rl t) i:Nat):Int)) (by omega) hg (nF t)
    rw[aC hgN] at hw
    refine ih _ _ (Nu (yG h) hs hnb) ?_ (by omega)
    rw[tT]
    have:(HJ t g t.hs.length).length=((fun v=>HJ t v t.hs.length) g).length:=rfl
    omega
   ·have hd:decide (out g<0)=false:=aQ hg
    rw[hd,bV]
    exact ih _ _ (Nt (yG h) hs hg) (by omega) (by omega)
def Sd(t:Tp)(out:Nat→Int)(sh i:Nat):List T×List T×Int×Int×Int×Unit:=(KE t,fZ (nF t) out,(sh:Int),(nF t:Int),(i:Int),())
theorem Zf{t:Tp}(h:CKP t){i:Nat}(hi:i<nF t):jA (Sd t (AH (nF t) (rl t) i) (oM (nF t) (rl t) i) i)=some (.inl (Sd t (AH (nF t) (rl t) (i+1)) (oM (nF t) (rl t) (i+1)) (i+1))):=by
 obtain⟨hN1,hN2⟩:=h.dz
 have hlt:decide ((i:Int)<(nF t:Int))=true:=aM (by omega)
 have hle:=HI (r:=rl t) hi
 have hll:=xQ (r:=rl t) (yG h) hi
 have hrk:=OE (N:=nF t) (r:=rl t) i
 unfold jA Sd
 simp only[aK,gH,hlt,bF,wJ,R3 hi,fI,aU,zF hi,oG,jX]
 by_cases hc:iO (nF t) (rl t) i=i
 ·have hd:decide ((0:Int)≤AH (nF t) (rl t) i i)=false:=aQ (by unfold AH;rw[aA (by omega)];omega)
  have hs:=Nz h hi hc 1000000 _ _ (Cv hi hc) (by
   have hB:=Sc (nb:=fun v=>HJ t v t.hs.length) (B:=256) (fun v=>IG (OG t v _) h.n) (AH (nF t) (rl t) i) (nF t)
   have:nF t*256≤257*256:=E9 _ hN2
   simp only[T4];omega) (gU _)
  unfold Rz at hs
  have e1:tN [i]=[tI (i:Int)]:=rfl
  rw[e1] at hs
  simp only[hd,bV,bS,hs,fI,aW,aO,wk (k:=i) (by omega),wk (k:=oM (nF t) (rl t) i) (by omega)]
  have:oM (nF t) (rl t) (i+1)=oM (nF t) (rl t) i+1:=by
   show oM _ _ i+(if _ then 1 else 0)=_
   rw[aC hc]
  rw[this]
 ·have hd:decide ((0:Int)≤AH (nF t) (rl t) i i)=true:=aM (by unfold AH;rw[aC (by omega)];omega)
  have hr:oM (nF t) (rl t) (i+1)=oM (nF t) (rl t) i:=by
   show oM _ _ i+(if _ then 1 else 0)=_
   rw[aA hc];rfl
  simp only[hd,bF,aW,fI,aO,wk (k:=i) (by omega),hr]
  rw[tS (g:=AH (nF t) (rl t) i) (g':=AH (nF t) (rl t) (i+1)) fun v hv=>by
   unfold AH
   have:iO (nF t) (rl t) v≠i:=fun e=>hc (by rw[←e];exact xQ (yG h) hv)
   by_cases e1:iO (nF t) (rl t) v<i
   ·rw[aC e1,aC (by omega)]
   ·rw[aA e1,aA (by omega)]]
theorem Iq{t:Tp}(h:CKP t):lQ (oF t)=some (shl t,()):=by
 obtain⟨hN1,hN2⟩:=h.dz
 have hlt:decide ((nF t:Int)<(nF t:Int))=false:=aQ (by omega)
 have l0:=bN (F:=iX) t.hs.length (Rx t) (fun k hk=>Zc h hk)
 have l0':=bA (Rc (t:=t))
 have l1:=bN (F:=iY) (nF t) (Ry t) (fun k hk=>Zd h hk)
 have l1':=bA (Re (t:=t))
 have l2:=bN (F:=jA) (nF t) (fun i=>Sd t (AH (nF t) (rl t) i) (oM (nF t) (rl t) i) i) (fun k hk=>Zf h hk)
 have l2':bH jA (Sd t (AH (nF t) (rl t) (nF t)) (oM (nF t) (rl t) (nF t)) (nF t))=some (.inl (shl t,())):=by
  refine bA ?_
  unfold jA Sd
  simp only[aK,hlt,bV]
  unfold shl
  rw[tS (g:=AH (nF t) (rl t) (nF t)) (g':=fun v=>((OF (nF t) (rl t) v:Nat):Int)) fun v hv=>by
   unfold AH
   have:=HI (r:=rl t) hv
   rw[aC (by omega)]]
 have hck:bW (t.V,t.F,t.hs.map tH,t.rs.map tR,())=some (true,()):=by
  have:=J5 t
  rw[HC.2 h] at this
  exact this
 have hmk:vR t.F t.F 24=some (nF t,nF t):=A6 (by omega) (by omega) (by omega) (by omega)
 have hmk8:vR t.F t.F 8=some (nF t,nF t):=A6 (by omega) (by omega) (by omega) (by omega)
 unfold lQ oF
 simp only[hck,fI,BQ,bV,hmk,G5,bL]
 have e0:((),List.replicate (nF t) ([]:List T),t.hs.map tH,(t.hs.length:Int),(0:Int),t.V,t.F,t.hs.map tH,t.rs.map tR,())=Rx t 0:=by
  unfold Rx fR
  have:(List.range (nF t)).map (fun v=>tN (HJ t v 0))=List.replicate (nF t) []:=by
   have e:(fun v=>tN (HJ t v 0))=fun _=>([]:List T):=rfl
   rw[e,List.map_const',OZ]
  rw[this];rfl
 rw[e0,l0,l0']
 simp only[fI,aW,hmk8,bS,Cx,wJ]
 have e1:(vX 1 (fR (nF t) fun v=>HJ t v t.hs.length),fZ (nF t) (fun _=>0),(nF t:Int),(0:Int),())=Ry t 0:=by
  unfold Ry
  rw[tS (g:=fun v=>if v<0 then (-1:Int) else 0) (g':=fun _=>0) fun v _=>aA (by omega)]
  rfl
 rw[e1,l1,l1']
 simp only[fI,aW,wJ]
 have e2:(KE t,fZ (nF t) (fun _=>-1),(0:Int),(nF t:Int),(0:Int),())=Sd t (AH (nF t) (rl t) 0) (oM (nF t) (rl t) 0) 0:=by
  unfold Sd
  rw[tS (g:=AH (nF t) (rl t) 0) (g':=fun _=>-1) fun v _=>by unfold AH;exact aA (by omega)]
  rfl
 rw[e2,l2,l2']
 rfl
noncomputable def mx(t:Tp):Nat→Int
 | 0=>0
 | k+1=>max (mx t k) (((OF (nF t) (rl t) k:Nat):Int)+1)
theorem WE{t:Tp}{k:Nat}(hk:k<nF t):OF (nF t) (rl t) k≤k:=by
 have h1:=OE (N:=nF t) (r:=rl t) (iO (nF t) (rl t) k)
 have h2:=HI (r:=rl t) hk
 unfold OF;omega
theorem Se(t:Tp):∀k,k≤nF t→0≤mx t k∧mx t k≤k
 | 0,_=>⟨Ab _,Ab _⟩
 | k+1,h=>by
  have ih:=Se t k (by omega)
  have:=WE (t:=t) (k:=k) (by omega)
  simp only[mx];omega
theorem Xy(a b:Int):RQ true a b=max a b:=by unfold RQ;simp only[eP]
noncomputable def Wu(t:Tp)(k:Nat)(E I:Int):Unit×Unit×List T×Int×Int×Int×Int×Int×Int×Int×Int×Int×Int×Int×Int×Int×Unit:=((),(),shl t,(k:Int),0,0,0,0,0,0,t.V,E,t.F,I,mx t k,0,())
noncomputable def Up(t:Tp)(k:Nat)(E I:Int):Unit×Unit×List T×Int×Int×Int×Int×Int×Int×Int×Int×Int×Int×Int×Int×Int×Int×Unit:=((),(),shl t,(nF t:Int),(k:Int),0,0,0,0,0,0,t.V,E,t.F,I,mx t k,0,())
theorem Fi{t:Tp}{v:Nat}(h:v<nF t):cL (shl t) (v:Int)=some (tI ((OF (nF t) (rl t) v:Nat):Int)):=by unfold shl;rw[Nw h]
theorem WF(t:Tp):aH (shl t)=(nF t:Int):=by unfold shl;rw[wJ]
theorem Yg{t:Tp}(h:CKP t){k:Nat}(hk:k<nF t)(E I:Int):tE (Wu t k E I)=some (.inl (Wu t (k+1) E I)):=by
 have hN:=h.dz.2
 have hlt:decide ((k:Int)<(nF t:Int))=true:=aM (by omega)
 have hc:=WE hk
 unfold tE Wu
 simp only[aK,WF,hlt,bF,Fi hk,fI,oG,jX,aO,wk (k:=k) (by omega),Xy,gN (n:=((OF (nF t) (rl t) k:Nat):Int)+1) (by omega) (by omega)]
 rfl
theorem Xz{t:Tp}(E I:Int):tE (Wu t (nF t) E I)=some (.inr (.inl ((),(),0,0,0,0,0,0,t.V,E,t.F,I,mx t (nF t),0,()))):=by
 have hlt:decide ((nF t:Int)<(nF t:Int))=false:=aQ (by omega)
 unfold tE Wu
 simp only[aK,WF,hlt,bV]
theorem Wv{t:Tp}(h:CKP t){k:Nat}(hk:k<nF t)(E I:Int):jU (Up t k E I)=some (.inl (Up t (k+1) E I)):=by
 have hN:=h.dz.2
 have hlt:decide ((k:Int)<(nF t:Int))=true:=aM (by omega)
 have hc:=WE hk
 unfold jU Up
 simp only[aK,hlt,bF,Fi hk,fI,oG,jX,aO,wk (k:=k) (by omega),Xy,gN (n:=((OF (nF t) (rl t) k:Nat):Int)+1) (by omega) (by omega)]
 rfl
theorem Uq{t:Tp}(E I:Int):jU (Up t (nF t) E I)=some (.inr (.inl ((),(),0,0,0,0,0,0,t.V,E,t.F,I,mx t (nF t),0,()))):=by
 have hlt:decide ((nF t:Int)<(nF t:Int))=false:=aQ (by omega)
 unfold jU Up
 simp only[aK,hlt,bV]
noncomputable def Oa(t:Tp):Int×Int×Int×Int×Int×Int×Bool×Unit:=(t.V,((t.hs.length/2:Nat):Int),t.F,(t.rs.length:Int)-t.F,mx t (nF t),mx t (nF t)-(t.V-((t.hs.length/2:Nat):Int)+t.F-((t.rs.length:Int)-t.F)).tdiv 2,true,())
theorem Ur(x:Int):∃y,x.tdiv 2=y∧(0≤x→y=x/2)∧(x<0→y=-((-x)/2)):=by
 refine⟨_,rfl,fun h=>Ac h,fun h=>?_⟩
 have:x=-(-x):=by omega
 rw[this,Int.neg_tdiv,Ac (by omega)]
 simp
theorem Rf{t:Tp}(h:CKP t):wr .i64 ((t.hs.length:Int).tdiv 2)=((t.hs.length/2:Nat):Int)∧wr .i64 ((t.rs.length:Int)-t.F)=(t.rs.length:Int)-t.F∧wr .i64 (t.V-((t.hs.length/2:Nat):Int))=t.V-((t.hs.length/2:Nat):Int)∧wr .i64 (t.V-((t.hs.length/2:Nat):Int)+t.F)=t.V-((t.hs.length/2:Nat):Int)+t.F∧wr .i64 (t.V-((t.hs.length/2:Nat):Int)+t.F-((t.rs.length:Int)-t.F))=t.V-((t.hs.length/2:Nat):Int)+t.F-((t.rs.length:Int)-t.F)∧wr .i64 ((t.V-((t.hs.length/2:Nat):Int)+t.F-((t.rs.length:Int)-t.F)).tdiv 2)=(t.V-((t.hs.length/2:Nat):Int)+t.F-((t.rs.length:Int)-t.F)).tdiv 2∧wr .i64 (mx t (nF t)-(t.V-((t.hs.length/2:Nat):Int)+t.F-((t.rs.length:Int)-t.F)).tdiv 2)=mx t (nF t)-(t.V-((t.hs.length/2:Nat):Int)+t.F-((t.rs.length:Int)-t.F)).tdiv 2:=by
 have hn:=h.n
 have hV0:=h.V0
 have hV1:=h.V1
 have hF0:=h.F0
 have hF1:=h.F1
 have hR:=h.R
 have hm:=Se t (nF t) (gU _)
 have hN:=h.dz
 have h2:(t.hs.length:Int).tdiv 2=((t.hs.length/2:Nat):Int):=by
  rw[Ac (by omega)];omega
 obtain⟨y,hy,y1,y2⟩:=Ur (t.V-((t.hs.length/2:Nat):Int)+t.F-((t.rs.length:Int)-t.F))
 rw[hy]
 refine⟨by rw[h2];exact gN (by omega) (by omega),gN (by omega) (by omega),gN (by omega) (by omega),gN (by omega) (by omega),gN (by omega) (by omega),gN (by omega) (by omega),gN (by omega) (by omega)⟩
theorem Y8{t:Tp}(h:CKP t):fS (oF t)=some (Oa t):=by
 have hck:bW (t.V,t.F,t.hs.map tH,t.rs.map tR,())=some (true,()):=by
  have:=J5 t
  rw[HC.2 h] at this
  exact this
 have hs:lQ (t.V,t.F,t.hs.map tH,t.rs.map tR,())=some (shl t,()):=Iq h
 obtain⟨w1,w2,w3,w4,w5,w6,w7⟩:=Rf h
 have l0:=fun E I=>bN (F:=jU) (nF t) (fun k=>Up t k E I) (fun k hk=>Wv h hk E I)
 have l1:=fun E I=>bA (Uq (t:=t) E I)
 have l2:=fun E I=>(l0 E I).trans (l1 E I)
 unfold Up at l2
 have e0:mx t 0=0:=rfl
 have e1:((0:Nat):Int)=0:=rfl
 simp only[e0,e1] at l2
 unfold fS oF
 simp only[hck,fI,BQ,bV,hs,bL,bC,WF,vY,nO,aO,w1,w2,l2,aW,w3,w4,w5,w6,w7]
 rfl
end Go.Eng.Tl
set_option linter.unusedSectionVars false
namespace Go.Eng.Tl
open Go.Eng
theorem En{P Q:Nat→Bool}{n m:Nat}{g:Nat→Nat}(h:∀k,k<n→P k=true→g k<m∧Q (g k)=true)(hi:∀j k,j<n→k<n→P j=true→P k=true→g j=g k→j=k):av P n≤av Q m:=by
 rw[N6 P n]
 have hm:∀x,x∈(List.range n).filter P→x<n∧P x=true:=fun x hx=>⟨xB.1 (CO.1 hx).1,(CO.1 hx).2⟩
 have hl:((List.range n).filter P).length=(((List.range n).filter P).map g).length:=(cS ..).symm
 rw[hl]
 refine By (MC (fun x hx y hy e=>hi x y (hm x hx).1 (hm y hy).1 (hm x hx).2 (hm y hy).2 e) (List.nodup_range.sublist List.filter_sublist)) fun x hx=>?_
 obtain⟨y,hy,e⟩:=lE.1 hx
 rw[←e]
 exact h y (hm y hy).1 (hm y hy).2
theorem YH{N:Nat}{r:Nat→Nat→Bool}(l:Nat):oM N r l=av (fun k=>decide (iO N r k=k)) l:=by
 induction l with
 | zero=>rfl
 | succ l ih=>
  simp only[oM,av]
  rw[ih]
  by_cases e:iO N r l=l
  ·rw[aC e,aC (aM e)]
  ·rw[aA e,aA (fun x=>e (cH x))]
open Classical in
theorem Qa{n M:Nat}{r:Nat→Nat→Bool}(hs:∀i j,r i j=r j i){lab:Nat→Nat}{Q:Nat→Bool}(h1:∀k,k<n→lab k<M∧Q (lab k)=true)(h2:∀i j,i<n→j<n→(bt n r i j↔lab i=lab j))(h3:∀q,q<M→Q q=true→∃k,k<n∧lab k=q):RB n r=av Q M:=by
 have hld:∀k,k<n→iO n r k<n∧lab (iO n r k)=lab k:=fun k hk=>by
  have:=(kG (r:=r) hk).1
  exact⟨this.lt.2,((h2 _ _ hk this.lt.2).1 this).symm⟩
 unfold RB
 rw[YH]
 refine Z8 (En (g:=lab) (fun k hk _=>h1 k hk) fun j k hj hk pj pk e=>?_) ?_
 ·have e1:iO n r j=j:=cH pj
  have e2:iO n r k=k:=cH pk
  rw[←e1,←e2]
  exact EB hs ((h2 j k hj hk).2 e)
 ·refine En (g:=fun q=>if h:∃k,k<n∧lab k=q then iO n r (Classical.choose h) else 0) (fun q hq pq=>?_) fun p q hp hq pp pq e=>?_
  ·have h:=h3 q hq pq
   have hc:=LB h
   simp only[LA h]
   obtain⟨a,b⟩:=hld _ hc.1
   exact⟨a,aM (xQ hs hc.1)⟩
  ·have ha:=h3 p hp pp
   have hb:=h3 q hq pq
   simp only[LA ha,LA hb] at e
   have hc:=LB ha
   have hd:=LB hb
   rw[←hc.2,←hd.2,←(hld _ hc.1).2,←(hld _ hd.1).2,e]
section
variable (N:Nat→Nat) (ff:Nat→Nat)
open Classical in
noncomputable def nv(i a b:Nat):Bool:=decide (∃j,j<2*i∧ff j=a∧ff (mt j)=b)
end
section
variable {N:Nat→Nat} {ff:Nat→Nat}
variable {n F:Nat} (he:n%2=0) (hN:∀k,k<n→N k<n) (hi:∀x y,x<n→y<n→N x=N y→x=y) (hF:∀k,k<n→ff k<F) (hff:∀k,k<n→ff (N k)=ff k)
include he hN hi hF hff
end
theorem To{t:Tp}(h:CKP t):mx t (nF t)=(RB (nF t) (rl t):Int):=by
 have key:∀k,k≤nF t→mx t k=(oM (nF t) (rl t) k:Int):=fun k=>by
  induction k with
  | zero=>intro _;rfl
  | succ k ih=>
   intro hk
   simp only[mx,oM]
   rw[ih (by omega)]
   unfold OF
   have hl:=HI (r:=rl t) (N:=nF t) (i:=k) (by omega)
   by_cases e:iO (nF t) (rl t) k=k
   ·rw[aC e,e];omega
   ·rw[aA e]
    have h1:oM (nF t) (rl t) (iO (nF t) (rl t) k+1)≤oM (nF t) (rl t) k:=Hv (by omega)
    simp only[oM] at h1
    rw[aC (xQ (yG h) (by omega))] at h1
    omega
 exact key _ (gU _)
end Go.Eng.Tl
set_option linter.unusedSectionVars false
namespace Go.Eng.Tl
open Go.Eng
section
variable {N P:Nat→Nat} {n a b:Nat} (hN:∀k,k<n→N k<n) (hP:∀k,k<n→P k<n) (PN:∀k,k<n→P (N k)=k) (NP:∀k,k<n→N (P k)=k) (ha:a<n) (hb:b<n) (hab:a≠b)
include hN hP PN NP ha hb hab
theorem Y5{k:Nat}(hk:k<n)(e:N a=b)(ka:k≠a)(kb:k≠b):skip N a b k=if N b=a then N k else if P a=k then N b else N k:=by
 have i1:N k=a→k=P a:=fun e=>by rw[←e,PN k hk]
 have i2:N k=b→k=a:=fun e2=>by rw[←PN k hk,e2,←e,PN a ha]
 have i3:N b=b→b=a:=fun e2=>by rw[←PN b hb,e2,←e,PN a ha]
 have i4:P a=k→N k=a:=fun e=>by rw[←e,NP a ha]
 unfold skip
 have h2:N k≠b:=fun e=>ka (i2 e)
 have h3:N b≠b:=fun e=>hab (i3 e).symm
 by_cases e1:N k=a
 ·have h5:N b≠a:=fun e6=>kb (by rw[←PN k hk,e1,←e6,PN b hb])
  simp only[aC e1,aA h3,aA h5,aC (i1 e1).symm]
 ·have h5:P a≠k:=fun e=>e1 (i4 e)
  simp only[aA e1,aA h2,aA h5,ite_self]
theorem QX{k:Nat}(hk:k<n)(bn:¬(N a=a∧N b=b))(ka:k≠a)(kb:k≠b):skip N a b k=skip N b a k:=by
 have inj:∀y z,y<n→z<n→N y=N z→y=z:=fun y z hy hz e=>by rw[←PN y hy,e,PN z hz]
 have i1:N k=a→N a≠a:=fun e e2=>ka (inj k a hk ha (e.trans e2.symm))
 have i2:N k=b→N b≠b:=fun e e2=>kb (inj k b hk hb (e.trans e2.symm))
 have i3:N k=a→N b≠a:=fun e e2=>kb (inj k b hk hb (e.trans e2.symm))
 have i4:N k=b→N a≠b:=fun e e2=>ka (inj k a hk ha (e.trans e2.symm))
 unfold skip
 by_cases e1:N k=a
 ·have h1:N k≠b:=fun e=>hab (e1.symm.trans e)
  by_cases e2:N b=b
  ·simp only[aC e1,aC e2,aA (i1 e1),aA h1]
  ·simp only[aC e1,aA e2,aA h1,aA hab]
 ·by_cases e2:N k=b
  ·by_cases e3:N a=a
   ·simp only[aA e1,aC e2,aC e3,aA (i2 e2)]
   ·simp only[aA e1,aC e2,aA e3]
  ·simp only[aA e1,aA e2]
theorem TL{k:Nat}(hk:k<n)(e1:N a≠a)(e2:N b≠b)(ka:k≠a)(kb:k≠b):skip N a b k=if P b=k then N a else if P a=k then N b else N k:=by
 have q1:N k=a↔P a=k:=⟨fun e=>by rw[←e,PN k hk],fun e=>by rw[←e,NP a ha]⟩
 have q2:N k=b↔P b=k:=⟨fun e=>by rw[←e,PN k hk],fun e=>by rw[←e,NP b hb]⟩
 unfold skip
 by_cases h1:N k=a
 ·have h2:P b≠k:=fun e=>hab (h1.symm.trans (q2.2 e))
  simp only[aC h1,aA e2,aA h2,aC (q1.1 h1)]
 ·by_cases h2:N k=b
  ·simp only[aA h1,aC h2,aA e1,aC (q2.1 h2)]
  ·simp only[aA h1,aA h2,aA (fun e=>h2 (q2.2 e)),aA (fun e=>h1 (q1.2 e))]
theorem TM{k:Nat}(hk:k<n)(e1:N a≠a)(e2:N b=b)(ka:k≠a)(kb:k≠b):skip N a b k=if P a=k then N a else N k:=by
 have q1:N k=a↔P a=k:=⟨fun e=>by rw[←e,PN k hk],fun e=>by rw[←e,NP a ha]⟩
 have h2:N k≠b:=fun e=>kb (by have h3:=PN k hk;rw[e] at h3;have h4:=PN b hb;rw[e2] at h4;exact h3.symm.trans h4)
 unfold skip
 by_cases h1:N k=a
 ·simp only[aC h1,aC e2,aA e1,aC (q1.1 h1)]
 ·simp only[aA h1,aA h2,aA (fun e=>h1 (q1.2 e))]
end
theorem Hok.fo{t:Tp}(ht:Hok t):(∀k,k<t.hs.length→nx t k<t.hs.length)∧(∀k,k<t.hs.length→pv t k<t.hs.length)∧(∀k,k<t.hs.length→pv t (nx t k)=k)∧∀k,k<t.hs.length→nx t (pv t k)=k:=
 ⟨fun _=>ht.bf,fun _=>ht.aj,fun _=>ht.pn,fun _=>ht.np⟩
theorem QY{t:Tp}(ht:Hok t){a:Nat}(ha:a<t.hs.length)(e:nx t a=mt a){hs:List Hf}
 (h1:∀k,k<t.hs.length→(hG hs k).n=if nx t (mt a)≠a∧pv t a=k then (nx t (mt a):Int) else (hG t.hs k).n)
 (h2:∀k,k<t.hs.length→(hG hs k).p=if nx t (mt a)≠a∧nx t (mt a)=k then (pv t a:Int) else (hG t.hs k).p):bc (aZ t) a (fun k=>(hG hs k).n.toNat) (fun k=>(hG hs k).p.toNat):=by
 obtain⟨hN,hP,PN,NP⟩:=ht.fo
 have hb:=kS ht.e ha
 have hab:a≠mt a:=(rW a).symm
 have hp:pv t (mt a)=a:=by rw[←e,PN a ha]
 refine⟨fun k hk ka kb=>?_,fun k hk ka kb=>?_⟩
 ·show (hG hs k).n.toNat=skip (nx t) a (mt a) k
  rw[Y5 hN hP PN NP ha hb hab hk e ka kb,h1 k hk]
  by_cases e1:nx t (mt a)=a
  ·rw[aC e1,aA (fun x=>x.1 e1)];rfl
  ·rw[aA e1]
   by_cases e2:pv t a=k
   ·rw[aC ⟨e1,e2⟩,aC e2];rfl
   ·rw[aA (fun x=>e2 x.2),aA e2];rfl
 ·show (hG hs k).p.toNat=skip (pv t) a (mt a) k
  have q:¬(pv t a=a∧pv t (mt a)=mt a):=fun x=>hab (hp.symm.trans x.2)
  rw[QX hP hN NP PN ha hb hab hk q ka kb,Y5 hP hN NP PN hb ha hab.symm hk hp kb ka,h2 k hk]
  have e0:pv t a=mt a↔nx t (mt a)=a:=⟨fun e=>by rw[←e,NP a ha],fun e=>by rw[←PN _ hb,e]⟩
  by_cases e1:nx t (mt a)=a
  ·rw[aC (e0.2 e1),aA (fun x=>x.1 e1)];rfl
  ·rw[aA (fun x=>e1 (e0.1 x))]
   by_cases e2:nx t (mt a)=k
   ·rw[aC ⟨e1,e2⟩,aC e2];rfl
   ·rw[aA (fun x=>e2 x.2),aA e2];rfl
theorem OB{t:Tp}(ht:Hok t){h:Nat}(hh:h<t.hs.length)(k:Nat):hG (CW t h) k=⟨(hG t.hs k).f,if nx t (mt h)≠h∧pv t h=k then (nx t (mt h):Int) else (hG t.hs k).n,if nx t (mt h)≠h∧nx t (mt h)=k then (pv t h:Int) else (hG t.hs k).p,(hG t.hs k).r⟩:=by
 unfold CW
 by_cases e:nx t (mt h)=h
 ·rw[aC e,aA (fun x=>x.1 e),aA (fun x=>x.1 e)]
 ·rw[aA e,aY (ht.aj hh) (ht.bf (kS ht.e hh))]
  simp only[vM,e,ZZ,TW]
theorem Qv{t:Tp}(ht:CKP t){h:Nat}(hh:h<t.hs.length)(e:nx t h=mt h):(hG t.hs (mt h:Nat)).f≠(hG t.hs h).f∧(∀k,k<t.hs.length→(hG t.hs k).f=(hG t.hs (mt h:Nat)).f→k=mt h):=by
 have hk:=ht.toHok
 have hb:=kS ht.e hh
 obtain⟨⟨v0,v1⟩,_⟩:=iJ.1 (hk.b1 (mt h) hb)
 obtain⟨v,hv⟩:∃v:Nat,(hG t.hs (mt h:Nat)).f=v:=⟨(hG t.hs (mt h:Nat)).f.toNat,by omega⟩
 have only:∀k,k<t.hs.length→(hG t.hs k).f=(hG t.hs (mt h:Nat)).f→k=mt h:=fun k hkl ef=>by
  rcases ht.vv v (by omega) with⟨_,h2⟩ | ⟨_,ho⟩
  ·have h3:=h2 _ hb
   unfold nP at h3
   rw[aM hv] at h3;cases h3
  ·exact WA ho ⟨hb,aM hv⟩ (by show mt (pv t (mt h))=mt h;have h5:=hk.pn hh;rw[e] at h5;rw[h5]) k ⟨hkl,aM (ef.trans hv)⟩
 exact⟨fun e2=>rW h (only h hh e2.symm).symm,only⟩
theorem Qw{t:Tp}(ht:CKP t){h r:Nat}(hh:h<t.hs.length)(hr:r<t.rs.length)(cj:eK t r h=true)(hnx:nx t h=mt h):CKP (lz (BY t h r)):=by
 obtain⟨hw,nn⟩:=ht.wv
 have hk:=ht.toHok
 have he:=ht.e
 have hb:=kS he hh
 have hr1:(hG t.hs h).r=(r:Int):=cH cj
 obtain⟨⟨v0,v1⟩,_⟩:=iJ.1 (hk.b1 (mt h) hb)
 obtain⟨⟨u0,u1⟩,_⟩:=iJ.1 (hk.b1 h hh)
 obtain⟨hne,only⟩:=Qv ht hh hnx
 let X:Tp:=⟨t.V,t.F,CW t h,HK t h r⟩
 have lh:X.hs.length=t.hs.length:=iR t h
 have lr:X.rs.length=t.rs.length:=yF t h r
 have gh:∀k:Nat,hG X.hs k=_:=fun k=>OB hk hh k
 have gr:∀q:Nat,q<t.rs.length→rG X.rs q=if nx t (mt h)=h∧q=r then { rG t.rs r with h:=-1,v:=(hG t.hs h).f } else rG t.rs q:=fun q hq=>by
  show rG (HK t h r) q=_
  unfold HK
  by_cases e:nx t (mt h)=h
  ·rw[aC e,iD hr]
   by_cases e2:r=q
   ·rw[aC e2,aC ⟨e,e2.symm⟩]
   ·rw[aA e2,aA (fun x=>e2 x.2.symm)]
  ·rw[aA e,aA (fun x=>e x.1)]
 have hrr:(aZ t).r h=r:=by show (hG t.hs h).r.toNat=r;rw[hr1];rfl
 have hg:bc (aZ t) h (aZ X).nx (aZ X).pv:=QY hk hh hnx (fun k _=>by rw[gh k]) (fun k _=>by rw[gh k])
 have hl:¬((aZ t).nx h=h∧(aZ t).nx (mt h)=mt h):=fun x=>rW h (hnx.symm.trans x.1)
 have w1:=hw.ow (al:=(aZ X).al) (rv:=(aZ X).rv) hg hh hnx (fun q hq=>by
  show decide ((rG X.rs q).h=-1)=if nx t (mt h)=h∧q=(aZ t).r h then true else decide ((rG t.rs q).h=-1)
  rw[gr q hq,hrr]
  by_cases e:nx t (mt h)=h∧q=r
  ·rw[aC e,aC e];exact aM rfl
  ·rw[aA e,aA e]) (fun q hq _=>by
  show (rG X.rs q).v.toNat=if nx t (mt h)=h∧q=(aZ t).r h then (hG t.hs h).f.toNat else (rG t.rs q).v.toNat
  rw[gr q hq,hrr]
  by_cases e:nx t (mt h)=h∧q=r
  ·rw[aC e,aC e]
  ·rw[aA e,aA e])
 have w2:=w1.congr (f:=(aZ X).f) (r:=(aZ X).r) (nx:=(aZ X).nx) (pv:=(aZ X).pv) (al:=(aZ X).al) (rv:=(aZ X).rv) (rc:=(aZ X).rc)
  (fun j _=>by show (hG X.hs j).f.toNat=_;rw[gh j];rfl) (fun j _=>by show (hG X.hs j).r.toNat=_;rw[gh j];rfl) (fun _ _=>rfl) (fun _ _=>rfl) (fun _ _=>rfl) (fun _ _ _=>rfl) (fun q hq=>by
   show (rG X.rs q).c.toNat=(rG t.rs q).c.toNat
   rw[gr q hq.1]
   by_cases e:nx t (mt h)=h∧q=r
   ·rw[aC e,e.2]
   ·rw[aA e])
 have e1:aZ X={ aZ t with f:=(aZ X).f,r:=(aZ X).r,nx:=(aZ X).nx,pv:=(aZ X).pv,al:=(aZ X).al,rv:=(aZ X).rv,rc:=(aZ X).rc }:=by
  show Mp.mk _ _ _ _ _ _ _ _ _ _ _=Mp.mk _ _ _ _ _ _ _ _ _ _ _
  rw[lh,lr]
  rfl
 have w3:WV (aZ X) ⟨CH h,fun _=>true,fun v=>decide (v≠(hG t.hs (mt h:Nat)).f.toNat),fun _=>true⟩:=by
  rw[e1];exact w2
 have n3:NN X ⟨CH h,fun _=>true,fun v=>decide (v≠(hG t.hs (mt h:Nat)).f.toNat),fun _=>true⟩:=by
  refine⟨fun k hkk=>?_,fun q hq=>?_⟩
  ·have hk1:k<t.hs.length:=by rw[←lh];exact hkk.1
   obtain⟨a,b,c,d⟩:=nn.h k ⟨hk1,rfl⟩
   rw[gh k]
   refine⟨a,?_,?_,d⟩
   ·show 0≤(if nx t (mt h)≠h∧pv t h=k then (nx t (mt h):Int) else (hG t.hs k).n)
    split <;> omega
   ·show 0≤(if nx t (mt h)≠h∧nx t (mt h)=k then (pv t h:Int) else (hG t.hs k).p)
    split <;> omega
  ·have hq1:q<t.rs.length:=by rw[←lr];exact hq.1
   obtain⟨a,b⟩:=nn.c q ⟨hq1,rfl⟩
   rw[gr q hq1]
   by_cases e:nx t (mt h)=h∧q=r
   ·rw[aC e]
    exact⟨by show 0≤(rG t.rs r).c;rw[←e.2];exact a,.inl ⟨rfl,u0⟩⟩
   ·rw[aA e];exact⟨a,b⟩
 have w4:=Nf (X:=X) (by rw[lh];exact he) (by rw[lh];exact hh) w3
 have n4:=Ng (X:=X) (by rw[lh];exact he) (by rw[lh];exact hh) n3
 obtain⟨w5,n5⟩:=Wm (X:={ X with hs:=dE X.hs h }) (v:=(hG t.hs (mt h:Nat)).f) ⟨v0,v1⟩ n4 w4
 have hl2:=OA t h r
 have hn:=ht.n
 have hV:=ht.V1
 refine WV.fe (t:=BY t h r) { n:=by rw[hl2.1];omega,e:=by rw[hl2.1];omega,V0:=by show 1≤t.V-1;omega,V1:=by show t.V-1≤257;omega,F0:=ht.F0,F1:=ht.F1,R:=by rw[hl2.2];exact ht.R } n5 w5
end Go.Eng.Tl
set_option linter.unusedSectionVars false
namespace Go.Eng.Tl
open Go.Eng
namespace Mf
variable {t:Tp} {h g r:Nat} {P Q:List Nat}
def X(t:Tp)(h g r:Nat)(P:List Nat):Tp:=⟨t.V,t.F+1,B1 t h g r P,t.rs.set r { rG t.rs r with h:=(t.hs.length:Int),v:=-1 }++[⟨((t.hs.length+1:Nat):Int),-1,t.F⟩]⟩
theorem get(k:Mf t h g r P Q)(j:Nat):hG (B1 t h g r P) j=⟨(hG (BL t h g (r:Int) (t.rs.length:Int)) j).f,(hG (BL t h g (r:Int) (t.rs.length:Int)) j).n,(hG (BL t h g (r:Int) (t.rs.length:Int)) j).p,(hG (B1 t h g r P) j).r⟩:=by
 unfold B1
 rw[dX _ _ _ _ (k.bP _ _)]
 by_cases e:j∈(t.hs.length+1)::P
 ·rw[aC e]
 ·rw[aA e]
theorem fe(k:Mf t h g r P Q)(hn:t.hs.length+2≤256)(hF:t.F+1≤257)(hR:t.rs.length+1≤257):CKP (lz (X t h g r P)):=by
 have ht:=k.ht
 obtain⟨hw,nn⟩:=ht.wv
 have hk:=ht.toHok
 have he:=ht.e
 have hh:=k.hh
 have hg:=k.hg
 have hr:=k.hr
 have hr1:(hG t.hs h).r=(r:Int):=cH k.cj
 have hF0:=ht.F0
 have lh:(X t h g r P).hs.length=t.hs.length+2:=k.len
 have lr:(X t h g r P).rs.length=t.rs.length+1:=by show (t.rs.set r _++[_]).length=_;simp
 have gr:∀q:Nat,q<t.rs.length→rG (X t h g r P).rs q=if r=q then { rG t.rs r with h:=(t.hs.length:Int),v:=-1 } else rG t.rs q:=fun q hq=>by
  show rG (t.rs.set r _++[_]) q=_
  rw[jM (by simpa using hq),iD hr]
 have grR:rG (X t h g r P).rs (t.rs.length:Nat)=⟨((t.hs.length+1:Nat):Int),-1,t.F⟩:=nB (by simp)
 have g0:∀j:Nat,j<t.hs.length→(hG (X t h g r P).hs j).f=(hG t.hs j).f∧(hG (X t h g r P).hs j).n=(if h≠g∧pv t g=j then ((t.hs.length+1:Nat):Int) else if pv t h=j then (t.hs.length:Int) else (hG t.hs j).n)∧(hG (X t h g r P).hs j).p=(if h≠g∧h=j then ((t.hs.length+1:Nat):Int) else if g=j then (t.hs.length:Int) else (hG t.hs j).p):=fun j hj=>by
  show (hG (B1 t h g r P) j).f=_∧(hG (B1 t h g r P) j).n=_∧(hG (B1 t h g r P) j).p=_
  rw[k.get j,zD hk hh hg _ _ hj]
  exact⟨rfl,rfl,rfl⟩
 have ga:(hG (X t h g r P).hs (t.hs.length:Nat)).f=(hG t.hs h).f∧(hG (X t h g r P).hs (t.hs.length:Nat)).n=(g:Int)∧(hG (X t h g r P).hs (t.hs.length:Nat)).p=(pv t h:Int):=by
  show (hG (B1 t h g r P) (t.hs.length:Nat)).f=_∧(hG (B1 t h g r P) (t.hs.length:Nat)).n=_∧(hG (B1 t h g r P) (t.hs.length:Nat)).p=_
  rw[k.get _,NC hk hh hg]
  exact⟨rfl,rfl,rfl⟩
 have gb:(hG (X t h g r P).hs ((t.hs.length+1:Nat):Int)).f=(hG t.hs g).f∧(hG (X t h g r P).hs ((t.hs.length+1:Nat):Int)).n=(if h=g then ((t.hs.length+1:Nat):Int) else (h:Int))∧(hG (X t h g r P).hs ((t.hs.length+1:Nat):Int)).p=(if h=g then ((t.hs.length+1:Nat):Int) else (pv t g:Int)):=by
  show (hG (B1 t h g r P) ((t.hs.length+1:Nat):Int)).f=_∧(hG (B1 t h g r P) ((t.hs.length+1:Nat):Int)).n=_∧(hG (B1 t h g r P) ((t.hs.length+1:Nat):Int)).p=_
  rw[k.get _,TI hk hh hg]
  exact⟨rfl,rfl,rfl⟩
 have hp:=hk.aj hh
 have hq:=hk.aj hg
 have pne:h≠g→pv t h≠pv t g:=fun e e2=>e (by rw[←hk.np hh,e2,hk.np hg])
 have ends:Ends (aZ t) h g (aZ (X t h g r P)).f (aZ (X t h g r P)).nx (aZ (X t h g r P)).pv:=
  {
   f0:=fun j hj=>by show (hG (X t h g r P).hs j).f.toNat=_;rw[(g0 j hj).1];rfl,
   fx:=by show (hG (X t h g r P).hs (t.hs.length:Nat)).f.toNat=_;rw[ga.1];rfl,
   fy:=by show (hG (X t h g r P).hs ((t.hs.length+1:Nat):Int)).f.toNat=_;rw[gb.1];rfl,
   n0:=fun j hj e1 e2=>by
    show (hG (X t h g r P).hs j).n.toNat=_
    rw[(g0 j hj).2.1,aA (fun x=>e2 x.2.symm),aA (fun x=>e1 x.symm)];rfl,
   n1:=fun e=>by
    refine⟨?_,?_,?_,?_⟩
    ·show (hG (X t h g r P).hs (pv t h)).n.toNat=_
     rw[(g0 _ hp).2.1,aA (fun x=>pne e x.2.symm),aC rfl];rfl
    ·show (hG (X t h g r P).hs (t.hs.length:Nat)).n.toNat=_
     rw[ga.2.1];rfl
    ·show (hG (X t h g r P).hs (pv t g)).n.toNat=_
     rw[(g0 _ hq).2.1,aC ⟨e,rfl⟩];rfl
    ·show (hG (X t h g r P).hs ((t.hs.length+1:Nat):Int)).n.toNat=_
     rw[gb.2.1,aA e];rfl,
   n2:=fun e=>by
    refine⟨?_,?_,?_⟩
    ·show (hG (X t h g r P).hs (pv t h)).n.toNat=_
     rw[(g0 _ hp).2.1,aA (fun x=>x.1 e),aC rfl];rfl
    ·show (hG (X t h g r P).hs (t.hs.length:Nat)).n.toNat=_
     rw[ga.2.1,e];rfl
    ·show (hG (X t h g r P).hs ((t.hs.length+1:Nat):Int)).n.toNat=_
     rw[gb.2.1,aC e];rfl,
   p0:=fun j hj e1 e2=>by
    show (hG (X t h g r P).hs j).p.toNat=_
    rw[(g0 j hj).2.2,aA (fun x=>e1 x.2.symm),aA (fun x=>e2 x.symm)];rfl,
   p1:=fun e=>by
    refine⟨?_,?_,?_,?_⟩
    ·show (hG (X t h g r P).hs h).p.toNat=_
     rw[(g0 _ hh).2.2,aC ⟨e,rfl⟩];rfl
    ·show (hG (X t h g r P).hs g).p.toNat=_
     rw[(g0 _ hg).2.2,aA (fun x=>e x.2),aC rfl];rfl
    ·show (hG (X t h g r P).hs (t.hs.length:Nat)).p.toNat=_
     rw[ga.2.2];rfl
    ·show (hG (X t h g r P).hs ((t.hs.length+1:Nat):Int)).p.toNat=_
     rw[gb.2.2,aA e];rfl,
   p2:=fun e=>by
    refine⟨?_,?_,?_⟩
    ·show (hG (X t h g r P).hs h).p.toNat=_
     rw[(g0 _ hh).2.2,aA (fun x=>x.1 e),aC e.symm];rfl
    ·show (hG (X t h g r P).hs (t.hs.length:Nat)).p.toNat=_
     rw[ga.2.2];rfl
    ·show (hG (X t h g r P).hs ((t.hs.length+1:Nat):Int)).p.toNat=_
     rw[gb.2.2,aC e];rfl }
 have nxE:(aZ (X t h g r P)).nx=nx ⟨0,0,BL t h g (r:Int) (t.rs.length:Int),[]⟩:=funext fun j=>by
  show (hG (B1 t h g r P) j).n.toNat=(hG (BL t h g (r:Int) (t.rs.length:Int)) j).n.toNat
  rw[k.get j]
 have hrg:(aZ t).r h=(aZ t).r g:=by
  have h2:eK t r g=true:=by
   by_cases e:h=g
   ·rw[←e];exact k.cj
   ·-- g is the end of the walk of the new ring
    have c1:=k.ca 0 0 [] (r:Int) (t.rs.length:Int)
    cases hQ:Q with
    | nil=>
     rw[hQ] at c1
     have e1:(hG (BL t h g (r:Int) (t.rs.length:Int)) (t.hs.length:Nat)).n.toNat=t.hs.length:=c1.1
     rw[NC hk hh hg] at e1
     have e2:g=t.hs.length:=e1
     omega
    | cons q Q'=>
     rw[hQ] at c1
     have e1:(hG (BL t h g (r:Int) (t.rs.length:Int)) (t.hs.length:Nat)).n.toNat=q:=c1.1.1
     rw[NC hk hh hg] at e1
     have e2:g=q:=e1
     exact((k.m1 g).1 (.inr (by rw[hQ,e2];simp))).2
  show (hG t.hs h).r.toNat=(hG t.hs g).r.toNat
  rw[hr1,cH h2]
 have w1:=hw.qh (m:=aZ t) (a:=h) (b:=g) (f:=(aZ (X t h g r P)).f) (nx:=(aZ (X t h g r P)).nx) (pv:=(aZ (X t h g r P)).pv) (r:=(aZ (X t h g r P)).r) (al:=(aZ (X t h g r P)).al) (rv:=(aZ (X t h g r P)).rv) (rc:=(aZ (X t h g r P)).rc) ends he hh hg hrg
  (fun A hA j hj=>by
   have hj:j<t.hs.length+2:=hj
   rw[nxE] at hA
   have hAP:A=P:=hA.uniq (k.cb 0 0 [] (r:Int) (t.rs.length:Int))
   subst hAP
   show (hG (B1 t h g r A) j).r.toNat=if j∈(t.hs.length+1)::A then t.rs.length else if j=t.hs.length then (hG t.hs h).r.toNat else (hG t.hs j).r.toNat
   by_cases e1:j<t.hs.length
   ·rw[k.rl e1]
    by_cases e2:j∈A
    ·rw[aC e2,aC (eQ _ e2)];rfl
    ·rw[aA e2,aA (fun e3=>by
      rcases cN.1 e3 with e4 | e4
      ·omega
      ·exact e2 e4),aA (by omega)]
   ·by_cases e2:j=t.hs.length
    ·have e3:j∉(t.hs.length+1)::A:=fun e3=>by
      rcases cN.1 e3 with e4 | e4
      ·omega
      ·have:=((k.m1 _).1 (.inl e4)).1;omega
     rw[aA e3,aC e2,e2,k.ra,hr1]
    ·have e3:j=t.hs.length+1:=by omega
     rw[e3,aC (by simp),k.rb];rfl)
  (fun q hq=>by
   have hq:q<t.rs.length:=hq
   show decide ((rG (X t h g r P).rs q).h=-1)=decide ((rG t.rs q).h=-1)
   rw[gr q hq]
   by_cases e:r=q
   ·rw[aC e]
    show decide ((t.hs.length:Int)=-1)=_
    rcases ht.dy hq with⟨_,h2,_⟩ | ⟨h2,_⟩
    ·rw[aQ h2];exact aQ (by omega)
    ·exact absurd ⟨h,hh,by rw[hr1,e]⟩ h2
   ·rw[aA e])
  (by show decide ((rG (X t h g r P).rs (t.rs.length:Nat)).h=-1)=false
      rw[grR];exact aQ (by show ¬((t.hs.length+1:Nat):Int)=-1;omega))
  (fun q hq bn=>by
   have hq:q<t.rs.length:=hq
   have bn:decide ((rG (X t h g r P).rs q).h=-1)=true:=bn
   show (rG (X t h g r P).rs q).v.toNat=(rG t.rs q).v.toNat
   rw[gr q hq] at bn ⊢
   by_cases e:r=q
   ·rw[aC e] at bn
    have h2:(t.hs.length:Int)=-1:=cH bn
    omega
   ·rw[aA e])
  (fun q hq=>by
   have hq:q<t.rs.length:=hq
   show (rG (X t h g r P).rs q).c.toNat=(rG t.rs q).c.toNat
   rw[gr q hq]
   by_cases e:r=q
   ·rw[aC e,e]
   ·rw[aA e])
  (by show (rG (X t h g r P).rs (t.rs.length:Nat)).c.toNat=t.F.toNat
      rw[grR])
 refine WV.fe { n:=by rw[lh];exact hn,e:=by rw[lh];omega,V0:=ht.V0,V1:=ht.V1,F0:=by show 1≤t.F+1;omega,F1:=hF,R:=by rw[lr];exact hR } ⟨fun j hj=>?_,fun q hq=>?_⟩ ?_
 ·have hj:j<t.hs.length+2:=by rw[←lh];exact hj.1
  have hrj:=k.rg j (by rw[k.len];exact hj)
  show 0≤(hG (X t h g r P).hs j).f∧0≤(hG (X t h g r P).hs j).n∧0≤(hG (X t h g r P).hs j).p∧0≤(hG (B1 t h g r P) j).r
  by_cases e1:j<t.hs.length
  ·obtain⟨a,b,c,d⟩:=nn.h j ⟨e1,rfl⟩
   obtain⟨q1,q2,q3⟩:=g0 j e1
   rw[q1,q2,q3]
   refine⟨a,?_,?_,hrj.1⟩
   ·split
    ·omega
    ·split <;> omega
   ·split
    ·omega
    ·split <;> omega
  ·by_cases e2:j=t.hs.length
   ·obtain⟨q1,q2,q3⟩:=ga
    rw[e2] at hrj ⊢
    rw[q1,q2,q3]
    exact⟨(nn.h h ⟨hh,rfl⟩).1,by omega,by omega,hrj.1⟩
   ·have e3:j=t.hs.length+1:=by omega
    obtain⟨q1,q2,q3⟩:=gb
    rw[e3] at hrj ⊢
    rw[q1,q2,q3]
    refine⟨(nn.h g ⟨hg,rfl⟩).1,?_,?_,hrj.1⟩
    ·split <;> omega
    ·split <;> omega
 ·have hq1:q<t.rs.length+1:=by rw[←lr];exact hq.1
  by_cases e1:q=t.rs.length
  ·rw[e1,grR];exact⟨by show 0≤t.F;omega,.inr ⟨by show ((t.hs.length+1:Nat):Int)≠-1;omega,rfl⟩⟩
  ·have hq2:q<t.rs.length:=by omega
   obtain⟨a,b⟩:=nn.c q ⟨hq2,rfl⟩
   rw[gr q hq2]
   by_cases e:r=q
   ·rw[aC e]
    exact⟨by show 0≤(rG t.rs r).c;rw[e];exact a,.inr ⟨by show (t.hs.length:Int)≠-1;omega,rfl⟩⟩
   ·rw[aA e];exact⟨a,b⟩
 ·have e:aZ (X t h g r P)={ n:=t.hs.length+2,R:=t.rs.length+1,V:=t.V.toNat,F:=t.F.toNat+1,f:=(aZ (X t h g r P)).f,r:=(aZ (X t h g r P)).r,nx:=(aZ (X t h g r P)).nx,pv:=(aZ (X t h g r P)).pv,al:=(aZ (X t h g r P)).al,rv:=(aZ (X t h g r P)).rv,rc:=(aZ (X t h g r P)).rc }:=by
   show Mp.mk _ _ _ _ _ _ _ _ _ _ _=Mp.mk _ _ _ _ _ _ _ _ _ _ _
   rw[lh,lr]
   congr 1
   show (t.F+1).toNat=t.F.toNat+1
   omega
  rw[e];exact w1
end Mf
end Go.Eng.Tl
set_option linter.unusedSectionVars false
namespace Go.Eng.Tl
open Go.Eng
theorem WV.lg{m:Mp}{a:cw}(h:WV m a){R':Nat}(hR:m.R≤R'){al:Nat→Bool}{rv rc:Nat→Nat}(ha:∀j,j<m.R→al j=m.al j)(hv:∀j,j<m.R→al j=true→rv j=m.rv j)(hc:∀j,j<m.R→rc j=m.rc j):
 WV { m with R:=R',al:=al,rv:=rv,rc:=rc } { a with R:=fun q=>a.R q&&decide (q<m.R) }:=
 h.jk (s:=id) (i:=id) ⟨fun k hk=>⟨KY hk.1 hR,by show (a.R k&&decide (k<m.R))=true;rw[cM,cK];exact⟨hk.2,hk.1⟩⟩,fun k hk=>⟨cH (iC.1 hk.2).2,(iC.1 hk.2).1⟩,fun _ _=>rfl,fun _ _=>rfl⟩ (r:=m.r)
  (fun _ _=>rfl) (fun j hj=>ha j (cH (iC.1 hj.2).2)) (fun j hj=>hv j (cH (iC.1 hj.2).2)) (fun j hj=>hc j (cH (iC.1 hj.2).2))
theorem TN{t:Tp}(ht:Hok t){a:Nat}(ha:a<t.hs.length)(e1:nx t a≠a)(e2:nx t (mt a)≠mt a){hs:List Hf}
 (h1:∀k,k<t.hs.length→(pv t a=k∧(hG hs k).n=(nx t (mt a):Int))∨(pv t (mt a)=k∧(hG hs k).n=(nx t a:Int))∨(pv t a≠k∧pv t (mt a)≠k∧(hG hs k).n=(hG t.hs k).n))
 (h2:∀k,k<t.hs.length→(nx t (mt a)=k∧(hG hs k).p=(pv t a:Int))∨(nx t a=k∧(hG hs k).p=(pv t (mt a):Int))∨(nx t (mt a)≠k∧nx t a≠k∧(hG hs k).p=(hG t.hs k).p)):
 bc (aZ t) a (fun k=>(hG hs k).n.toNat) (fun k=>(hG hs k).p.toNat):=by
 obtain⟨hN,hP,PN,NP⟩:=ht.fo
 have hb:=kS ht.e ha
 have hab:a≠mt a:=(rW a).symm
 have np:pv t a≠pv t (mt a):=fun e=>hab ((NP a ha).symm.trans (by rw[e];exact NP _ hb))
 have nn:nx t a≠nx t (mt a):=fun e=>hab ((PN a ha).symm.trans (by rw[e];exact PN _ hb))
 refine⟨fun k hk ka kb=>?_,fun k hk ka kb=>?_⟩
 ·show (hG hs k).n.toNat=skip (nx t) a (mt a) k
  rw[TL hN hP PN NP ha hb hab hk e1 e2 ka kb]
  rcases h1 k hk with⟨q1,q2⟩ | ⟨q1,q2⟩ | ⟨q1,q3,q2⟩
  ·rw[q2,aA (fun e=>np (q1.trans e.symm)),aC q1];rfl
  ·rw[q2,aC q1];rfl
  ·rw[q2,aA q3,aA q1];rfl
 ·show (hG hs k).p.toNat=skip (pv t) a (mt a) k
  rw[TL hP hN NP PN ha hb hab hk (fun e=>e1 (by have:=NP a ha;rwa[e] at this)) (fun e=>e2 (by have:=NP _ hb;rwa[e] at this)) ka kb]
  rcases h2 k hk with⟨q1,q2⟩ | ⟨q1,q2⟩ | ⟨q1,q3,q2⟩
  ·rw[q2,aC q1];rfl
  ·rw[q2,aA (fun e=>nn (q1.trans e.symm)),aC q1];rfl
  ·rw[q2,aA q1,aA q3];rfl
theorem Ue(a:Nat):CH (mt a)=CH a:=funext fun k=>by
 unfold CH;rw[qA,Bool.and_comm]
theorem Fd(t:Tp)(h:Nat)(B:List Nat)(hB:nx t (mt h)=h↔B=[]):zB t h [] B=CW t h:=by
 unfold CW
 cases B with
 | nil=>rw[aC (hB.2 rfl)];rfl
 | cons b B'=>rw[aA (fun e=>by cases hB.1 e)];rfl
def C0(a b k:Nat):Nat:=if k=a then b else if k=b then a else k
theorem HH(a b k:Nat):C0 a b (C0 a b k)=k:=by
 unfold C0
 by_cases e1:k=a
 ·rw[aC e1]
  by_cases e2:b=a
  ·rw[aC e2];omega
  ·rw[aA e2,aC rfl];exact e1.symm
 ·rw[aA e1]
  by_cases e2:k=b
  ·rw[aC e2,aC rfl];exact e2.symm
  ·rw[aA e2,aA e1,aA e2]
theorem WC{a b n k:Nat}(ha:a<n)(hb:b<n)(hk:k<n):C0 a b k<n:=by
 unfold C0;split
 ·exact hb
 ·split <;> assumption
theorem Qx{a b n:Nat}(ha:a<n)(hb:b<n):ic n (fun _=>true) n (fun _=>true) (C0 a b) (C0 a b):=
 ⟨fun _ hk=>⟨WC ha hb hk.1,rfl⟩,fun _ hk=>⟨WC ha hb hk.1,rfl⟩,fun _ _=>HH _ _ _,fun _ _=>HH _ _ _⟩
namespace Km
variable {t:Tp} {h r:Nat} {A B:List Nat}
theorem nq(k:Km t h r A B):nx t h=mt h↔A=[]:=by
 constructor
 ·intro e
  cases hA:A with
  | nil=>rfl
  | cons a A'=>
   have h1:nx t h=a:=by have:=k.p1;rw[hA] at this;exact this.1
   exact absurd (h1.symm.trans e) (k.am (by rw[hA];simp))
 ·intro e;have:=k.p1;rw[e] at this;exact this
theorem jm(k:Km t h r A B):nx t (mt h)=h↔B=[]:=by
 constructor
 ·intro e
  cases hB:B with
  | nil=>rfl
  | cons b B'=>
   have h1:nx t (mt h)=b:=by have:=k.p2;rw[hB] at this;exact this.1
   exact absurd (h1.symm.trans e) (k.bh (by rw[hB];simp))
 ·intro e;have:=k.p2;rw[e] at this;exact this
def Yx(t:Tp)(h r:Nat):List Nat→Rg
 | []=>{ rG t.rs r with h:=-1,v:=(hG t.hs h).f }
 | b::_=>{ rG t.rs r with h:=(b:Int),v:=-1 }
def Yy(t:Tp)(h r:Nat):List Nat→Rg
 | []=>⟨-1,(hG t.hs (mt h:Nat)).f,(rG t.rs r).c⟩
 | a::_=>⟨(a:Int),-1,(rG t.rs r).c⟩
theorem rows(k:Km t h r A B):(∀q:Nat,q<t.rs.length→r≠q→rG (rK t h r A B) q=rG t.rs q)∧(rG (rK t h r A B) r).c=(rG t.rs r).c∧(rG (rK t h r A B) (t.rs.length:Nat)).c=(rG t.rs r).c ∧
 (B=[]→rG (rK t h r A B) r={ rG t.rs r with h:=-1,v:=(hG t.hs h).f })∧(B≠[]→0≤(rG (rK t h r A B) r).h∧(rG (rK t h r A B) r).v=-1) ∧
 (A=[]→rG (rK t h r A B) (t.rs.length:Nat)=⟨-1,(hG t.hs (mt h:Nat)).f,(rG t.rs r).c⟩)∧(A≠[]→0≤(rG (rK t h r A B) (t.rs.length:Nat)).h∧(rG (rK t h r A B) (t.rs.length:Nat)).v=-1):=by
 have hr:=k.hr
 have e1:∀q:Nat,q<t.rs.length→r≠q→rG (rK t h r A B) q=rG t.rs q:=fun q hq hne=>by
  unfold rK;rw[jM (by simpa using hq),iD hr,aA hne]
 have e2:rG (rK t h r A B) r=Yx t h r B:=by
  unfold rK;rw[jM (by simpa using hr),iD hr,aC rfl];rfl
 have e3:rG (rK t h r A B) (t.rs.length:Nat)=Yy t h r A:=by
  unfold rK;exact nB (by rw[cW])
 refine⟨e1,?_,?_,?_,?_,?_,?_⟩
 ·rw[e2];cases B <;> rfl
 ·rw[e3];cases A <;> rfl
 ·intro e;subst e;exact e2
 ·intro e
  cases B with
  | nil=>exact absurd rfl e
  | cons b B'=>rw[e2];exact⟨by show (0:Int)≤(b:Int);omega,rfl⟩
 ·intro e;subst e;exact e3
 ·intro e
  cases A with
  | nil=>exact absurd rfl e
  | cons a A'=>rw[e3];exact⟨by show (0:Int)≤(a:Int);omega,rfl⟩
theorem nu(k:Km t h r A B)(y:Nat):(hG (zB t h A B) y).f=(hG t.hs y).f:=by
 have hk:=k.ht.toHok
 have hm:=k.fl.1
 have hpm:=hk.aj hm
 have hph:=hk.aj k.hh
 have hnm:=hk.bf hm
 have hnh:=hk.bf k.hh
 have hb:∀a A',A=a::A'→∀x∈a::A',x<(lk t.hs (pv t (mt h)) (nx t h)).length:=fun a A' e x hx=>by rw[aF];exact(k.et (e▸hx)).1
 unfold zB
 split
 ·rfl
 ·rw[aY hph hnm]
 ·rw[dX _ _ _ _ (hb _ _ rfl),aY hpm hnh]
  split <;> rfl
 ·rw[aY (by rw[cF,aF];exact hph) (by rw[cF,aF];exact hnm),dX _ _ _ _ (hb _ _ rfl),aY hpm hnh]
  split <;> rfl
theorem du{a:Nat}{A':List Nat}(k:Km t h r (a::A') B)(y:Nat):(hG (zB t h (a::A') B) y).n=(if B≠[]∧pv t h=y then (nx t (mt h):Int) else if pv t (mt h)=y then (nx t h:Int) else (hG t.hs y).n) ∧
 (hG (zB t h (a::A') B) y).p=(if B≠[]∧nx t (mt h)=y then (pv t h:Int) else if nx t h=y then (pv t (mt h):Int) else (hG t.hs y).p):=by
 have hk:=k.ht.toHok
 have hm:=k.fl.1
 have hpm:=hk.aj hm
 have hph:=hk.aj k.hh
 have hnm:=hk.bf hm
 have hnh:=hk.bf k.hh
 have hb:∀x∈a::A',x<(lk t.hs (pv t (mt h)) (nx t h)).length:=fun x hx=>by rw[aF];exact(k.et hx).1
 cases B with
 | nil=>
  show (hG (ar (lk t.hs (pv t (mt h)) (nx t h)) (a::A') t.rs.length) y).n=_∧(hG (ar (lk t.hs (pv t (mt h)) (nx t h)) (a::A') t.rs.length) y).p=_
  rw[dX _ _ _ _ hb,aY hpm hnh]
  rw[aA (fun x:(([]:List Nat)≠[])∧pv t h=y=>x.1 rfl),aA (fun x:(([]:List Nat)≠[])∧nx t (mt h)=y=>x.1 rfl)]
  by_cases e:y∈a::A'
  ·rw[aC e];exact⟨rfl,rfl⟩
  ·rw[aA e];exact⟨rfl,rfl⟩
 | cons b B'=>
  show (hG (lk (ar (lk t.hs (pv t (mt h)) (nx t h)) (a::A') t.rs.length) (pv t h) (nx t (mt h))) y).n=_∧(hG (lk (ar (lk t.hs (pv t (mt h)) (nx t h)) (a::A') t.rs.length) (pv t h) (nx t (mt h))) y).p=_
  rw[aY (by rw[cF,aF];exact hph) (by rw[cF,aF];exact hnm),dX _ _ _ _ hb,aY hpm hnh]
  have e0:(b::B'≠[])=True:=eq_true (by simp)
  simp only[e0,TW]
  by_cases e:y∈a::A'
  ·rw[aC e];exact⟨rfl,rfl⟩
  ·rw[aA e];exact⟨rfl,rfl⟩
def X(t:Tp)(h r:Nat)(A B:List Nat):Tp:=⟨t.V,t.F,zB t h A B,rK t h r A B⟩
theorem hv(k:Km t h r A B):(rG t.rs r).v=-1∧(rG t.rs r).h≠-1:=by
 rcases k.ht.dy k.hr with⟨_,h2,h3⟩ | ⟨h1,_⟩
 ·exact⟨h3,h2⟩
 ·exact absurd ⟨h,k.hh,k.r1⟩ h1
theorem kc(k:Km t h r A B){y:Nat}:(aZ (X t h r A B)).r y=if y∈A then t.rs.length else (aZ t).r y:=by
 show (hG (zB t h A B) y).r.toNat=_
 rw[k.ring]
 by_cases e:y∈A
 ·rw[aC e,aC e];rfl
 ·rw[aA e,aA e];rfl
theorem wv(k:Km t h r A B):WV (aZ (X t h r A B)) ⟨CH h,fun _=>true,fun _=>true,fun _=>true⟩:=by
 have ht:=k.ht
 obtain⟨hw,nn⟩:=ht.wv
 have hk:=ht.toHok
 have he:=ht.e
 have hh:=k.hh
 have hb:=k.fl.1
 have hr:=k.hr
 have lh:(X t h r A B).hs.length=t.hs.length:=yD t h A B
 have lr:(X t h r A B).rs.length=t.rs.length+1:=AD t h r A B
 obtain⟨q1,q2,q3,q4,q5,q6,q7⟩:=k.rows
 have hrr:(aZ t).r h=r:=by show (hG t.hs h).r.toNat=r;rw[k.r1];rfl
 have hrb:(aZ t).r (mt h)=r:=by show (hG t.hs (mt h:Nat)).r.toNat=r;rw[k.r2];rfl
 have hlr:(rG t.rs r).h≠-1:=k.hv.2
 obtain⟨⟨v0,v1⟩,_⟩:=iJ.1 (hk.b1 (mt h) hb)
 obtain⟨⟨u0,u1⟩,_⟩:=iJ.1 (hk.b1 h hh)
 obtain⟨c0,c1⟩:=ht.rc r hr
 have mk:∀(m:Mp),m=aZ (X t h r A B)→WV m ⟨CH h,fun _=>true,fun _=>true,fun _=>true⟩→WV (aZ (X t h r A B)) ⟨CH h,fun _=>true,fun _=>true,fun _=>true⟩:=fun m e w=>e▸w
 have meq:∀f r',f=(aZ (X t h r A B)).f→r'=(aZ (X t h r A B)).r→{ aZ t with R:=t.rs.length+1,f:=f,r:=r',nx:=(aZ (X t h r A B)).nx,pv:=(aZ (X t h r A B)).pv,al:=(aZ (X t h r A B)).al,rv:=(aZ (X t h r A B)).rv,rc:=(aZ (X t h r A B)).rc }=aZ (X t h r A B):=fun f r' e1 e2=>by
  rw[e1,e2]
  show Mp.mk _ _ _ _ _ _ _ _ _ _ _=Mp.mk _ _ _ _ _ _ _ _ _ _ _
  rw[lh,lr]
  rfl
 have fE:(aZ t).f=(aZ (X t h r A B)).f:=funext fun y=>by
  show (hG t.hs y).f.toNat=(hG (zB t h A B) y).f.toNat
  rw[k.nu]
 have alX:∀q,q<t.rs.length→r≠q→(aZ (X t h r A B)).al q=(aZ t).al q∧(aZ (X t h r A B)).rv q=(aZ t).rv q∧(aZ (X t h r A B)).rc q=(aZ t).rc q:=fun q hq e=>by
  show decide ((rG (rK t h r A B) q).h=-1)=_∧(rG (rK t h r A B) q).v.toNat=_∧(rG (rK t h r A B) q).c.toNat=_
  rw[q1 q hq e];exact⟨rfl,rfl,rfl⟩
 have rcr:(aZ (X t h r A B)).rc r=(aZ t).rc r:=by show (rG (rK t h r A B) r).c.toNat=_;rw[q2];rfl
 have rcR:(aZ (X t h r A B)).rc t.rs.length=(aZ t).rc r:=by show (rG (rK t h r A B) (t.rs.length:Nat)).c.toNat=_;rw[q3];rfl
 have alr:(aZ t).al r=false:=aQ hlr
 have rcA:∀q,q<t.rs.length→(aZ (X t h r A B)).rc q=(aZ t).rc q:=fun q hq=>by
  by_cases e:r=q
  ·rw[←e];exact rcr
  ·exact(alX q hq e).2.2
 by_cases hA:A=[]
 ·-- the new ring is a F8 vertex
  have hnx:=k.nq.2 hA
  have kvE:zB t h A B=CW t h:=by rw[hA];exact Fd t h B k.jm
  have hg:bc (aZ t) h (aZ (X t h r A B)).nx (aZ (X t h r A B)).pv:=by
   have e1:(aZ (X t h r A B)).nx=fun j:Nat=>(hG (CW t h) j).n.toNat:=by rw[←kvE];rfl
   have e2:(aZ (X t h r A B)).pv=fun j:Nat=>(hG (CW t h) j).p.toNat:=by rw[←kvE];rfl
   rw[e1,e2]
   exact QY hk hh hnx (fun j _=>by rw[OB hk hh j]) (fun j _=>by rw[OB hk hh j])
  have w1:=hw.ow (al:=(aZ (X t h r A B)).al) (rv:=(aZ (X t h r A B)).rv) hg hh hnx (fun q hq=>by
   have hq:q<t.rs.length:=hq
   rw[hrr]
   show _=if nx t (mt h)=h∧q=r then true else _
   by_cases e:r=q
   ·subst e
    by_cases hB:B=[]
    ·rw[aC ⟨k.jm.2 hB,rfl⟩]
     show decide ((rG (rK t h r A B) r).h=-1)=true
     rw[q4 hB];exact aM rfl
    ·rw[aA (fun x=>hB (k.jm.1 x.1)),alr]
     exact aQ (by have:=(q5 hB).1;show ¬(rG (rK t h r A B) r).h=-1;omega)
   ·rw[aA (fun x=>e x.2.symm)];exact(alX q hq e).1) (fun q hq bn=>by
   have hq:q<t.rs.length:=hq
   rw[hrr]
   show _=if nx t (mt h)=h∧q=r then (hG t.hs h).f.toNat else _
   by_cases e:r=q
   ·subst e
    by_cases hB:B=[]
    ·rw[aC ⟨k.jm.2 hB,rfl⟩]
     show (rG (rK t h r A B) r).v.toNat=_
     rw[q4 hB]
    ·have h4:decide ((rG (rK t h r A B) r).h=-1)=true:=bn
     have h5:=cH h4
     have:=(q5 hB).1
     omega
   ·rw[aA (fun x=>e x.2.symm)];exact(alX q hq e).2.1)
  have w2:=w1.lg (R':=t.rs.length+1) (al:=(aZ (X t h r A B)).al) (rv:=(aZ (X t h r A B)).rv) (rc:=(aZ (X t h r A B)).rc) (by show t.rs.length≤_;omega) (fun _ _=>rfl) (fun _ _ _=>rfl) (fun q hq=>rcA q hq)
  have w3:=w2.ja (q:=t.rs.length) (w:=(hG t.hs (mt h:Nat)).f.toNat) (by show t.rs.length<t.rs.length+1;omega)
   (by show (true&&decide (t.rs.length<t.rs.length))=false;rw[fM];exact aQ (by omega))
   (by show decide ((rG (rK t h r A B) (t.rs.length:Nat)).h=-1)=true;rw[q6 hA];exact aM rfl)
   (by show (hG t.hs (mt h:Nat)).f.toNat<t.V.toNat;omega)
   (by show decide ((hG t.hs (mt h:Nat)).f.toNat≠(hG t.hs (mt h:Nat)).f.toNat)=false;exact aQ (fun x=>x rfl))
   (by show (rG (rK t h r A B) (t.rs.length:Nat)).v.toNat=_;rw[q6 hA])
   (by refine⟨?_,rfl⟩;show (aZ (X t h r A B)).rc t.rs.length<t.F.toNat;rw[rcR];show (rG t.rs r).c.toNat<_;omega)
  have w4:=w3.alive (R:=fun _=>true) (V:=fun _=>true) (F:=fun _=>true) (fun q hq=>by
   have hq:q<t.rs.length+1:=hq
   show ((true&&decide (q<t.rs.length))||decide (q=t.rs.length))=true
   rw[fM,pD,cK,cK];omega) (fun u _=>by
   show (decide (u≠(hG t.hs (mt h:Nat)).f.toNat)||decide (u=(hG t.hs (mt h:Nat)).f.toNat))=true
   rw[pD,cK,cK];omega) (fun _ _=>rfl)
  refine mk _ (meq _ _ fE (funext fun y=>?_)) w4
  rw[k.kc,hA,aA (by simp)]
 ·by_cases hB:B=[]
  ·-- the old ring becomes a F8 vertex
   have hnx:nx t (mt h)=mt (mt h):=by rw[qA];exact k.jm.2 hB
   have hn2:nx t h≠mt h:=fun e=>hA (k.nq.1 e)
   obtain⟨a,A',eA⟩:∃a A',A=a::A':=by cases A with
    | nil=>exact absurd rfl hA
    | cons a A'=>exact⟨a,A',rfl⟩
   have hg:bc (aZ t) (mt h) (aZ (X t h r A B)).nx (aZ (X t h r A B)).pv:=by
    subst eA
    refine QY hk hb hnx (fun j _=>?_) (fun j _=>?_)
    ·show (hG (zB t h (a::A') B) j).n=_
     rw[(k.du j).1,aA (fun x=>x.1 hB),qA]
     by_cases e:pv t (mt h)=j
     ·rw[aC e,aC ⟨hn2,e⟩]
     ·rw[aA e,aA (fun x=>e x.2)]
    ·show (hG (zB t h (a::A') B) j).p=_
     rw[(k.du j).2,aA (fun x=>x.1 hB),qA]
     by_cases e:nx t h=j
     ·rw[aC e,aC ⟨hn2,e⟩]
     ·rw[aA e,aA (fun x=>e x.2)]
   have w1:=hw.ow (al:=(aZ t).al) (rv:=(aZ t).rv) hg hb hnx (fun q hq=>by
    rw[qA,aA (fun x=>hn2 x.1)]) (fun q hq _=>by rw[qA,aA (fun x=>hn2 x.1)])
   rw[qA] at w1
   have w2:=w1.lg (R':=t.rs.length+1) (al:=fun q=>if q=t.rs.length then true else (aZ t).al q) (rv:=fun q=>if q=t.rs.length then (aZ t).f h else (aZ t).rv q) (rc:=fun q=>if q=t.rs.length then (aZ t).rc r else (aZ t).rc q) (Nat.le_succ _)
    (fun q hq=>aA (by have:q<t.rs.length:=hq;omega)) (fun q hq _=>aA (by have:q<t.rs.length:=hq;omega)) (fun q hq=>aA (by have:q<t.rs.length:=hq;omega))
   have w3:=w2.ja (q:=t.rs.length) (w:=(aZ t).f h) (by show t.rs.length<t.rs.length+1;omega)
    (by show (true&&decide (t.rs.length<t.rs.length))=false;rw[fM];exact aQ (by omega))
    (aC rfl) (by show (hG t.hs h).f.toNat<t.V.toNat;omega)
    (by show decide ((aZ t).f h≠(aZ t).f h)=false;exact aQ (fun x=>x rfl))
    (aC rfl) (by refine⟨?_,rfl⟩;show (if t.rs.length=t.rs.length then _ else _)<t.F.toNat;rw[aC rfl];show (rG t.rs r).c.toNat<_;omega)
   have w4:=w3.alive (R:=fun _=>true) (V:=fun _=>true) (F:=fun _=>true) (fun q hq=>by
    have hq:q<t.rs.length+1:=hq
    show ((true&&decide (q<t.rs.length))||decide (q=t.rs.length))=true
    rw[fM,pD,cK,cK];omega) (fun u _=>by
    show (decide (u≠(aZ t).f h)||decide (u=(aZ t).f h))=true
    rw[pD,cK,cK];exact(UF _).symm) (fun _ _=>rfl)
   have nr:r≠t.rs.length:=by omega
   have w5:=w4.jk (s:=C0 r t.rs.length) (i:=C0 r t.rs.length) (R':=t.rs.length+1) (P':=fun _=>true) (Qx (n:=t.rs.length+1) (Nat.lt_succ_of_lt hr) (Nat.lt_succ_self _)) (r:=(aZ (X t h r A B)).r) (al:=(aZ (X t h r A B)).al) (rv:=(aZ (X t h r A B)).rv) (rc:=(aZ (X t h r A B)).rc)
    (fun y hy=>by
     obtain⟨y1,y2,y3⟩:=fY.1 hy
     rw[k.kc]
     show _=C0 r t.rs.length ((aZ t).r y)
     unfold C0
     by_cases e:y∈A
     ·have:=(k.et e).2
      have e4:(aZ t).r y=r:=by show (hG t.hs y).r.toNat=r;rw[cH this];rfl
      rw[aC e,aC e4]
     ·have h5:(aZ t).r y<t.rs.length:=(hw.hr y ⟨y1,rfl⟩).1
      rw[aA e,aA (fun e2=>?_),aA (by omega)]
      have h6:eK t r y=true:=aM (by
       have:=(nn.h y ⟨y1,rfl⟩).2.2.2
       have h7:(hG t.hs y).r.toNat=r:=e2
       omega)
      have:=(k.hm y).2 ⟨y1,h6⟩
      rw[hB] at this
      rcases cN.1 this with h7 | h7
      ·exact y3 (by rw[qA];exact h7)
      ·rcases fK.1 h7 with h8 | h8
       ·exact e h8
       ·exact y2 (by simpa using h8))
    (fun j hj=>by
     have hj1:j<t.rs.length+1:=hj.1
     show _=(if C0 r t.rs.length j=t.rs.length then true else (aZ t).al (C0 r t.rs.length j))
     unfold C0
     by_cases e1:j=r
     ·rw[aC e1,aC rfl,e1]
      show decide ((rG (rK t h r A B) r).h=-1)=true
      rw[q4 hB];exact aM rfl
     ·rw[aA e1]
      by_cases e2:j=t.rs.length
      ·rw[aC e2,aA nr,alr,e2]
       exact aQ (by have:=(q7 hA).1;show ¬(rG (rK t h r A B) (t.rs.length:Nat)).h=-1;omega)
      ·rw[aA e2,aA e2]
       exact(alX j (by omega) (fun x=>e1 x.symm)).1)
    (fun j hj bn=>by
     have hj1:j<t.rs.length+1:=hj.1
     show _=(if C0 r t.rs.length j=t.rs.length then (aZ t).f h else (aZ t).rv (C0 r t.rs.length j))
     unfold C0
     by_cases e1:j=r
     ·rw[aC e1,aC rfl,e1]
      show (rG (rK t h r A B) r).v.toNat=_
      rw[q4 hB];rfl
     ·rw[aA e1]
      by_cases e2:j=t.rs.length
      ·rw[e2] at bn
       have h4:decide ((rG (rK t h r A B) (t.rs.length:Nat)).h=-1)=true:=bn
       have h5:=cH h4
       have:=(q7 hA).1
       omega
      ·rw[aA e2,aA e2]
       exact(alX j (by omega) (fun x=>e1 x.symm)).2.1)
    (fun j hj=>by
     have hj1:j<t.rs.length+1:=hj.1
     show _=(if C0 r t.rs.length j=t.rs.length then (aZ t).rc r else (aZ t).rc (C0 r t.rs.length j))
     unfold C0
     by_cases e1:j=r
     ·rw[aC e1,aC rfl,e1];exact rcr
     ·rw[aA e1]
      by_cases e2:j=t.rs.length
      ·rw[aC e2,aA nr,e2];exact rcR
      ·rw[aA e2,aA e2]
       exact rcA j (by omega))
   refine mk _ (meq _ _ fE rfl) ?_
   have e8:=Ue h
   rw[←e8];exact w5
  ·-- both are longer
   obtain⟨a,A',eA⟩:∃a A',A=a::A':=by cases A with
    | nil=>exact absurd rfl hA
    | cons a A'=>exact⟨a,A',rfl⟩
   obtain⟨b,B',eB⟩:∃b B',B=b::B':=by cases B with
    | nil=>exact absurd rfl hB
    | cons b B'=>exact⟨b,B',rfl⟩
   subst eA eB
   have hn1:nx t h=a:=k.p1.1
   have hn2:nx t (mt h)=b:=k.p2.1
   have np:pv t h≠pv t (mt h):=fun e=>rW h ((hk.np hb).symm.trans (by rw[←e];exact hk.np hh))
   have nN:nx t (mt h)≠nx t h:=fun e=>rW h (hk.iu hb hh e)
   have hg:bc (aZ t) h (aZ (X t h r (a::A') (b::B'))).nx (aZ (X t h r (a::A') (b::B'))).pv:=by
    refine TN hk hh (by rw[hn1];exact k.ah (by simp)) (by rw[hn2];exact k.bm (by simp)) (fun j _=>?_) (fun j _=>?_)
    ·show (pv t h=j∧(hG (zB t h (a::A') (b::B')) j).n=_)∨(pv t (mt h)=j∧(hG (zB t h (a::A') (b::B')) j).n=_)∨(pv t h≠j∧pv t (mt h)≠j∧(hG (zB t h (a::A') (b::B')) j).n=_)
     rw[(k.du j).1]
     by_cases e1:pv t h=j
     ·rw[aC ⟨hB,e1⟩];exact .inl ⟨e1,rfl⟩
     ·rw[aA (fun x=>e1 x.2)]
      by_cases e2:pv t (mt h)=j
      ·rw[aC e2];exact .inr (.inl ⟨e2,rfl⟩)
      ·rw[aA e2];exact .inr (.inr ⟨e1,e2,rfl⟩)
    ·show (nx t (mt h)=j∧(hG (zB t h (a::A') (b::B')) j).p=_)∨(nx t h=j∧(hG (zB t h (a::A') (b::B')) j).p=_)∨(nx t (mt h)≠j∧nx t h≠j∧(hG (zB t h (a::A') (b::B')) j).p=_)
     rw[(k.du j).2]
     by_cases e1:nx t (mt h)=j
     ·rw[aC ⟨hB,e1⟩];exact .inl ⟨e1,rfl⟩
     ·rw[aA (fun x=>e1 x.2)]
      by_cases e2:nx t h=j
      ·rw[aC e2];exact .inr (.inl ⟨e2,rfl⟩)
      ·rw[aA e2];exact .inr (.inr ⟨e1,e2,rfl⟩)
   have w1:=hw.oy (r:=(aZ (X t h r (a::A') (b::B'))).r) (al:=(aZ (X t h r (a::A') (b::B'))).al) (rv:=(aZ (X t h r (a::A') (b::B'))).rv) (rc:=(aZ (X t h r (a::A') (b::B'))).rc) hg hh k.hc (fun y=>by
    rw[k.hm y,hrr]
    refine LD fun hy=>?_
    have h7:=(nn.h y ⟨hy,rfl⟩).2.2.2
    show decide ((hG t.hs y).r=(r:Int))=true↔(hG t.hs y).r.toNat=r
    rw[cK];omega) (fun y _=>k.kc) (fun q hq=>by
    have hq:q<t.rs.length:=hq
    by_cases e:r=q
    ·rw[←e,alr]
     exact aQ (by have:=(q5 hB).1;show ¬(rG (rK t h r (a::A') (b::B')) r).h=-1;omega)
    ·exact(alX q hq e).1) (aQ (by have:=(q7 hA).1;show ¬(rG (rK t h r (a::A') (b::B')) (t.rs.length:Nat)).h=-1;omega)) (fun q hq bn=>by
    have hq:q<t.rs.length:=hq
    by_cases e:r=q
    ·rw[←e] at bn
     have h4:decide ((rG (rK t h r (a::A') (b::B')) r).h=-1)=true:=bn
     have h5:=cH h4
     have:=(q5 hB).1
     omega
    ·exact(alX q hq e).2.1) (fun q hq=>rcA q hq) (by rw[hrr];exact rcR)
   exact mk _ (meq _ _ fE rfl) w1
theorem fe(k:Km t h r A B)(hR:t.rs.length+1≤257):CKP (lz ⟨t.V,t.F,dE (zB t h A B) h,rK t h r A B⟩):=by
 have ht:=k.ht
 obtain⟨hw,nn⟩:=ht.wv
 have he:=ht.e
 have hn:=ht.n
 have lh:(X t h r A B).hs.length=t.hs.length:=yD t h A B
 have lr:(X t h r A B).rs.length=t.rs.length+1:=AD t h r A B
 obtain⟨q1,q2,q3,q4,q5,q6,q7⟩:=k.rows
 have hc:=(ht.rc r k.hr).1
 have n1:NN (X t h r A B) ⟨CH h,fun _=>true,fun _=>true,fun _=>true⟩:=by
  refine⟨fun y hy=>?_,fun q hq=>?_⟩
  ·have hy1:y<t.hs.length:=by rw[←lh];exact hy.1
   obtain⟨a,b,c,d⟩:=nn.h y ⟨hy1,rfl⟩
   show 0≤(hG (zB t h A B) y).f∧0≤(hG (zB t h A B) y).n∧0≤(hG (zB t h A B) y).p∧0≤(hG (zB t h A B) y).r
   rw[k.nu,k.ring]
   have np:0≤(hG (zB t h A B) y).n∧0≤(hG (zB t h A B) y).p:=by
    by_cases hA:A=[]
    ·rw[show zB t h A B=CW t h by rw[hA];exact Fd t h B k.jm,OB ht.toHok k.hh]
     refine⟨?_,?_⟩
     ·show 0≤(if nx t (mt h)≠h∧pv t h=y then (nx t (mt h):Int) else (hG t.hs y).n)
      split <;> omega
     ·show 0≤(if nx t (mt h)≠h∧nx t (mt h)=y then (pv t h:Int) else (hG t.hs y).p)
      split <;> omega
    ·obtain⟨a',A',eA⟩:∃a A',A=a::A':=by cases A with
      | nil=>exact absurd rfl hA
      | cons a A'=>exact⟨a,A',rfl⟩
     subst eA
     rw[(k.du y).1,(k.du y).2]
     refine⟨?_,?_⟩
     ·split
      ·omega
      ·split <;> omega
     ·split
      ·omega
      ·split <;> omega
   refine⟨a,np.1,np.2,?_⟩
   split <;> omega
  ·have hq1:q<t.rs.length+1:=by rw[←lr];exact hq.1
   show 0≤(rG (rK t h r A B) q).c∧(((rG (rK t h r A B) q).h=-1∧0≤(rG (rK t h r A B) q).v)∨((rG (rK t h r A B) q).h≠-1∧(rG (rK t h r A B) q).v=-1))
   by_cases e1:q=t.rs.length
   ·rw[e1,q3]
    refine⟨hc,?_⟩
    by_cases hA:A=[]
    ·rw[q6 hA];exact .inl ⟨rfl,(nn.h _ ⟨k.fl.1,rfl⟩).1⟩
    ·obtain⟨a,b⟩:=q7 hA;exact .inr ⟨by omega,b⟩
   ·have hq2:q<t.rs.length:=by omega
    by_cases e:r=q
    ·rw[←e,q2]
     refine⟨hc,?_⟩
     by_cases hB:B=[]
     ·rw[q4 hB];exact .inl ⟨rfl,(nn.h _ ⟨k.hh,rfl⟩).1⟩
     ·obtain⟨a,b⟩:=q5 hB;exact .inr ⟨by omega,b⟩
    ·rw[q1 q hq2 e];exact nn.c q ⟨hq2,rfl⟩
 have w4:=Nf (X:=X t h r A B) (by rw[lh];exact he) (by rw[lh];exact k.hh) k.wv
 have n4:=Ng (X:=X t h r A B) (by rw[lh];exact he) (by rw[lh];exact k.hh) n1
 have l2:(dE (zB t h A B) h).length=2*(t.hs.length/2-1):=by rw[kU,yD]
 exact WV.fe (t:={ X t h r A B with hs:=dE (X t h r A B).hs h }) { n:=by show (dE (zB t h A B) h).length≤256;omega,e:=by show (dE (zB t h A B) h).length%2=0;omega,V0:=ht.V0,V1:=ht.V1,F0:=ht.F0,F1:=ht.F1,R:=by show (rK t h r A B).length≤257;rw[AD];exact hR } n4 w4
end Km
end Go.Eng.Tl
set_option linter.unusedSectionVars false
namespace Go.Eng.Tl
open Go.Eng
theorem TO{t:Tp}(ht:Hok t){a:Nat}(ha:a<t.hs.length)(e1:nx t a≠a)(e2:nx t (mt a)=mt a){hs:List Hf}
 (h1:∀k,k<t.hs.length→(hG hs k).n=if pv t a=k then (nx t a:Int) else (hG t.hs k).n)
 (h2:∀k,k<t.hs.length→(hG hs k).p=if nx t a=k then (pv t a:Int) else (hG t.hs k).p):bc (aZ t) a (fun k=>(hG hs k).n.toNat) (fun k=>(hG hs k).p.toNat):=by
 obtain⟨hN,hP,PN,NP⟩:=ht.fo
 have hb:=kS ht.e ha
 have hab:a≠mt a:=(rW a).symm
 have p1:pv t a≠a:=fun e=>e1 (by have:=NP a ha;rwa[e] at this)
 have p2:pv t (mt a)=mt a:=by have:=PN _ hb;rwa[e2] at this
 refine⟨fun k hk ka kb=>?_,fun k hk ka kb=>?_⟩
 ·show (hG hs k).n.toNat=skip (nx t) a (mt a) k
  rw[TM hN hP PN NP ha hb hab hk e1 e2 ka kb,h1 k hk]
  by_cases e:pv t a=k
  ·rw[aC e,aC e];rfl
  ·rw[aA e,aA e];rfl
 ·show (hG hs k).p.toNat=skip (pv t) a (mt a) k
  rw[TM hP hN NP PN ha hb hab hk p1 p2 ka kb,h2 k hk]
  by_cases e:nx t a=k
  ·rw[aC e,aC e];rfl
  ·rw[aA e,aA e];rfl
theorem bc.swap{t:Tp}(ht:Hok t){a:Nat}(ha:a<t.hs.length)(bn:¬(nx t a=a∧nx t (mt a)=mt a)){nx' pv':Nat→Nat}(g:bc (aZ t) (mt a) nx' pv'):bc (aZ t) a nx' pv':=by
 obtain⟨hN,hP,PN,NP⟩:=ht.fo
 have hb:=kS ht.e ha
 have hab:a≠mt a:=(rW a).symm
 have fm:¬(pv t a=a∧pv t (mt a)=mt a):=fun⟨q1,q2⟩=>bn ⟨by have:=NP a ha;rwa[q1] at this,by have:=NP _ hb;rwa[q2] at this⟩
 refine⟨fun k hk ka kb=>?_,fun k hk ka kb=>?_⟩
 ·have:=g.n k hk kb (by rw[qA];exact ka)
  rw[qA] at this
  rw[this]
  exact(QX hN hP PN NP ha hb hab hk bn ka kb).symm
 ·have:=g.p k hk kb (by rw[qA];exact ka)
  rw[qA] at this
  rw[this]
  exact(QX hP hN NP PN ha hb hab hk fm ka kb).symm
namespace Ke
variable {t:Tp} {h u w:Nat} {c:List Nat}
theorem du(k:Ke t h u w c){y:Nat}(hy:y<t.hs.length):(hG (uV t h u w) y).f=(hG t.hs y).f∧(hG (uV t h u w) y).n=(hG (GB t h t.hs) y).n∧(hG (uV t h u w) y).p=(hG (GB t h t.hs) y).p:=by
 have hk:=k.ht.toHok
 have p1:=hk.aj k.hh
 have p2:=hk.bf k.hh
 have p3:=hk.aj k.cm
 have p4:=hk.bf k.cm
 unfold uV
 rw[qQ _ (by rw[pG];exact hy),zR]
 refine⟨?_,rfl,rfl⟩
 show (hG (GB t h t.hs) y).f=_
 unfold GB
 split
 ·rw[aY p1 p2]
 ·split
  ·rw[aY p3 p4]
  ·rw[aY (by rw[aF];exact p3) (by rw[aF];exact p2),aY p1 p4]
def X(t:Tp)(h u w:Nat):Tp:=⟨t.V,t.F,uV t h u w,t.rs⟩
theorem bn(k:Ke t h u w c):¬(nx t h=h∧nx t (mt h)=mt h):=fun e=>k.na ⟨e.1,k.mw.1 e.2⟩
theorem gone(k:Ke t h u w c):bc (aZ t) h (aZ (X t h u w)).nx (aZ (X t h u w)).pv:=by
 have hk:=k.ht.toHok
 have hh:=k.hh
 have hb:=k.cm
 have p1:=hk.aj hh
 have p2:=hk.bf hh
 have p3:=hk.aj hb
 have p4:=hk.bf hb
 have np:pv t h≠pv t (mt h):=fun e=>rW h ((hk.np hb).symm.trans (by rw[←e];exact hk.np hh))
 have nN:nx t h≠nx t (mt h):=fun e=>rW h ((hk.pn hb).symm.trans (by rw[←e];exact hk.pn hh))
 by_cases e1:nx t (mt h)=mt h
 ·have e2:nx t h≠h:=fun e=>k.bn ⟨e,e1⟩
  have eL:GB t h t.hs=lk t.hs (pv t h) (nx t h):=aC e1
  refine TO hk hh e2 e1 (fun j hj=>?_) (fun j hj=>?_)
  ·show (hG (uV t h u w) j).n=_
   rw[(k.du hj).2.1,eL,aY p1 p2]
  ·show (hG (uV t h u w) j).p=_
   rw[(k.du hj).2.2,eL,aY p1 p2]
 ·by_cases e2:nx t h=h
  ·have eL:GB t h t.hs=lk t.hs (pv t (mt h)) (nx t (mt h)):=by unfold GB;rw[aA e1,aC e2]
   refine bc.swap hk hh k.bn (TO hk hb e1 (by rw[qA];exact e2) (fun j hj=>?_) (fun j hj=>?_))
   ·show (hG (uV t h u w) j).n=_
    rw[(k.du hj).2.1,eL,aY p3 p4]
   ·show (hG (uV t h u w) j).p=_
    rw[(k.du hj).2.2,eL,aY p3 p4]
  ·have eL:GB t h t.hs=lk (lk t.hs (pv t h) (nx t (mt h))) (pv t (mt h)) (nx t h):=by unfold GB;rw[aA e1,aA e2]
   refine TN hk hh e2 e1 (fun j hj=>?_) (fun j hj=>?_)
   ·show (pv t h=j∧(hG (uV t h u w) j).n=_)∨(pv t (mt h)=j∧(hG (uV t h u w) j).n=_)∨(pv t h≠j∧pv t (mt h)≠j∧(hG (uV t h u w) j).n=_)
    rw[(k.du hj).2.1,eL,aY (by rw[aF];exact p3) (by rw[aF];exact p2),aY p1 p4]
    by_cases q1:pv t h=j
    ·exact .inl ⟨q1,by show (if pv t (mt h)=j then _ else if pv t h=j then _ else _)=_;rw[aA (fun q2=>np (q1.trans q2.symm)),aC q1]⟩
    ·by_cases q2:pv t (mt h)=j
     ·exact .inr (.inl ⟨q2,by show (if pv t (mt h)=j then _ else if pv t h=j then _ else _)=_;rw[aC q2]⟩)
     ·exact .inr (.inr ⟨q1,q2,by show (if pv t (mt h)=j then _ else if pv t h=j then _ else _)=_;rw[aA q2,aA q1]⟩)
   ·show (nx t (mt h)=j∧(hG (uV t h u w) j).p=_)∨(nx t h=j∧(hG (uV t h u w) j).p=_)∨(nx t (mt h)≠j∧nx t h≠j∧(hG (uV t h u w) j).p=_)
    rw[(k.du hj).2.2,eL,aY (by rw[aF];exact p3) (by rw[aF];exact p2),aY p1 p4]
    by_cases q1:nx t (mt h)=j
    ·exact .inl ⟨q1,by show (if nx t h=j then _ else if nx t (mt h)=j then _ else _)=_;rw[aA (fun q2=>nN (q2.trans q1.symm)),aC q1]⟩
    ·by_cases q2:nx t h=j
     ·exact .inr (.inl ⟨q2,by show (if nx t h=j then _ else if nx t (mt h)=j then _ else _)=_;rw[aC q2]⟩)
     ·exact .inr (.inr ⟨q1,q2,by show (if nx t h=j then _ else if nx t (mt h)=j then _ else _)=_;rw[aA q2,aA q1]⟩)
theorem fe(k:Ke t h u w c)(hf:(rG t.rs w).c≠(rG t.rs u).c)(hcnt:av (uI t (rG t.rs w).c) t.rs.length≤1):CKP (lz (MB t h u w)):=by
 have ht:=k.ht
 obtain⟨hw,nn⟩:=ht.wv
 have hk:=ht.toHok
 have he:=ht.e
 have hh:=k.hh
 have hn:=ht.n
 have hwl:=k.hw
 have hul:=k.hu
 have lh:(X t h u w).hs.length=t.hs.length:=k.di
 obtain⟨c0,c1⟩:=ht.rc w hwl
 obtain⟨d0,d1⟩:=ht.rc u hul
 have hru:(aZ t).r h=u:=by show (hG t.hs h).r.toNat=u;rw[k.ru];rfl
 have Xb:(aZ t).r (mt h)=w:=by show (hG t.hs (mt h:Nat)).r.toNat=w;rw[k.rw];rfl
 have only:∀q:Nat,q<t.rs.length→(rG t.rs q).c=(rG t.rs w).c→q=w:=fun q hq e=>by
  have h1:uI t (rG t.rs w).c w=true:=aM rfl
  have h2:uI t (rG t.rs w).c q=true:=aM e
  have h3:av (uI t (rG t.rs w).c) t.rs.length=1:=by
   have:=pF.2 ⟨w,hwl,h1⟩
   omega
  obtain⟨z,_,hz⟩:=CZ.1 h3
  rw[hz q hq h2,hz w hwl h1]
 have w1:=hw.qi (r:=(aZ (X t h u w)).r) k.gone hh k.bn hru Xb k.ne (fun q hq e=>by
  have hq:q<t.rs.length:=hq
  have e:(rG t.rs q).c.toNat=(rG t.rs w).c.toNat:=e
  have:=(ht.rc q hq).1
  exact only q hq (by omega)) (fun y hy=>by
  have hy:y<t.hs.length:=hy
  show (hG (uV t h u w) y).r.toNat=if (hG t.hs y).r.toNat=w then u else (hG t.hs y).r.toNat
  rw[k.gu hy]
  have:=(nn.h y ⟨hy,rfl⟩).2.2.2
  by_cases e:(hG t.hs y).r=(w:Int)
  ·rw[aC e,aC (by omega)];rfl
  ·rw[aA e,aA (by omega)])
 have w2:WV (aZ (X t h u w)) ⟨CH h,fun q=>decide (q≠w),fun _=>true,fun f=>decide (f≠(rG t.rs w).c.toNat)⟩:=by
  have h2:=w1.congr (f:=(aZ (X t h u w)).f) (r:=(aZ (X t h u w)).r) (nx:=(aZ (X t h u w)).nx) (pv:=(aZ (X t h u w)).pv) (al:=(aZ (X t h u w)).al) (rv:=(aZ (X t h u w)).rv) (rc:=(aZ (X t h u w)).rc)
   (fun j hj=>by show (hG (uV t h u w) j).f.toNat=(hG t.hs j).f.toNat;rw[(k.du (fY.1 hj).1).1]) (fun _ _=>rfl) (fun _ _=>rfl) (fun _ _=>rfl) (fun _ _=>rfl) (fun _ _ _=>rfl) (fun _ _=>rfl)
  have e:aZ (X t h u w)={ aZ t with f:=(aZ (X t h u w)).f,r:=(aZ (X t h u w)).r,nx:=(aZ (X t h u w)).nx,pv:=(aZ (X t h u w)).pv,al:=(aZ (X t h u w)).al,rv:=(aZ (X t h u w)).rv,rc:=(aZ (X t h u w)).rc }:=by
   show Mp.mk _ _ _ _ _ _ _ _ _ _ _=Mp.mk _ _ _ _ _ _ _ _ _ _ _
   rw[lh]
   rfl
  rw[e];exact h2
 have n2:NN (X t h u w) ⟨CH h,fun q=>decide (q≠w),fun _=>true,fun f=>decide (f≠(rG t.rs w).c.toNat)⟩:=by
  refine⟨fun y hy=>?_,fun q hq=>nn.c q ⟨hq.1,rfl⟩⟩
  have hy1:y<t.hs.length:=by rw[←lh];exact hy.1
  obtain⟨q1,q2,q3,q4⟩:=nn.h y ⟨hy1,rfl⟩
  have hs:=k.py y (by rw[k.di];exact hy1)
  show 0≤(hG (uV t h u w) y).f∧0≤(hG (uV t h u w) y).n∧0≤(hG (uV t h u w) y).p∧0≤(hG (uV t h u w) y).r
  refine⟨by rw[(k.du hy1).1];exact q1,hs.1,hs.2.2.1,?_⟩
  rw[k.gu hy1]
  split <;> omega
 have w3:=Nf (X:=X t h u w) (by rw[lh];exact he) (by rw[lh];exact hh) w2
 have n3:=Ng (X:=X t h u w) (by rw[lh];exact he) (by rw[lh];exact hh) n2
 obtain⟨w4,n4⟩:=Wn (X:={ X t h u w with hs:=dE (X t h u w).hs h }) (c:=(rG t.rs w).c) ⟨c0,c1⟩ n3 w3
 obtain⟨w5,n5⟩:=Rt (w:=w) (by show w<(t.rs.map _).length;rw[cS];exact hwl) n4 w4
 have l2:=k.gv
 exact WV.fe (t:=MB t h u w) { n:=by rw[l2.2];omega,e:=by rw[l2.2];omega,V0:=ht.V0,V1:=ht.V1,F0:=by show 1≤t.F-1;omega,F1:=by have:=ht.F1;show t.F-1≤257;omega,R:=by have:=ht.R;rw[l2.1];omega } n5 w5
end Ke
def dw(t:Tp)(r:Nat)(o:Option Nat)(L:List Nat):Prop:=match o with
 | none=>L=[]∧(rG t.rs r).h=-1∧∀k,k<t.hs.length→eK t r k=false
 | some h=>h<t.hs.length∧eK t r h=true∧0≤(rG t.rs r).h∧∃c,L=h::c∧bz (nx t) h c∧∀y,y∈h::c↔y<t.hs.length∧eK t r y=true
def eE(t:Tp)(r:Nat):Option Nat→Int
 | none=>(rG t.rs r).v
 | some h=>(hG t.hs h).f
def lG(t:Tp)(l:List Hf):Option Nat→List Hf
 | none=>lk l t.hs.length (t.hs.length+1)
 | some g=>lk (lk l t.hs.length g) (pv t g) (t.hs.length+1)
def lH(t:Tp)(l:List Hf):Option Nat→List Hf
 | none=>lk l (t.hs.length+1) t.hs.length
 | some h=>lk (lk l (t.hs.length+1) h) (pv t h) t.hs.length
def vI(t:Tp)(fv tv ra:Int):List Hf:=t.hs++[Hf.mk fv 0 0 ra,Hf.mk tv 0 0 ra]
theorem bX(t:Tp)(fv tv ra:Int):(vI t fv tv ra).length=t.hs.length+2:=by simp[vI]
def E6(t:Tp)(fv tv ra:Int)(ho go:Option Nat):List Hf:=lH t (lG t (vI t fv tv ra) go) ho
theorem kV(t:Tp)(l:List Hf)(o:Option Nat):(lG t l o).length=l.length:=by cases o <;> simp[lG]
theorem Uh(t:Tp)(l:List Hf)(o:Option Nat):(lH t l o).length=l.length:=by cases o <;> simp[lH]
theorem AF(t:Tp)(fv tv ra:Int)(ho go:Option Nat):(E6 t fv tv ra ho go).length=t.hs.length+2:=by unfold E6;rw[Uh,kV,bX]
def ct(t:Tp):Option Nat→Prop
 | none=>True
 | some h=>h<t.hs.length
theorem dw.ok{t:Tp}{r:Nat}{o:Option Nat}{L:List Nat}(s:dw t r o L):ct t o:=by
 cases o with
 | none=>trivial
 | some h=>exact s.1
theorem dw.mem{t:Tp}{r:Nat}{o:Option Nat}{L:List Nat}(s:dw t r o L)(y:Nat):y∈L↔y<t.hs.length∧eK t r y=true:=by
 cases o with
 | none=>
  rw[s.1]
  constructor
  ·intro h;simp at h
  ·rintro ⟨h1,h2⟩;rw[s.2.2 y h1] at h2;cases h2
 | some h=>
  obtain⟨_,_,_,c,e,_,hm⟩:=s
  rw[e];exact hm y
def FN(l l':List Hf):Prop:=l.length=l'.length∧∀y:Nat,(hG l y).f=(hG l' y).f∧(hG l y).n=(hG l' y).n∧(hG l y).p=(hG l' y).p
theorem FN.lk{l l':List Hf}(h:FN l l'){a b:Nat}(ha:a<l.length)(hb:b<l.length):FN (lk l a b) (lk l' a b):=⟨by rw[aF,aF,h.1],fun y=>by
 obtain⟨h1,h2,h3⟩:=h.2 y
 have hl:=h.1
 rw[aY ha hb,aY (by omega) (by omega)]
 simp only[h1,h2,h3,UG]⟩
theorem Ii{l:List Hf}{a b:Nat}(ha:a<l.length)(hb:b<l.length)(y:Nat):(hG (lk l a b) y).r=(hG l y).r:=by rw[aY ha hb]
theorem FN.g{t:Tp}(ht:Hok t){l l':List Hf}(h:FN l l')(hl:l.length=t.hs.length+2){o:Option Nat}(ho:ct t o):FN (lG t l o) (lG t l' o):=by
 cases o with
 | none=>exact h.lk (by omega) (by omega)
 | some g=>
  have hg:g<t.hs.length:=ho
  have:=ht.aj hg
  exact(h.lk (by omega) (by omega)).lk (by simp only[aF];omega) (by simp only[aF];omega)
theorem FN.h{t:Tp}(ht:Hok t){l l':List Hf}(h:FN l l')(hl:l.length=t.hs.length+2){o:Option Nat}(ho:ct t o):FN (lH t l o) (lH t l' o):=by
 cases o with
 | none=>exact h.lk (by omega) (by omega)
 | some g=>
  have hg:g<t.hs.length:=ho
  have:=ht.aj hg
  exact(h.lk (by omega) (by omega)).lk (by simp only[aF];omega) (by simp only[aF];omega)
theorem Xw{t:Tp}(ht:Hok t){l:List Hf}(hl:l.length=t.hs.length+2){o:Option Nat}(ho:ct t o)(y:Nat):(hG (lG t l o) y).r=(hG l y).r:=by
 cases o with
 | none=>exact Ii (by omega) (by omega) y
 | some g=>
  have hg:g<t.hs.length:=ho
  have:=ht.aj hg
  exact(Ii (by simp only[aF];omega) (by simp only[aF];omega) y).trans (Ii (by omega) (by omega) y)
theorem Xx{t:Tp}(ht:Hok t){l:List Hf}(hl:l.length=t.hs.length+2){o:Option Nat}(ho:ct t o)(y:Nat):(hG (lH t l o) y).r=(hG l y).r:=by
 cases o with
 | none=>exact Ii (by omega) (by omega) y
 | some g=>
  have hg:g<t.hs.length:=ho
  have:=ht.aj hg
  exact(Ii (by simp only[aF];omega) (by simp only[aF];omega) y).trans (Ii (by omega) (by omega) y)
theorem Wq{t:Tp}(ht:Hok t){l:List Hf}(hl:l.length=t.hs.length+2)(hn:t.hs.length≤256)(h:dq l){o:Option Nat}(ho:ct t o):dq (lG t l o):=by
 cases o with
 | none=>exact h.lk (by omega) (by omega) (by omega)
 | some g=>
  have hg:g<t.hs.length:=ho
  have:=ht.aj hg
  exact(h.lk (by omega) (by omega) (by omega)).lk (by simp only[aF];omega) (by simp only[aF];omega) (by simp only[aF];omega)
theorem Wr{t:Tp}(ht:Hok t){l:List Hf}(hl:l.length=t.hs.length+2)(hn:t.hs.length≤256)(h:dq l){o:Option Nat}(ho:ct t o):dq (lH t l o):=by
 cases o with
 | none=>exact h.lk (by omega) (by omega) (by omega)
 | some g=>
  have hg:g<t.hs.length:=ho
  have:=ht.aj hg
  exact(h.lk (by omega) (by omega) (by omega)).lk (by simp only[aF];omega) (by simp only[aF];omega) (by simp only[aF];omega)
theorem Ui{t:Tp}(ht:Hok t)(fv tv ra:Int):dq (vI t fv tv ra):=fun k hk=>by
 rw[bX] at hk
 unfold vI
 by_cases e1:k<t.hs.length
 ·rw[fQ e1];exact ht.kz k e1
 ·by_cases e2:k=t.hs.length
  ·subst e2;rw[oH];simp
  ·have e3:k=t.hs.length+1:=by omega
   subst e3;rw[oJ];simp
theorem Nk{t:Tp}(ht:Hok t)(fv tv ra:Int){ho go:Option Nat}(h1:ct t ho)(h2:ct t go):dq (E6 t fv tv ra ho go):=
 Wr ht (by rw[kV,bX]) ht.n (Wq ht (bX _ _ _ _) ht.n (Ui ht _ _ _) h2) h1
theorem Y6{t:Tp}(ht:Hok t)(fv tv ra:Int){ho go:Option Nat}(h1:ct t ho)(h2:ct t go)(y:Nat):(hG (E6 t fv tv ra ho go) y).r=(hG (vI t fv tv ra) y).r:=
 (Xx ht (by rw[kV,bX]) h1 y).trans (Xw ht (bX _ _ _ _) h2 y)
theorem Nl{t:Tp}{fv tv ra:Int}{y:Nat}(hy:y<t.hs.length):(hG (vI t fv tv ra) y).r=(hG t.hs y).r:=by unfold vI;rw[fQ hy]
theorem Nm{t:Tp}{fv tv ra:Int}:(hG (vI t fv tv ra) (t.hs.length:Nat)).r=ra:=by unfold vI;rw[oH]
theorem Nn{t:Tp}{fv tv ra:Int}:(hG (vI t fv tv ra) ((t.hs.length+1:Nat):Int)).r=ra:=by unfold vI;rw[oJ]
theorem Uj(t:Tp)(fv tv ra rb:Int):FN (vI t fv tv ra) (vI t fv tv rb):=⟨by rw[bX,bX],fun y=>by
 by_cases e1:y<t.hs.length
 ·unfold vI;rw[fQ e1,fQ e1];exact⟨rfl,rfl,rfl⟩
 ·by_cases e2:y=t.hs.length
  ·subst e2;unfold vI;rw[oH,oH];exact⟨rfl,rfl,rfl⟩
  ·by_cases e3:y=t.hs.length+1
   ·subst e3;unfold vI;rw[oJ,oJ];exact⟨rfl,rfl,rfl⟩
   ·have h0:∀l:List Hf,l.length=t.hs.length+2→hG l (y:Nat)=⟨0,0,0,0⟩:=fun l hl=>by
     unfold hG;rw[nR,jY,vK (by omega)];rfl
    rw[h0 _ (bX _ _ _ _),h0 _ (bX _ _ _ _)];exact⟨rfl,rfl,rfl⟩⟩
theorem Uk{t:Tp}(ht:Hok t)(fv tv ra rb:Int){ho go:Option Nat}(h1:ct t ho)(h2:ct t go):FN (E6 t fv tv ra ho go) (E6 t fv tv rb ho go):=
 ((Uj t fv tv ra rb).g ht (bX _ _ _ _) h2).h ht (by rw[kV,bX]) h1
def NQ(t:Tp)(o:Option Nat)(y:Nat):Bool:=match o with
 | none=>false
 | some h=>decide (pv t h=y)
theorem Ru{t:Tp}(ht:Hok t)(fv tv ra:Int){ho go:Option Nat}(h1:ct t ho)(h2:ct t go){y:Nat}(hy:y<t.hs.length):(hG (E6 t fv tv ra ho go) y).n=if NQ t ho y=true then (t.hs.length:Int) else if NQ t go y=true then ((t.hs.length+1:Nat):Int) else (hG t.hs y).n:=by
 have LK:∀(l:List Hf) (a b:Nat),l.length=t.hs.length+2→a<t.hs.length+2→b<t.hs.length+2→(hG (lk l a b) y).n=if a=y then (b:Int) else (hG l y).n:=fun l a b hl ha hb=>by rw[aY (by omega) (by omega)]
 have hb0:(hG (vI t fv tv ra) y).n=(hG t.hs y).n:=by unfold vI;rw[fQ hy]
 have hG0:(hG (lG t (vI t fv tv ra) go) y).n=if NQ t go y=true then ((t.hs.length+1:Nat):Int) else (hG t.hs y).n:=by
  cases go with
  | none=>
   show (hG (lk _ _ _) y).n=_
   rw[LK _ _ _ (bX _ _ _ _) (by omega) (by omega),aA (by omega),hb0];rfl
  | some g=>
   have hg:g<t.hs.length:=h2
   have:=ht.aj hg
   show (hG (lk (lk _ _ _) _ _) y).n=_
   rw[LK _ _ _ (by rw[aF,bX]) (by omega) (by omega),LK _ _ _ (bX _ _ _ _) (by omega) (by omega),aA (show ¬t.hs.length=y by omega),hb0]
   show _=if decide (pv t g=y)=true then _ else _
   simp only[cK]
 cases ho with
 | none=>
  show (hG (lk _ _ _) y).n=_
  rw[LK _ _ _ (by rw[kV,bX]) (by omega) (by omega),aA (by omega),hG0];rfl
 | some h=>
  have hh:h<t.hs.length:=h1
  have:=ht.aj hh
  show (hG (lk (lk _ _ _) _ _) y).n=_
  rw[LK _ _ _ (by rw[aF,kV,bX]) (by omega) (by omega),LK _ _ _ (by rw[kV,bX]) (by omega) (by omega),aA (show ¬t.hs.length+1=y by omega),hG0]
  show _=if decide (pv t h=y)=true then _ else _
  simp only[cK]
theorem No{t:Tp}(ht:Hok t)(fv tv ra:Int){ho go:Option Nat}(h1:ct t ho)(h2:ct t go):(hG (E6 t fv tv ra ho go) (t.hs.length:Nat)).n=match go with
 | none=>((t.hs.length+1:Nat):Int)
 | some g=>(g:Int):=by
 have LK:∀(l:List Hf) (a b:Nat),l.length=t.hs.length+2→a<t.hs.length+2→b<t.hs.length+2→(hG (lk l a b) (t.hs.length:Nat)).n=if a=t.hs.length then (b:Int) else (hG l (t.hs.length:Nat)).n:=fun l a b hl ha hb=>by rw[aY (by omega) (by omega)]
 have hG0:(hG (lG t (vI t fv tv ra) go) (t.hs.length:Nat)).n=match go with
  | none=>((t.hs.length+1:Nat):Int)
  | some g=>(g:Int):=by
  cases go with
  | none=>
   show (hG (lk _ _ _) (t.hs.length:Nat)).n=_
   rw[LK _ _ _ (bX _ _ _ _) (by omega) (by omega),aC rfl]
  | some g=>
   have hg:g<t.hs.length:=h2
   have:=ht.aj hg
   show (hG (lk (lk _ _ _) _ _) (t.hs.length:Nat)).n=_
   rw[LK _ _ _ (by rw[aF,bX]) (by omega) (by omega),LK _ _ _ (bX _ _ _ _) (by omega) (by omega),aA (by omega),aC rfl]
 cases ho with
 | none=>
  show (hG (lk _ _ _) (t.hs.length:Nat)).n=_
  rw[LK _ _ _ (by rw[kV,bX]) (by omega) (by omega),aA (by omega),hG0]
 | some h=>
  have hh:h<t.hs.length:=h1
  have:=ht.aj hh
  show (hG (lk (lk _ _ _) _ _) (t.hs.length:Nat)).n=_
  rw[LK _ _ _ (by rw[aF,kV,bX]) (by omega) (by omega),LK _ _ _ (by rw[kV,bX]) (by omega) (by omega),aA (by omega),aA (by omega),hG0]
theorem Nr{t:Tp}(ht:Hok t)(fv tv ra:Int){ho go:Option Nat}(h1:ct t ho):(hG (E6 t fv tv ra ho go) ((t.hs.length+1:Nat):Int)).n=match ho with
 | none=>(t.hs.length:Int)
 | some h=>(h:Int):=by
 have LK:∀(l:List Hf) (a b:Nat),l.length=t.hs.length+2→a<t.hs.length+2→b<t.hs.length+2→(hG (lk l a b) ((t.hs.length+1:Nat):Int)).n=if a=t.hs.length+1 then (b:Int) else (hG l ((t.hs.length+1:Nat):Int)).n:=fun l a b hl ha hb=>by rw[aY (by omega) (by omega)]
 cases ho with
 | none=>
  show (hG (lk _ _ _) ((t.hs.length+1:Nat):Int)).n=_
  rw[LK _ _ _ (by rw[kV,bX]) (by omega) (by omega),aC rfl]
 | some h=>
  have hh:h<t.hs.length:=h1
  have:=ht.aj hh
  show (hG (lk (lk _ _ _) _ _) ((t.hs.length+1:Nat):Int)).n=_
  rw[LK _ _ _ (by rw[aF,kV,bX]) (by omega) (by omega),LK _ _ _ (by rw[kV,bX]) (by omega) (by omega),aA (by omega),aC rfl]
theorem TP{t:Tp}(ht:Hok t){r:Nat}{o:Option Nat}{L:List Nat}(s:dw t r o L){f:Nat→Nat}{x z:Nat} (hx:f x=match o with
 | none=>z
 | some h=>h) (hf:∀y,y∈L→f y=if NQ t o y=true then z else nx t y):Path f x L z:=by
 cases o with
 | none=>rw[s.1];exact hx
 | some h=>
  obtain⟨hh,_,_,c,e,hc,hm⟩:=s
  subst e
  have hlast:pv t h=rR h c c.length:=by
   have h2:nx t (rR h c c.length)=h:=by
    cases c with
    | nil=>exact hc.1
    | cons b c'=>
     have h5:=nX (f:=nx t) (x:=h) (a:=b) (m:=c') hc.1
     exact h5
   rw[←ht.pn ((hm _).1 (lS (x:=h) (m:=c) (k:=c.length) (by simp))).1,h2]
  refine⟨hx,oL (f:=nx t) (z:=h) hc.1 hc.2 (fun y hy hne=>?_) ?_⟩
  ·rw[hf y hy]
   show (if decide (pv t h=y)=true then z else nx t y)=nx t y
   rw[aA]
   intro e;exact hne (by rw[←cH e,hlast])
  ·rw[hf _ (lS (by simp))]
   show (if decide (pv t h=_)=true then z else _)=z
   rw[aC (aM hlast)]
structure Mk (t:Tp) (a b:Nat) (ho go:Option Nat) (H G:List Nat):Prop where
 ht:CKP t
 ha:a<t.rs.length
 hb:b<t.rs.length
 ne:a≠b
 sa:dw t a ho H
 sb:dw t b go G
def pL(t:Tp)(a b:Nat)(ho go:Option Nat)(G:List Nat):List Hf:=ar (E6 t (eE t a ho) (eE t b go) (a:Int) ho go) G (a:Int)
theorem OC(t:Tp)(a b:Nat)(ho go:Option Nat)(G:List Nat):(pL t a b ho go G).length=t.hs.length+2:=by unfold pL;rw[cF,AF]
namespace Mk
variable {t:Tp} {a b:Nat} {ho go:Option Nat} {H G:List Nat}
theorem ke(k:Mk t a b ho go H G){r:Nat}{o:Option Nat}{L:List Nat}(s:dw t r o L){y:Nat}(h:NQ t o y=true):y∈L:=by
 have hk:=k.ht.toHok
 cases o with
 | none=>cases h
 | some h'=>
  have e:pv t h'=y:=cH h
  rw[s.mem]
  obtain⟨hh,hr,_⟩:=s
  have hr':(hG t.hs h').r=(r:Int):=cH hr
  subst e
  have hp:=hk.aj hh
  have:=hk.rg hp
  rw[hk.np hh] at this
  exact⟨hp,aM (by rw[←this];exact hr')⟩
theorem dj(k:Mk t a b ho go H G){y:Nat}(h1:y∈H)(h2:y∈G):False:=by
 have e1:=cH ((k.sa.mem y).1 h1).2
 have e2:=cH ((k.sb.mem y).1 h2).2
 have:=k.ne;omega
theorem qc(k:Mk t a b ho go H G){r:Nat}{o:Option Nat}{L:List Nat}(s:dw t r o L):L.Nodup:=by
 cases o with
 | none=>rw[s.1];simp
 | some h=>
  obtain⟨_,_,_,c,e,hc,_⟩:=s
  rw[e];exact hc.2
theorem qj(k:Mk t a b ho go H G)(V F fv tv ra:Int)(rs:List Rg):bz (nx ⟨V,F,E6 t fv tv ra ho go,rs⟩) t.hs.length (G++(t.hs.length+1)::H):=by
 have hk:=k.ht.toHok
 have oh:=k.sa.ok
 have og:=k.sb.ok
 have nl:∀y,y<t.hs.length→nx ⟨V,F,E6 t fv tv ra ho go,rs⟩ y=if NQ t ho y=true then t.hs.length else if NQ t go y=true then t.hs.length+1 else nx t y:=fun y hy=>by
  show ((hG (E6 t fv tv ra ho go) y).n).toNat=_
  rw[Ru hk _ _ _ oh og hy]
  by_cases e1:NQ t ho y=true
  ·rw[aC e1,aC e1];rfl
  ·rw[aA e1,aA e1]
   by_cases e2:NQ t go y=true
   ·rw[aC e2,aC e2];rfl
   ·rw[aA e2,aA e2];rfl
 have p1:Path (nx ⟨V,F,E6 t fv tv ra ho go,rs⟩) t.hs.length G (t.hs.length+1):=by
  refine TP hk k.sb ?_ fun y hy=>?_
  ·show ((hG (E6 t fv tv ra ho go) (t.hs.length:Nat)).n).toNat=_
   rw[No hk _ _ _ oh og]
   cases go <;> rfl
  ·rw[nl y ((k.sb.mem y).1 hy).1,aA fun e=>k.dj (k.ke k.sa e) hy]
 have p2:Path (nx ⟨V,F,E6 t fv tv ra ho go,rs⟩) (t.hs.length+1) H t.hs.length:=by
  refine TP hk k.sa ?_ fun y hy=>?_
  ·show ((hG (E6 t fv tv ra ho go) ((t.hs.length+1:Nat):Int)).n).toNat=_
   rw[Nr hk _ _ _ oh]
   cases ho <;> rfl
  ·rw[nl y ((k.sa.mem y).1 hy).1]
   by_cases e1:NQ t ho y=true
   ·rw[aC e1,aC e1]
   ·rw[aA e1,aA e1,aA fun e=>k.dj hy (k.ke k.sb e)]
 refine⟨kA.2 ⟨p1,p2⟩,?_⟩
 have hG:∀y∈G,y<t.hs.length:=fun y hy=>((k.sb.mem y).1 hy).1
 have hH:∀y∈H,y<t.hs.length:=fun y hy=>((k.sa.mem y).1 hy).1
 refine cY.2 ⟨fun hm=>?_,rT.2 ⟨k.qc k.sb,cY.2 ⟨fun hm=>by have:=hH _ hm;omega,k.qc k.sa⟩,fun x hx y hy e=>?_⟩⟩
 ·rcases fK.1 hm with h | h
  ·have:=hG _ h;omega
  ·rcases cN.1 h with h | h
   ·omega
   ·have:=hH _ h;omega
 ·rcases cN.1 hy with h | h
  ·have:=hG _ hx;omega
  ·subst e;exact k.dj h hx
theorem ma(k:Mk t a b ho go H G)(fv tv ra:Int):∀y∈t.hs.length::(G++(t.hs.length+1)::H),y<(E6 t fv tv ra ho go).length:=fun y hy=>by
 rw[AF]
 simp only[cN,fK] at hy
 rcases hy with h | h | h | h
 ·omega
 ·have:=((k.sb.mem y).1 h).1;omega
 ·omega
 ·have:=((k.sa.mem y).1 h).1;omega
theorem bG(k:Mk t a b ho go H G)(fv tv ra:Int):∀y∈G,y<(E6 t fv tv ra ho go).length:=fun y hy=>by
 rw[AF]
 have:=((k.sb.mem y).1 hy).1;omega
theorem lq(k:Mk t a b ho go H G):ar (E6 t (eE t a ho) (eE t b go) 0 ho go) (t.hs.length::(G++(t.hs.length+1)::H)) (a:Int)=pL t a b ho go G:=by
 have hk:=k.ht.toHok
 have oh:=k.sa.ok
 have og:=k.sb.ok
 unfold pL
 refine uS (by rw[cF,cF,AF,AF]) fun j hj=>?_
 rw[cF,AF] at hj
 rw[dX _ _ _ _ (k.ma _ _ _),dX _ _ _ _ (k.bG _ _ _)]
 obtain⟨q1,q2,q3⟩:=(Uk hk (eE t a ho) (eE t b go) 0 (a:Int) oh og).2 j
 have hr0:=Y6 hk (eE t a ho) (eE t b go) 0 oh og j
 have hr1:=Y6 hk (eE t a ho) (eE t b go) (a:Int) oh og j
 generalize hG (E6 t (eE t a ho) (eE t b go) 0 ho go) j=z0 at q1 q2 q3 hr0 ⊢
 generalize hG (E6 t (eE t a ho) (eE t b go) (a:Int) ho go) j=z1 at q1 q2 q3 hr1 ⊢
 have hfin:∀r0 r1:Int,r0=r1→(⟨z0.f,z0.n,z0.p,r0⟩:Hf)=⟨z1.f,z1.n,z1.p,r1⟩:=fun r0 r1 e=>by rw[q1,q2,q3,e]
 by_cases e1:j<t.hs.length
 ·rw[Nl e1] at hr0 hr1
  by_cases eG:j∈G
  ·rw[aC (by simp[eG]),aC eG]
   exact hfin _ _ rfl
  ·rw[aA eG]
   by_cases eH:j∈H
   ·rw[aC (by simp[eH])]
    exact hfin _ _ (by rw[hr1];exact(cH ((k.sa.mem j).1 eH).2).symm)
   ·rw[aA (by simp only[cN,fK,EK];exact⟨by omega,eG,by omega,eH⟩)]
    exact hfin _ _ (by rw[hr0,hr1])
 ·have eG:j∉G:=fun h=>e1 ((k.sb.mem j).1 h).1
  rw[aA eG]
  by_cases e2:j=t.hs.length
  ·subst e2
   rw[aC (by simp)]
   exact hfin _ _ (by rw[hr1,Nm])
  ·have e3:j=t.hs.length+1:=by omega
   subst e3
   rw[aC (by simp)]
   exact hfin _ _ (by rw[hr1,Nn])
theorem len(k:Mk t a b ho go H G):(pL t a b ho go G).length=t.hs.length+2:=by unfold pL;rw[cF,AF]
theorem rl(k:Mk t a b ho go H G){y:Nat}(hy:y<t.hs.length):(hG (pL t a b ho go G) y).r=if (hG t.hs y).r=(b:Int) then (a:Int) else (hG t.hs y).r:=by
 have hk:=k.ht.toHok
 unfold pL
 rw[dX _ _ _ _ (k.bG _ _ _)]
 by_cases e:(hG t.hs y).r=(b:Int)
 ·rw[aC e,aC ((k.sb.mem y).2 ⟨hy,aM e⟩)]
 ·rw[aA e,aA fun h=>e (cH ((k.sb.mem y).1 h).2),Y6 hk _ _ _ k.sa.ok k.sb.ok,Nl hy]
theorem rx(k:Mk t a b ho go H G):(hG (pL t a b ho go G) (t.hs.length:Nat)).r=(a:Int):=by
 unfold pL
 rw[dX _ _ _ _ (k.bG _ _ _),aA fun h=>by have:=((k.sb.mem _).1 h).1;omega,Y6 k.ht.toHok _ _ _ k.sa.ok k.sb.ok,Nm]
theorem ry(k:Mk t a b ho go H G):(hG (pL t a b ho go G) ((t.hs.length+1:Nat):Int)).r=(a:Int):=by
 unfold pL
 rw[dX _ _ _ _ (k.bG _ _ _),aA fun h=>by have:=((k.sb.mem _).1 h).1;omega,Y6 k.ht.toHok _ _ _ k.sa.ok k.sb.ok,Nn]
theorem qd(k:Mk t a b ho go H G):¬∃j,j<(pL t a b ho go G).length∧(hG (pL t a b ho go G) (j:Nat)).r=(b:Int):=by
 rintro ⟨j,hj,hr⟩
 rw[k.len] at hj
 have hne:=k.ne
 by_cases e1:j<t.hs.length
 ·rw[k.rl e1] at hr
  by_cases e:(hG t.hs j).r=(b:Int)
  ·rw[aC e] at hr;omega
  ·rw[aA e] at hr;exact e hr
 ·by_cases e2:j=t.hs.length
  ·subst e2;rw[k.rx] at hr;omega
  ·have e3:j=t.hs.length+1:=by omega
   subst e3;rw[k.ry] at hr;omega
theorem ko(k:Mk t a b ho go H G){o:Nat}(h1:o≠a)(h2:o≠b):(∃j,j<(pL t a b ho go G).length∧(hG (pL t a b ho go G) (j:Nat)).r=(o:Int))↔∃j,j<t.hs.length∧(hG t.hs (j:Nat)).r=(o:Int):=by
 rw[k.len]
 constructor
 ·rintro ⟨j,hj,hr⟩
  by_cases e1:j<t.hs.length
  ·rw[k.rl e1] at hr
   by_cases e:(hG t.hs j).r=(b:Int)
   ·rw[aC e] at hr;omega
   ·rw[aA e] at hr;exact⟨j,e1,hr⟩
  ·by_cases e2:j=t.hs.length
   ·subst e2;rw[k.rx] at hr;omega
   ·have e3:j=t.hs.length+1:=by omega
    subst e3;rw[k.ry] at hr;omega
 ·rintro ⟨j,hj,hr⟩
  exact⟨j,by omega,by rw[k.rl hj,aA (by rw[hr];omega)];exact hr⟩
theorem fin(k:Mk t a b ho go H G):lz (dR ⟨t.V,t.F,pL t a b ho go G,t.rs.set a { rG t.rs a with h:=(t.hs.length:Int),v:=-1 }⟩ b)=dn (dR ⟨t.V,t.F,pL t a b ho go G,t.rs.set a { rG t.rs a with v:=-1 }⟩ b):=by
 have hb:=k.hb
 have ha:=k.ha
 have hlX:∀z:Rg,(dR ⟨t.V,t.F,pL t a b ho go G,t.rs.set a z⟩ b).rs.length=t.rs.length-1:=fun z=>by
  show (((t.rs.set a z).set _ _).take _).length=_
  have:(⟨t.V,t.F,pL t a b ho go G,t.rs.set a z⟩:Tp).rs.length=t.rs.length:=by show (t.rs.set a z).length=_;simp
  rw[this,mU,cW,cW];omega
 refine L8 rfl rfl ?_ (by rw[hlX,hlX]) fun i hi=>?_
 ·show (pL t a b ho go G).map _=(pL t a b ho go G).map _
  simp only[cW]
 rw[hlX] at hi
 have hrow:∀z:Rg,rG (dR ⟨t.V,t.F,pL t a b ho go G,t.rs.set a z⟩ b).rs i=rG (t.rs.set a z) (if b=i then t.rs.length-1 else i:Nat):=fun z=>by
  have:=MA ⟨t.V,t.F,pL t a b ho go G,t.rs.set a z⟩ (r:=b) (i:=i) (by show b<(t.rs.set a z).length;simpa using hb) (by show i<(t.rs.set a z).length-1;simpa using hi)
  simp only[cW] at this
  exact this
 have hmem:=Nb ⟨t.V,t.F,pL t a b ho go G,t.rs.set a { rG t.rs a with v:=-1 }⟩ (r:=b) (i:=i) (by show b<(t.rs.set a _).length;simpa using hb) (by show i<(t.rs.set a _).length-1;simpa using hi) k.qd
 simp only[cW] at hmem
 rw[hrow,hrow]
 have ho':(if b=i then t.rs.length-1 else i)<t.rs.length:=by split <;> omega
 have hne:(if b=i then t.rs.length-1 else i)≠b:=by
  by_cases e:b=i
  ·rw[aC e];omega
  ·rw[aA e];omega
 generalize (if b=i then t.rs.length-1 else i)=o at ho' hne hmem ⊢
 have toB:∀Y:Tp,(∃j,j<Y.hs.length∧(hG Y.hs (j:Nat)).r=(i:Int))→∃j,j<Y.hs.length∧eK Y i j=true:=fun Y ⟨j,h1,h2⟩=>⟨j,h1,aM h2⟩
 have toN:∀Y:Tp,(¬∃j,j<Y.hs.length∧(hG Y.hs (j:Nat)).r=(i:Int))→∀j,j<Y.hs.length→eK Y i j=false:=fun Y h j hj=>aQ fun e=>h ⟨j,hj,e⟩
 rw[iD ha,iD ha]
 by_cases e:a=o
 ·subst e
  rw[aC rfl,aC rfl]
  refine⟨rfl,rfl,.inl ⟨toB _ (hmem.2 ⟨t.hs.length,by show _<(pL t a b ho go G).length;rw[k.len];omega,k.rx⟩),by show (t.hs.length:Int)≠-1;omega,by show (-1:Int)<0;decide⟩⟩
 ·rw[aA e,aA e]
  refine⟨rfl,rfl,?_⟩
  have hkp:=k.ko (o:=o) (fun e2=>e e2.symm) hne
  rcases k.ht.dy ho' with⟨h1,h2,h3⟩ | ⟨h1,h2,_⟩
  ·exact .inl ⟨toB _ (hmem.2 (hkp.2 h1)),h2,by omega⟩
  ·exact .inr ⟨toN _ fun h=>h1 (hkp.1 (hmem.1 h)),h2,.inr h2⟩
theorem rg(k:Mk t a b ho go H G){j:Nat}(hj:j<(pL t a b ho go G).length):0≤(hG (pL t a b ho go G) j).r∧(hG (pL t a b ho go G) j).r<t.rs.length:=by
 have ha:=k.ha
 rw[k.len] at hj
 by_cases e1:j<t.hs.length
 ·rw[k.rl e1]
  by_cases e:(hG t.hs j).r=(b:Int)
  ·rw[aC e];omega
  ·rw[aA e];exact k.ht.toHok.kg j e1
 ·by_cases e2:j=t.hs.length
  ·subst e2;rw[k.rx];omega
  ·have e3:j=t.hs.length+1:=by omega
   subst e3;rw[k.ry];omega
end Mk
theorem Fe{l:List Hf}{a b c d:Nat}(ha:a<l.length)(hb:b<l.length)(hc:c<l.length)(hd:d<l.length)(h1:a≠c)(h2:b≠d):lk (lk l a b) c d=lk (lk l c d) a b:=by
 refine uS (by simp only[aF]) fun j hj=>?_
 rw[aY (by rw[aF];exact hc) (by rw[aF];exact hd),aY ha hb,aY (by rw[aF];exact ha) (by rw[aF];exact hb),aY hc hd]
 by_cases e1:a=j
 ·by_cases e2:c=j
  ·omega
  ·by_cases e3:b=j
   ·by_cases e4:d=j
    ·omega
    ·simp only[aC e1,aA e2,aC e3,aA e4]
   ·simp only[aC e1,aA e2,aA e3]
 ·by_cases e3:b=j
  ·by_cases e4:d=j
   ·omega
   ·simp only[aA e1,aC e3,aA e4]
  ·simp only[aA e1,aA e3]
theorem pH{t:Tp}{r h:Nat}(hr:r<t.rs.length)(hh:h<t.hs.length)(h0:0≤(rG t.rs r).h):hM (t.V,t.F,t.hs.map tH,t.rs.map tR,(r:Int),(h:Int),())=some (bif eK t r h then ((hG t.hs h).f,true,()) else (0,false,())):=by
 have d1:decide ((rG t.rs r).h=-1)=false:=aQ (by omega)
 have d2:decide ((h:Int)=-1)=false:=aQ (by omega)
 unfold hM
 simp only[zS,hJ (l:=t.rs) (i:=(r:Int)) (by omega) (by omega),y0,d1,d2,dW (l:=t.hs) (i:=(h:Int)) (by omega) (by omega),jK,sX]
 have:decide ((hG t.hs h).r=(r:Int))=eK t r h:=rfl
 rw[this]
 cases eK t r h <;> rfl
theorem mO{t:Tp}{r:Nat}{h:Int}(hr:r<t.rs.length)(h0:(rG t.rs r).h=-1):hM (t.V,t.F,t.hs.map tH,t.rs.map tR,(r:Int),h,())=some ((rG t.rs r).v,decide (h=-1),()):=by
 have d1:decide ((-1:Int)=-1)=true:=rfl
 unfold hM
 simp only[zS,hJ (l:=t.rs) (i:=(r:Int)) (by omega) (by omega),y0,FU,h0]
theorem AG{t:Tp}{r:Nat}(hr:r<t.rs.length)(h0:0≤(rG t.rs r).h):hM (t.V,t.F,t.hs.map tH,t.rs.map tR,(r:Int),(-1:Int),())=some (0,false,()):=by
 have d1:decide ((rG t.rs r).h=-1)=false:=aQ (by omega)
 have d2:decide ((-1:Int)=-1)=true:=rfl
 unfold hM
 simp only[zS,hJ (l:=t.rs) (i:=(r:Int)) (by omega) (by omega),y0,d1]
theorem GC{t:Tp}{a b:Nat}{ho go:Option Nat}{H G:List Nat}(k:Mk t a b ho go H G)(hn:t.hs.length+2≤256)(hf:(rG t.rs a).c=(rG t.rs b).c):
 (a<t.rs.length∧b<t.rs.length∧a≠b∧t.rs.length≤257∧t.V≤257∧t.F≤257)∧rJ (a:Int) (t.rs.length:Int)=true∧rJ (b:Int) (t.rs.length:Int)=true∧decide ((a:Int)=(b:Int))=false∧decide ((rG t.rs a).c=(rG t.rs b).c)=true ∧
 dD (t.V,t.F,t.hs.map tH,t.rs.map tR,(2:Int),(0:Int),(0:Int),(0:Int),())=some (true,()) ∧
 bT (t.V,t.F,t.hs.map tH,t.rs.map tR,(2:Int),(0:Int),(0:Int),(0:Int),())=some (true,()):=by
 have hz:=k.ht.toSz
 have ha:=k.ha
 have hb:=k.hb
 have hne:=k.ne
 have hR:=k.ht.R
 have hV1:=k.ht.V1
 have hF1:=k.ht.F1
 have hro:gQ t 2 0 0 0=true:=by
  unfold gQ;simp only[cM,cK];omega
 refine⟨⟨ha,hb,hne,hR,hV1,hF1⟩,bR.2 ⟨by omega,by omega⟩,bR.2 ⟨by omega,by omega⟩,aQ (by omega),aM hf,?_,?_⟩
 ·rw[←hro];exact FZ hz (a:=2) (b:=0) (c:=0) (d:=0) (by decide) (by decide) (by decide) (by decide)
 ·rw[←hro];exact F5 hz (a:=2) (b:=0) (c:=0) (d:=0) (by decide) (by decide) (by decide) (by decide)
theorem OD{t:Tp}{a b:Nat}{ho go:Option Nat}{H G:List Nat}(k:Mk t a b ho go H G)(hn:t.hs.length+2≤256):∃Y:Tp,
 bI ((),(b:Int),t.V,t.F,(pL t a b ho go G).map tH,(t.rs.set a { rG t.rs a with v:=-1 }).map tR,())=some (oF Y) ∧
 aN ((),Y.V,Y.F,Y.hs.map tH,Y.rs.map tR,())=some (Y.V,Y.F,Y.hs.map tH,(dn ⟨Y.V,Y.F,Y.hs,Y.rs⟩).rs.map tR,0,Y.V,Y.F,Y.hs.map tH,(dn ⟨Y.V,Y.F,Y.hs,Y.rs⟩).rs.map tR,()) ∧
 lz (dR ⟨t.V,t.F,pL t a b ho go G,t.rs.set a { rG t.rs a with h:=(t.hs.length:Int),v:=-1 }⟩ b)=dn Y:=by
 have hb:=k.hb
 have hR:=k.ht.R
 obtain⟨X,hX⟩:∃X,X=(⟨t.V,t.F,pL t a b ho go G,t.rs.set a { rG t.rs a with v:=-1 }⟩:Tp):=⟨_,rfl⟩
 have hXh:X.hs=pL t a b ho go G:=by rw[hX]
 have hXr:X.rs=t.rs.set a { rG t.rs a with v:=-1 }:=by rw[hX]
 have hXV:X.V=t.V:=by rw[hX]
 have hXF:X.F=t.F:=by rw[hX]
 have hXl:X.rs.length=t.rs.length:=by rw[hXr];simp
 have hdR:=QU (t:=X) (by rw[hXh,k.len];omega) (by omega) (r:=b) (by omega)
 rw[hXh,hXr,hXV,hXF] at hdR
 have hdl:(dR X b).hs.length≤1000:=by show (X.hs.map _).length≤_;rw[cS,hXh,k.len];omega
 have hdl2:(dR X b).rs.length=t.rs.length-1:=by show ((X.rs.set _ _).take _).length=_;rw[mU,cW];omega
 have hrg:eg (dR X b).hs (dR X b).rs.length:=fun j hj=>by
  have e0:(dR X b).hs=X.hs.map (gR ((X.rs.length-1:Nat):Int) (b:Int)):=rfl
  rw[e0,cS] at hj
  rw[e0,qQ _ hj,zR,hdl2,hXl]
  rw[hXh] at hj ⊢
  have h1:=k.rg hj
  have h2:(hG (pL t a b ho go G) (j:Nat)).r≠(b:Int):=fun e3=>k.qd ⟨j,hj,e3⟩
  simp only[]
  split <;> omega
 exact⟨dR X b,hdR,AC (V:=(dR X b).V) (F:=(dR X b).F) (hs:=(dR X b).hs) (rs:=(dR X b).rs) hdl (by omega) hrg,by rw[hX];exact k.fin⟩
theorem KC{t:Tp}{a b:Nat}{ho go:Option Nat}{H G:List Nat}(k:Mk t a b ho go H G)(hn:t.hs.length+2≤256):∃Y:Tp,
 cI (t.V,t.F,(E6 t (eE t a ho) (eE t b go) 0 ho go).map tH,t.rs.map tR,(t.hs.length:Int),(a:Int),())=some ((pL t a b ho go G).map tH,(t.rs.set a { rG t.rs a with h:=(t.hs.length:Int),v:=-1 }).map tR,()) ∧
 gO ((),(b:Int),t.V,t.F,(pL t a b ho go G).map tH,(t.rs.set a { rG t.rs a with h:=(t.hs.length:Int),v:=-1 }).map tR,())=some (oF Y) ∧
 cJ (Y.V,Y.F,Y.hs.map tH,Y.rs.map tR,())=some (oF (lz Y)) ∧
 dR ⟨t.V,t.F,pL t a b ho go G,t.rs.set a { rG t.rs a with h:=(t.hs.length:Int),v:=-1 }⟩ b=Y:=by
 have hk:=k.ht.toHok
 have ha:=k.ha
 have hb:=k.hb
 have hR:=k.ht.R
 have hsm:=Nk hk (eE t a ho) (eE t b go) 0 k.sa.ok k.sb.ok
 have hst:=xM (V:=t.V) (F:=t.F) (hs:=E6 t (eE t a ho) (eE t b go) 0 ho go) (rs:=t.rs) (by rw[AF];omega) (r:=a) (k.qj _ _ _ _ _ _) (k.ma _ _ _) (fun y hy=>hsm.mc (k.ma _ _ _ y hy)) ha
 unfold lJ at hst
 simp only[k.lq] at hst
 obtain⟨X,hX⟩:∃X,X=(⟨t.V,t.F,pL t a b ho go G,t.rs.set a { rG t.rs a with h:=(t.hs.length:Int),v:=-1 }⟩:Tp):=⟨_,rfl⟩
 have hXh:X.hs=pL t a b ho go G:=by rw[hX]
 have hXr:X.rs=t.rs.set a { rG t.rs a with h:=(t.hs.length:Int),v:=-1 }:=by rw[hX]
 have hXV:X.V=t.V:=by rw[hX]
 have hXF:X.F=t.F:=by rw[hX]
 have hXl:X.rs.length=t.rs.length:=by rw[hXr];simp
 have hdR:=QS (t:=X) (by rw[hXh,k.len];omega) (by omega) (r:=b) (by omega)
 rw[hXh,hXr,hXV,hXF] at hdR
 have hdl:(dR X b).hs.length≤1000:=by show (X.hs.map _).length≤_;rw[cS,hXh,k.len];omega
 have hdr:(dR X b).rs.length≤1000:=by show ((X.rs.set _ _).take _).length≤_;rw[mU,cW];omega
 exact⟨dR X b,hst,hdR,J7 (X:=dR X b) hdl hdr,by rw[hX]⟩
theorem Ns{t:Tp}{b g:Nat}{G:List Nat}(hk:Hok t)(s:dw t b (some g) G)(x y z:Int)(a:Int):∃c,G=g::c∧(∀y∈g::c,y<t.hs.length) ∧
 aR ((),(g:Int),(pv t g:Int),a,t.V,t.F,(vI t x y z).map tH,t.rs.map tR,())=some (t.V,t.F,(ar (vI t x y z) (g::c) a).map tH,t.rs.map tR,()):=by
 obtain⟨_,_,_,c,hc,hcc,hcm⟩:=s
 have hlast:pv t g=rR g c c.length:=by
  have h2:nx t (rR g c c.length)=g:=by
   cases c with
   | nil=>exact hcc.1
   | cons b' c'=>
    have h5:=nX (f:=nx t) (x:=g) (a:=b') (m:=c') hcc.1
    exact h5
  rw[←hk.pn ((hcm _).1 (lS (x:=g) (m:=c) (k:=c.length) (by simp))).1,h2]
 refine⟨c,hc,fun y hy=>((hcm y).1 hy).1,F7 (V:=t.V) (F:=t.F) (hs:=vI t x y z) (rs:=t.rs.map tR) (r:=a) (x:=g) (m:=c) hcc.2 (fun y hy=>by rw[bX];have:=((hcm y).1 hy).1;omega) (fun j hj=>?_) (last:=pv t g) hlast⟩
 have hy:=((hcm _).1 (lS (x:=g) (m:=c) (k:=j) (by simp;omega))).1
 have e9:hG (vI t x y z) (rR g c j:Nat)=hG t.hs (rR g c j:Nat):=by unfold vI;exact fQ hy
 rw[e9,hk.bd hy,Mz hcc hj]
theorem Ij{t:Tp}{a b:Nat}{Hl Gl:List Nat}(k:Mk t a b none none Hl Gl)(hn:t.hs.length+2≤256)(hf:(rG t.rs a).c=(rG t.rs b).c):
 aP (t.V,t.F,t.hs.map tH,t.rs.map tR,(a:Int),(-1:Int),(b:Int),(-1:Int),())=some (wY (lz (dR ⟨t.V,t.F,pL t a b none none Gl,t.rs.set a { rG t.rs a with h:=(t.hs.length:Int),v:=-1 }⟩ b)) 0):=by
 have ht:=k.ht
 have hk:=ht.toHok
 have hz:=hk.toSz
 obtain⟨⟨ha,hb,hne,hR,hV1,hF1⟩,hi1,hi2,dab,dc,rr,_⟩:=GC k hn hf
 have dm:decide ((-1:Int)=-1)=true:=rfl
 have dg:decide ((0:Int)≤-1)=false:=rfl
 have hs1:(rG t.rs a).h=-1:=k.sa.2.1
 have hs2:(rG t.rs b).h=-1:=k.sb.2.1
 obtain⟨L0,hL0⟩:∃L0,L0=vI t (rG t.rs a).v (rG t.rs b).v 0:=⟨_,rfl⟩
 have hl0:L0.length=t.hs.length+2:=by rw[hL0,bX]
 have hL0':t.hs++[Hf.mk (rG t.rs a).v 0 0 0,Hf.mk (rG t.rs b).v 0 0 0]=L0:=by rw[hL0];rfl
 have lkr:∀(l:List Hf),l.length=t.hs.length+2→∀x y:Nat,x<t.hs.length+2→y<t.hs.length+2→aJ (t.V,t.F,l.map tH,t.rs.map tR,(x:Int),(y:Int),())=some ((lk l x y).map tH,t.rs.map tR,()):=fun l h1 x y h2 h3=>xL (by omega) (by omega)
 obtain⟨L1,hL1⟩:∃L1,L1=lk L0 t.hs.length (t.hs.length+1):=⟨_,rfl⟩
 have hl1:L1.length=t.hs.length+2:=by rw[hL1,aF,hl0]
 have hL1':L1=lG t L0 none:=hL1
 obtain⟨L2,hL2⟩:∃L2,L2=lk L1 (t.hs.length+1) t.hs.length:=⟨_,rfl⟩
 have hl2:L2.length=t.hs.length+2:=by rw[hL2,aF,hl1]
 have hL2':L2=lH t L1 none:=hL2
 have hLm:L2=E6 t (eE t a none) (eE t b none) 0 none none:=by rw[hL2',hL1',hL0];rfl
 obtain⟨Y,hst,hdR,hls,hfin⟩:=KC k hn
 rw[←hLm] at hst
 rw[hfin]
 unfold aP
 simp only[zS,bD ht,fP,bC,bL,hi1,hi2, rr,dab,hJ (l:=t.rs) (i:=(a:Int)) (by omega) (by omega),hJ (l:=t.rs) (i:=(b:Int)) (by omega) (by omega),fA,dc,mO ha hs1,mO hb hs2,mM hz,aU,FX (hs:=t.hs) (by omega),hL0',aW,lkr L0 hl0 _ _ (by omega:t.hs.length<_) (by omega:t.hs.length+1<_),←hL1,lkr L1 hl1 _ _ (by omega:t.hs.length+1<_) (by omega:t.hs.length<_),←hL2,hst,hdR,oF,hls]
 rfl
theorem TQ{t:Tp}{a b:Nat}{Hl Gl:List Nat}(k:Mk t a b none none Hl Gl)(hn:t.hs.length+2≤256)(hf:(rG t.rs a).c=(rG t.rs b).c):
 aI (t.V,t.F,t.hs.map tH,t.rs.map tR,(a:Int),(-1:Int),(b:Int),(-1:Int),())=some (wY (lz (dR ⟨t.V,t.F,pL t a b none none Gl,t.rs.set a { rG t.rs a with h:=(t.hs.length:Int),v:=-1 }⟩ b)) 0):=by
 have ht:=k.ht
 have hk:=ht.toHok
 have hz:=hk.toSz
 obtain⟨⟨ha,hb,hne,hR,hV1,hF1⟩,hi1,hi2,dab,dc,_,rr⟩:=GC k hn hf
 have dm:decide ((-1:Int)=-1)=true:=rfl
 have dg:decide ((0:Int)≤-1)=false:=rfl
 have hs1:(rG t.rs a).h=-1:=k.sa.2.1
 have hs2:(rG t.rs b).h=-1:=k.sb.2.1
 obtain⟨L0,hL0⟩:∃L0,L0=vI t (rG t.rs a).v (rG t.rs b).v (a:Int):=⟨_,rfl⟩
 have hl0:L0.length=t.hs.length+2:=by rw[hL0,bX]
 have hL0':t.hs++[Hf.mk (rG t.rs a).v 0 0 (a:Int),Hf.mk (rG t.rs b).v 0 0 (a:Int)]=L0:=by rw[hL0];rfl
 have lkr:∀(l:List Hf),l.length=t.hs.length+2→∀x y:Nat,x<t.hs.length+2→y<t.hs.length+2→aB ((),(x:Int),(y:Int),t.V,t.F,l.map tH,t.rs.map tR,())=some (t.V,t.F,(lk l x y).map tH,t.rs.map tR,()):=fun l h1 x y h2 h3=>xN (by omega) (by omega)
 obtain⟨L1,hL1⟩:∃L1,L1=lk L0 t.hs.length (t.hs.length+1):=⟨_,rfl⟩
 have hl1:L1.length=t.hs.length+2:=by rw[hL1,aF,hl0]
 have hL1':L1=lG t L0 none:=hL1
 obtain⟨L2,hL2⟩:∃L2,L2=lk L1 (t.hs.length+1) t.hs.length:=⟨_,rfl⟩
 have hl2:L2.length=t.hs.length+2:=by rw[hL2,aF,hl1]
 have hL2':L2=lH t L1 none:=hL2
 have hGl:Gl=[]:=k.sb.1
 have hLm:L2=pL t a b none none Gl:=by rw[hGl,hL2',hL1',hL0];rfl
 obtain⟨Y,hdR,hls,hfin⟩:=OD k hn
 rw[←hLm] at hdR
 rw[hfin]
 unfold aI
 simp only[zS,bE ht,bM,cE,bC,bL,hi1,hi2,gH,dg, rr,dab,hJ (l:=t.rs) (i:=(a:Int)) (by omega) (by omega),hJ (l:=t.rs) (i:=(b:Int)) (by omega) (by omega),fA,dc,qP ha hs1,qP hb hs2,oZ hz,aG (n:=(t.rs.length:Int)) (i:=a) (by omega),aG (n:=(t.rs.length:Int)) (i:=b) (by omega),aU,sO ha,sO hb,FU,F4 (hs:=t.hs) (by omega),hL0',aW,lkr L0 hl0 _ _ (by omega:t.hs.length<_) (by omega:t.hs.length+1<_),←hL1,lkr L1 hl1 _ _ (by omega:t.hs.length+1<_) (by omega:t.hs.length<_),←hL2,bS,FW,wX,hdR,oF,hls]
 rfl
theorem Ik{t:Tp}{a b:Nat}{g:Nat}{Hl Gl:List Nat}(k:Mk t a b none (some g) Hl Gl)(hn:t.hs.length+2≤256)(hf:(rG t.rs a).c=(rG t.rs b).c):
 aP (t.V,t.F,t.hs.map tH,t.rs.map tR,(a:Int),(-1:Int),(b:Int),(g:Int),())=some (wY (lz (dR ⟨t.V,t.F,pL t a b none (some g) Gl,t.rs.set a { rG t.rs a with h:=(t.hs.length:Int),v:=-1 }⟩ b)) 0):=by
 have ht:=k.ht
 have hk:=ht.toHok
 have hz:=hk.toSz
 obtain⟨⟨ha,hb,hne,hR,hV1,hF1⟩,hi1,hi2,dab,dc,rr,_⟩:=GC k hn hf
 have dm:decide ((-1:Int)=-1)=true:=rfl
 have dg:decide ((0:Int)≤-1)=false:=rfl
 have hs1:(rG t.rs a).h=-1:=k.sa.2.1
 have hg:g<t.hs.length:=k.sb.1
 have hgr:eK t b g=true:=k.sb.2.1
 have hg0:0≤(rG t.rs b).h:=k.sb.2.2.1
 have pg:=hk.aj hg
 have dg1:decide ((g:Int)=-1)=false:=aQ (by omega)
 have dg0:decide ((0:Int)≤(g:Int))=true:=aM (by omega)
 have ig:rJ (g:Int) (t.hs.length:Int)=true:=bR.2 ⟨by omega,by omega⟩
 obtain⟨L0,hL0⟩:∃L0,L0=vI t (rG t.rs a).v (hG t.hs g).f 0:=⟨_,rfl⟩
 have hl0:L0.length=t.hs.length+2:=by rw[hL0,bX]
 have hL0':t.hs++[Hf.mk (rG t.rs a).v 0 0 0,Hf.mk (hG t.hs g).f 0 0 0]=L0:=by rw[hL0];rfl
 have lkr:∀(l:List Hf),l.length=t.hs.length+2→∀x y:Nat,x<t.hs.length+2→y<t.hs.length+2→aJ (t.V,t.F,l.map tH,t.rs.map tR,(x:Int),(y:Int),())=some ((lk l x y).map tH,t.rs.map tR,()):=fun l h1 x y h2 h3=>xL (by omega) (by omega)
 have g0:hG L0 g=hG t.hs g:=by rw[hL0];unfold vI;exact fQ hg
 obtain⟨L1,hL1⟩:∃L1,L1=lk (lk L0 t.hs.length g) (pv t g) (t.hs.length+1):=⟨_,rfl⟩
 have hl1:L1.length=t.hs.length+2:=by rw[hL1,aF,aF,hl0]
 have hL1':L1=lG t L0 (some g):=hL1
 obtain⟨L2,hL2⟩:∃L2,L2=lk L1 (t.hs.length+1) t.hs.length:=⟨_,rfl⟩
 have hl2:L2.length=t.hs.length+2:=by rw[hL2,aF,hl1]
 have hL2':L2=lH t L1 none:=hL2
 have hLm:L2=E6 t (eE t a none) (eE t b (some g)) 0 none (some g):=by rw[hL2',hL1',hL0];rfl
 obtain⟨Y,hst,hdR,hls,hfin⟩:=KC k hn
 rw[←hLm] at hst
 rw[hfin]
 unfold aP
 simp only[zS,bD ht,fP,bC,bL,hi1,hi2,dg1,ig, rr,dab,hJ (l:=t.rs) (i:=(a:Int)) (by omega) (by omega),hJ (l:=t.rs) (i:=(b:Int)) (by omega) (by omega),fA,dc,mO ha hs1,pH hb hg hg0,hgr,mM hz,aU,mK,FX (hs:=t.hs) (by omega),hL0',aW,hl0,aG (n:=((t.hs.length+2:Nat):Int)) (i:=g) (by omega),gI (l:=L0) (k:=g) (by omega),g0,hk.bo hg,lkr L0 hl0 _ _ (by omega:t.hs.length<_) (by omega:g<_),lkr (lk L0 t.hs.length g) (by rw[aF,hl0]) _ _ (by omega:pv t g<_) (by omega:t.hs.length+1<_),←hL1,lkr L1 hl1 _ _ (by omega:t.hs.length+1<_) (by omega:t.hs.length<_),←hL2,hst,hdR,oF,hls]
 rfl
theorem TR{t:Tp}{a b:Nat}{g:Nat}{Hl Gl:List Nat}(k:Mk t a b none (some g) Hl Gl)(hn:t.hs.length+2≤256)(hf:(rG t.rs a).c=(rG t.rs b).c):
 aI (t.V,t.F,t.hs.map tH,t.rs.map tR,(a:Int),(-1:Int),(b:Int),(g:Int),())=some (wY (lz (dR ⟨t.V,t.F,pL t a b none (some g) Gl,t.rs.set a { rG t.rs a with h:=(t.hs.length:Int),v:=-1 }⟩ b)) 0):=by
 have ht:=k.ht
 have hk:=ht.toHok
 have hz:=hk.toSz
 obtain⟨⟨ha,hb,hne,hR,hV1,hF1⟩,hi1,hi2,dab,dc,_,rr⟩:=GC k hn hf
 have dm:decide ((-1:Int)=-1)=true:=rfl
 have dg:decide ((0:Int)≤-1)=false:=rfl
 have hs1:(rG t.rs a).h=-1:=k.sa.2.1
 have hg:g<t.hs.length:=k.sb.1
 have hgr:eK t b g=true:=k.sb.2.1
 have hg0:0≤(rG t.rs b).h:=k.sb.2.2.1
 have pg:=hk.aj hg
 have dg1:decide ((g:Int)=-1)=false:=aQ (by omega)
 have dg0:decide ((0:Int)≤(g:Int))=true:=aM (by omega)
 have ig:rJ (g:Int) (t.hs.length:Int)=true:=bR.2 ⟨by omega,by omega⟩
 obtain⟨L0,hL0⟩:∃L0,L0=vI t (rG t.rs a).v (hG t.hs g).f (a:Int):=⟨_,rfl⟩
 have hl0:L0.length=t.hs.length+2:=by rw[hL0,bX]
 have hL0':t.hs++[Hf.mk (rG t.rs a).v 0 0 (a:Int),Hf.mk (hG t.hs g).f 0 0 (a:Int)]=L0:=by rw[hL0];rfl
 have lkr:∀(l:List Hf),l.length=t.hs.length+2→∀x y:Nat,x<t.hs.length+2→y<t.hs.length+2→aB ((),(x:Int),(y:Int),t.V,t.F,l.map tH,t.rs.map tR,())=some (t.V,t.F,(lk l x y).map tH,t.rs.map tR,()):=fun l h1 x y h2 h3=>xN (by omega) (by omega)
 have g0:hG L0 g=hG t.hs g:=by rw[hL0];unfold vI;exact fQ hg
 obtain⟨c,hc,hcl,hasg⟩:=Ns hk k.sb (rG t.rs a).v (hG t.hs g).f (a:Int) (a:Int)
 rw[←hL0] at hasg
 have hbc:∀y∈g::c,y<L0.length:=fun y hy=>by have:=hcl y hy;omega
 have hl0s:(ar L0 (g::c) (a:Int)).length=t.hs.length+2:=by rw[cF,hl0]
 obtain⟨L1,hL1⟩:∃L1,L1=lk (lk (ar L0 (g::c) (a:Int)) (pv t g) (t.hs.length+1)) t.hs.length g:=⟨_,rfl⟩
 have hl1:L1.length=t.hs.length+2:=by rw[hL1,aF,aF,hl0s]
 have hL1':L1=ar (lG t L0 (some g)) (g::c) (a:Int):=by
  rw[hL1,Fe (by omega) (by omega) (by omega) (by omega) (by omega) (by omega)]
  show _=ar (lk (lk L0 t.hs.length g) (pv t g) (t.hs.length+1)) (g::c) (a:Int)
  rw[B3 (fun y hy=>by rw[aF];exact hbc y hy) (by rw[aF];omega) (by rw[aF];omega),B3 hbc (by omega) (by omega)]
 obtain⟨L2,hL2⟩:∃L2,L2=lk L1 (t.hs.length+1) t.hs.length:=⟨_,rfl⟩
 have hl2:L2.length=t.hs.length+2:=by rw[hL2,aF,hl1]
 have hL2':L2=lH t L1 none:=hL2
 have hLm:L2=pL t a b none (some g) Gl:=by
  rw[hc,hL2',hL1',hL0]
  unfold pL E6
  have hlG:(lG t (vI t (eE t a none) (eE t b (some g)) (a:Int)) (some g)).length=t.hs.length+2:=by rw[kV,bX]
  have hbc2:∀y∈g::c,y<(lG t (vI t (eE t a none) (eE t b (some g)) (a:Int)) (some g)).length:=fun y hy=>by rw[hlG];have:=hcl y hy;omega
  show lk (ar (lG t (vI t (eE t a none) (eE t b (some g)) (a:Int)) (some g)) (g::c) (a:Int)) (t.hs.length+1) t.hs.length=ar (lk (lG t (vI t (eE t a none) (eE t b (some g)) (a:Int)) (some g)) (t.hs.length+1) t.hs.length) (g::c) (a:Int)
  rw[B3 hbc2 (by omega) (by omega)]
 obtain⟨Y,hdR,hls,hfin⟩:=OD k hn
 rw[←hLm] at hdR
 rw[hfin]
 unfold aI
 simp only[zS,bE ht,bM,cE,bC,bL,hi1,hi2,gH,dg,dg1,dg0,ig, rr,dab,hJ (l:=t.rs) (i:=(a:Int)) (by omega) (by omega),hJ (l:=t.rs) (i:=(b:Int)) (by omega) (by omega),fA,dc,qP ha hs1,qO hb hg hg0,hgr,oZ hz,aG (n:=(t.rs.length:Int)) (i:=a) (by omega),aG (n:=(t.rs.length:Int)) (i:=b) (by omega),aU,sO ha,sO hb,FU,gI hg,sX,mK,aG (n:=(t.hs.length:Int)) (i:=g) (by omega),F4 (hs:=t.hs) (by omega),hL0',aW,hl0,aG (n:=((t.hs.length+2:Nat):Int)) (i:=g) (by omega),gI (l:=L0) (k:=g) (by omega),g0,hk.bo hg,hasg,lkr (ar L0 (g::c) (a:Int)) hl0s _ _ (by omega:pv t g<_) (by omega:t.hs.length+1<_),lkr (lk (ar L0 (g::c) (a:Int)) (pv t g) (t.hs.length+1)) (by rw[aF,hl0s]) _ _ (by omega:t.hs.length<_) (by omega:g<_),←hL1,lkr L1 hl1 _ _ (by omega:t.hs.length+1<_) (by omega:t.hs.length<_),←hL2,bS,FW,wX,hdR,oF,hls]
 rfl
theorem Il{t:Tp}{a b:Nat}{h:Nat}{Hl Gl:List Nat}(k:Mk t a b (some h) none Hl Gl)(hn:t.hs.length+2≤256)(hf:(rG t.rs a).c=(rG t.rs b).c):
 aP (t.V,t.F,t.hs.map tH,t.rs.map tR,(a:Int),(h:Int),(b:Int),(-1:Int),())=some (wY (lz (dR ⟨t.V,t.F,pL t a b (some h) none Gl,t.rs.set a { rG t.rs a with h:=(t.hs.length:Int),v:=-1 }⟩ b)) 0):=by
 have ht:=k.ht
 have hk:=ht.toHok
 have hz:=hk.toSz
 obtain⟨⟨ha,hb,hne,hR,hV1,hF1⟩,hi1,hi2,dab,dc,rr,_⟩:=GC k hn hf
 have dm:decide ((-1:Int)=-1)=true:=rfl
 have dg:decide ((0:Int)≤-1)=false:=rfl
 have hh:h<t.hs.length:=k.sa.1
 have hhr:eK t a h=true:=k.sa.2.1
 have hh0:0≤(rG t.rs a).h:=k.sa.2.2.1
 have ph:=hk.aj hh
 have dh:decide ((h:Int)=-1)=false:=aQ (by omega)
 have dh0:decide ((0:Int)≤(h:Int))=true:=aM (by omega)
 have ih:rJ (h:Int) (t.hs.length:Int)=true:=bR.2 ⟨by omega,by omega⟩
 have hs2:(rG t.rs b).h=-1:=k.sb.2.1
 obtain⟨L0,hL0⟩:∃L0,L0=vI t (hG t.hs h).f (rG t.rs b).v 0:=⟨_,rfl⟩
 have hl0:L0.length=t.hs.length+2:=by rw[hL0,bX]
 have hL0':t.hs++[Hf.mk (hG t.hs h).f 0 0 0,Hf.mk (rG t.rs b).v 0 0 0]=L0:=by rw[hL0];rfl
 have lkr:∀(l:List Hf),l.length=t.hs.length+2→∀x y:Nat,x<t.hs.length+2→y<t.hs.length+2→aJ (t.V,t.F,l.map tH,t.rs.map tR,(x:Int),(y:Int),())=some ((lk l x y).map tH,t.rs.map tR,()):=fun l h1 x y h2 h3=>xL (by omega) (by omega)
 obtain⟨L1,hL1⟩:∃L1,L1=lk L0 t.hs.length (t.hs.length+1):=⟨_,rfl⟩
 have hl1:L1.length=t.hs.length+2:=by rw[hL1,aF,hl0]
 have hL1':L1=lG t L0 none:=hL1
 have g1:(hG L1 h).p=(pv t h:Int):=by
  rw[hL1,aY (by omega) (by omega)]
  simp only[aA (show ¬t.hs.length+1=h by omega)]
  have e9:hG L0 h=hG t.hs h:=by rw[hL0];unfold vI;exact fQ hh
  rw[e9,hk.bo hh]
 obtain⟨L2,hL2⟩:∃L2,L2=lk (lk L1 (t.hs.length+1) h) (pv t h) t.hs.length:=⟨_,rfl⟩
 have hl2:L2.length=t.hs.length+2:=by rw[hL2,aF,aF,hl1]
 have hL2':L2=lH t L1 (some h):=hL2
 have hLm:L2=E6 t (eE t a (some h)) (eE t b none) 0 (some h) none:=by rw[hL2',hL1',hL0];rfl
 obtain⟨Y,hst,hdR,hls,hfin⟩:=KC k hn
 rw[←hLm] at hst
 rw[hfin]
 unfold aP
 simp only[zS,bD ht,fP,bC,bL,hi1,hi2,dh,ih, rr,dab,hJ (l:=t.rs) (i:=(a:Int)) (by omega) (by omega),hJ (l:=t.rs) (i:=(b:Int)) (by omega) (by omega),fA,dc,pH ha hh hh0,hhr,mO hb hs2,mM hz,aU,mK,FX (hs:=t.hs) (by omega),hL0',aW,lkr L0 hl0 _ _ (by omega:t.hs.length<_) (by omega:t.hs.length+1<_),←hL1,hl1,aG (n:=((t.hs.length+2:Nat):Int)) (i:=h) (by omega),gI (l:=L1) (k:=h) (by omega),g1,lkr L1 hl1 _ _ (by omega:t.hs.length+1<_) (by omega:h<_),lkr (lk L1 (t.hs.length+1) h) (by rw[aF,hl1]) _ _ (by omega:pv t h<_) (by omega:t.hs.length<_),←hL2,hst,hdR,oF,hls]
 rfl
theorem TS{t:Tp}{a b:Nat}{h:Nat}{Hl Gl:List Nat}(k:Mk t a b (some h) none Hl Gl)(hn:t.hs.length+2≤256)(hf:(rG t.rs a).c=(rG t.rs b).c):
 aI (t.V,t.F,t.hs.map tH,t.rs.map tR,(a:Int),(h:Int),(b:Int),(-1:Int),())=some (wY (lz (dR ⟨t.V,t.F,pL t a b (some h) none Gl,t.rs.set a { rG t.rs a with h:=(t.hs.length:Int),v:=-1 }⟩ b)) 0):=by
 have ht:=k.ht
 have hk:=ht.toHok
 have hz:=hk.toSz
 obtain⟨⟨ha,hb,hne,hR,hV1,hF1⟩,hi1,hi2,dab,dc,_,rr⟩:=GC k hn hf
 have dm:decide ((-1:Int)=-1)=true:=rfl
 have dg:decide ((0:Int)≤-1)=false:=rfl
 have hh:h<t.hs.length:=k.sa.1
 have hhr:eK t a h=true:=k.sa.2.1
 have hh0:0≤(rG t.rs a).h:=k.sa.2.2.1
 have ph:=hk.aj hh
 have dh:decide ((h:Int)=-1)=false:=aQ (by omega)
 have dh0:decide ((0:Int)≤(h:Int))=true:=aM (by omega)
 have ih:rJ (h:Int) (t.hs.length:Int)=true:=bR.2 ⟨by omega,by omega⟩
 have hs2:(rG t.rs b).h=-1:=k.sb.2.1
 obtain⟨L0,hL0⟩:∃L0,L0=vI t (hG t.hs h).f (rG t.rs b).v (a:Int):=⟨_,rfl⟩
 have hl0:L0.length=t.hs.length+2:=by rw[hL0,bX]
 have hL0':t.hs++[Hf.mk (hG t.hs h).f 0 0 (a:Int),Hf.mk (rG t.rs b).v 0 0 (a:Int)]=L0:=by rw[hL0];rfl
 have lkr:∀(l:List Hf),l.length=t.hs.length+2→∀x y:Nat,x<t.hs.length+2→y<t.hs.length+2→aB ((),(x:Int),(y:Int),t.V,t.F,l.map tH,t.rs.map tR,())=some (t.V,t.F,(lk l x y).map tH,t.rs.map tR,()):=fun l h1 x y h2 h3=>xN (by omega) (by omega)
 obtain⟨L1,hL1⟩:∃L1,L1=lk L0 t.hs.length (t.hs.length+1):=⟨_,rfl⟩
 have hl1:L1.length=t.hs.length+2:=by rw[hL1,aF,hl0]
 have hL1':L1=lG t L0 none:=hL1
 have g1:(hG L1 h).p=(pv t h:Int):=by
  rw[hL1,aY (by omega) (by omega)]
  simp only[aA (show ¬t.hs.length+1=h by omega)]
  have e9:hG L0 h=hG t.hs h:=by rw[hL0];unfold vI;exact fQ hh
  rw[e9,hk.bo hh]
 obtain⟨L2,hL2⟩:∃L2,L2=lk (lk L1 (t.hs.length+1) h) (pv t h) t.hs.length:=⟨_,rfl⟩
 have hl2:L2.length=t.hs.length+2:=by rw[hL2,aF,aF,hl1]
 have hL2':L2=lH t L1 (some h):=hL2
 have hGl:Gl=[]:=k.sb.1
 have hLm:L2=pL t a b (some h) none Gl:=by rw[hGl,hL2',hL1',hL0];rfl
 obtain⟨Y,hdR,hls,hfin⟩:=OD k hn
 rw[←hLm] at hdR
 rw[hfin]
 unfold aI
 simp only[zS,bE ht,bM,cE,bC,bL,hi1,hi2,gH,dg,dh,dh0,ih, rr,dab,hJ (l:=t.rs) (i:=(a:Int)) (by omega) (by omega),hJ (l:=t.rs) (i:=(b:Int)) (by omega) (by omega),fA,dc,qO ha hh hh0,hhr,qP hb hs2,oZ hz,aG (n:=(t.rs.length:Int)) (i:=a) (by omega),aG (n:=(t.rs.length:Int)) (i:=b) (by omega),aU,sO ha,sO hb,FU,gI hh,sX,mK,aG (n:=(t.hs.length:Int)) (i:=h) (by omega),F4 (hs:=t.hs) (by omega),hL0',aW,lkr L0 hl0 _ _ (by omega:t.hs.length<_) (by omega:t.hs.length+1<_),←hL1,hl1,aG (n:=((t.hs.length+2:Nat):Int)) (i:=h) (by omega),gI (l:=L1) (k:=h) (by omega),g1,lkr L1 hl1 _ _ (by omega:t.hs.length+1<_) (by omega:h<_),lkr (lk L1 (t.hs.length+1) h) (by rw[aF,hl1]) _ _ (by omega:pv t h<_) (by omega:t.hs.length<_),←hL2,bS,FW,wX,hdR,oF,hls]
 rfl
theorem Im{t:Tp}{a b:Nat}{h:Nat}{g:Nat}{Hl Gl:List Nat}(k:Mk t a b (some h) (some g) Hl Gl)(hn:t.hs.length+2≤256)(hf:(rG t.rs a).c=(rG t.rs b).c):
 aP (t.V,t.F,t.hs.map tH,t.rs.map tR,(a:Int),(h:Int),(b:Int),(g:Int),())=some (wY (lz (dR ⟨t.V,t.F,pL t a b (some h) (some g) Gl,t.rs.set a { rG t.rs a with h:=(t.hs.length:Int),v:=-1 }⟩ b)) 0):=by
 have ht:=k.ht
 have hk:=ht.toHok
 have hz:=hk.toSz
 obtain⟨⟨ha,hb,hne,hR,hV1,hF1⟩,hi1,hi2,dab,dc,rr,_⟩:=GC k hn hf
 have dm:decide ((-1:Int)=-1)=true:=rfl
 have dg:decide ((0:Int)≤-1)=false:=rfl
 have hh:h<t.hs.length:=k.sa.1
 have hhr:eK t a h=true:=k.sa.2.1
 have hh0:0≤(rG t.rs a).h:=k.sa.2.2.1
 have ph:=hk.aj hh
 have dh:decide ((h:Int)=-1)=false:=aQ (by omega)
 have dh0:decide ((0:Int)≤(h:Int))=true:=aM (by omega)
 have ih:rJ (h:Int) (t.hs.length:Int)=true:=bR.2 ⟨by omega,by omega⟩
 have hg:g<t.hs.length:=k.sb.1
 have hgr:eK t b g=true:=k.sb.2.1
 have hg0:0≤(rG t.rs b).h:=k.sb.2.2.1
 have pg:=hk.aj hg
 have dg1:decide ((g:Int)=-1)=false:=aQ (by omega)
 have dg0:decide ((0:Int)≤(g:Int))=true:=aM (by omega)
 have ig:rJ (g:Int) (t.hs.length:Int)=true:=bR.2 ⟨by omega,by omega⟩
 obtain⟨L0,hL0⟩:∃L0,L0=vI t (hG t.hs h).f (hG t.hs g).f 0:=⟨_,rfl⟩
 have hl0:L0.length=t.hs.length+2:=by rw[hL0,bX]
 have hL0':t.hs++[Hf.mk (hG t.hs h).f 0 0 0,Hf.mk (hG t.hs g).f 0 0 0]=L0:=by rw[hL0];rfl
 have lkr:∀(l:List Hf),l.length=t.hs.length+2→∀x y:Nat,x<t.hs.length+2→y<t.hs.length+2→aJ (t.V,t.F,l.map tH,t.rs.map tR,(x:Int),(y:Int),())=some ((lk l x y).map tH,t.rs.map tR,()):=fun l h1 x y h2 h3=>xL (by omega) (by omega)
 have g0:hG L0 g=hG t.hs g:=by rw[hL0];unfold vI;exact fQ hg
 obtain⟨L1,hL1⟩:∃L1,L1=lk (lk L0 t.hs.length g) (pv t g) (t.hs.length+1):=⟨_,rfl⟩
 have hl1:L1.length=t.hs.length+2:=by rw[hL1,aF,aF,hl0]
 have hL1':L1=lG t L0 (some g):=hL1
 have hhg:g≠h:=fun e=>by
  have e1:=cH hhr
  have e2:=cH hgr
  rw[e] at e2;omega
 have g1:(hG L1 h).p=(pv t h:Int):=by
  rw[hL1,aY (by simp only[aF];omega) (by simp only[aF];omega),aY (by omega) (by omega)]
  simp only[aA (show ¬t.hs.length+1=h by omega),aA hhg]
  have e9:hG L0 h=hG t.hs h:=by rw[hL0];unfold vI;exact fQ hh
  rw[e9,hk.bo hh]
 obtain⟨L2,hL2⟩:∃L2,L2=lk (lk L1 (t.hs.length+1) h) (pv t h) t.hs.length:=⟨_,rfl⟩
 have hl2:L2.length=t.hs.length+2:=by rw[hL2,aF,aF,hl1]
 have hL2':L2=lH t L1 (some h):=hL2
 have hLm:L2=E6 t (eE t a (some h)) (eE t b (some g)) 0 (some h) (some g):=by rw[hL2',hL1',hL0];rfl
 obtain⟨Y,hst,hdR,hls,hfin⟩:=KC k hn
 rw[←hLm] at hst
 rw[hfin]
 unfold aP
 simp only[zS,bD ht,fP,bC,bL,hi1,hi2,dh,ih,dg1,ig, rr,dab,hJ (l:=t.rs) (i:=(a:Int)) (by omega) (by omega),hJ (l:=t.rs) (i:=(b:Int)) (by omega) (by omega),fA,dc,pH ha hh hh0,hhr,pH hb hg hg0,hgr,mM hz,aU,mK,FX (hs:=t.hs) (by omega),hL0',aW,hl0,aG (n:=((t.hs.length+2:Nat):Int)) (i:=g) (by omega),gI (l:=L0) (k:=g) (by omega),g0,hk.bo hg,lkr L0 hl0 _ _ (by omega:t.hs.length<_) (by omega:g<_),lkr (lk L0 t.hs.length g) (by rw[aF,hl0]) _ _ (by omega:pv t g<_) (by omega:t.hs.length+1<_),←hL1,hl1,aG (n:=((t.hs.length+2:Nat):Int)) (i:=h) (by omega),gI (l:=L1) (k:=h) (by omega),g1,lkr L1 hl1 _ _ (by omega:t.hs.length+1<_) (by omega:h<_),lkr (lk L1 (t.hs.length+1) h) (by rw[aF,hl1]) _ _ (by omega:pv t h<_) (by omega:t.hs.length<_),←hL2,hst,hdR,oF,hls]
 rfl
theorem TT{t:Tp}{a b:Nat}{h:Nat}{g:Nat}{Hl Gl:List Nat}(k:Mk t a b (some h) (some g) Hl Gl)(hn:t.hs.length+2≤256)(hf:(rG t.rs a).c=(rG t.rs b).c):
 aI (t.V,t.F,t.hs.map tH,t.rs.map tR,(a:Int),(h:Int),(b:Int),(g:Int),())=some (wY (lz (dR ⟨t.V,t.F,pL t a b (some h) (some g) Gl,t.rs.set a { rG t.rs a with h:=(t.hs.length:Int),v:=-1 }⟩ b)) 0):=by
 have ht:=k.ht
 have hk:=ht.toHok
 have hz:=hk.toSz
 obtain⟨⟨ha,hb,hne,hR,hV1,hF1⟩,hi1,hi2,dab,dc,_,rr⟩:=GC k hn hf
 have dm:decide ((-1:Int)=-1)=true:=rfl
 have dg:decide ((0:Int)≤-1)=false:=rfl
 have hh:h<t.hs.length:=k.sa.1
 have hhr:eK t a h=true:=k.sa.2.1
 have hh0:0≤(rG t.rs a).h:=k.sa.2.2.1
 have ph:=hk.aj hh
 have dh:decide ((h:Int)=-1)=false:=aQ (by omega)
 have dh0:decide ((0:Int)≤(h:Int))=true:=aM (by omega)
 have ih:rJ (h:Int) (t.hs.length:Int)=true:=bR.2 ⟨by omega,by omega⟩
 have hg:g<t.hs.length:=k.sb.1
 have hgr:eK t b g=true:=k.sb.2.1
 have hg0:0≤(rG t.rs b).h:=k.sb.2.2.1
 have pg:=hk.aj hg
 have dg1:decide ((g:Int)=-1)=false:=aQ (by omega)
 have dg0:decide ((0:Int)≤(g:Int))=true:=aM (by omega)
 have ig:rJ (g:Int) (t.hs.length:Int)=true:=bR.2 ⟨by omega,by omega⟩
 obtain⟨L0,hL0⟩:∃L0,L0=vI t (hG t.hs h).f (hG t.hs g).f (a:Int):=⟨_,rfl⟩
 have hl0:L0.length=t.hs.length+2:=by rw[hL0,bX]
 have hL0':t.hs++[Hf.mk (hG t.hs h).f 0 0 (a:Int),Hf.mk (hG t.hs g).f 0 0 (a:Int)]=L0:=by rw[hL0];rfl
 have lkr:∀(l:List Hf),l.length=t.hs.length+2→∀x y:Nat,x<t.hs.length+2→y<t.hs.length+2→aB ((),(x:Int),(y:Int),t.V,t.F,l.map tH,t.rs.map tR,())=some (t.V,t.F,(lk l x y).map tH,t.rs.map tR,()):=fun l h1 x y h2 h3=>xN (by omega) (by omega)
 have g0:hG L0 g=hG t.hs g:=by rw[hL0];unfold vI;exact fQ hg
 obtain⟨c,hc,hcl,hasg⟩:=Ns hk k.sb (hG t.hs h).f (hG t.hs g).f (a:Int) (a:Int)
 rw[←hL0] at hasg
 have hbc:∀y∈g::c,y<L0.length:=fun y hy=>by have:=hcl y hy;omega
 have hl0s:(ar L0 (g::c) (a:Int)).length=t.hs.length+2:=by rw[cF,hl0]
 obtain⟨L1,hL1⟩:∃L1,L1=lk (lk (ar L0 (g::c) (a:Int)) (pv t g) (t.hs.length+1)) t.hs.length g:=⟨_,rfl⟩
 have hl1:L1.length=t.hs.length+2:=by rw[hL1,aF,aF,hl0s]
 have hL1':L1=ar (lG t L0 (some g)) (g::c) (a:Int):=by
  rw[hL1,Fe (by omega) (by omega) (by omega) (by omega) (by omega) (by omega)]
  show _=ar (lk (lk L0 t.hs.length g) (pv t g) (t.hs.length+1)) (g::c) (a:Int)
  rw[B3 (fun y hy=>by rw[aF];exact hbc y hy) (by rw[aF];omega) (by rw[aF];omega),B3 hbc (by omega) (by omega)]
 have hhg:g≠h:=fun e=>by
  have e1:=cH hhr
  have e2:=cH hgr
  rw[e] at e2;omega
 have g1:(hG L1 h).p=(pv t h:Int):=by
  rw[hL1,aY (by simp only[aF];omega) (by simp only[aF];omega),aY (by omega) (by omega)]
  simp only[aA (show ¬t.hs.length+1=h by omega),aA hhg]
  have e9:hG L0 h=hG t.hs h:=by rw[hL0];unfold vI;exact fQ hh
  have e8:(hG (ar L0 (g::c) (a:Int)) h).p=(hG L0 h).p:=by
   rw[dX _ _ _ _ hbc]
   by_cases e7:h∈g::c
   ·rw[aC e7]
   ·rw[aA e7]
  rw[e8,e9,hk.bo hh]
 obtain⟨L2,hL2⟩:∃L2,L2=lk (lk L1 (t.hs.length+1) h) (pv t h) t.hs.length:=⟨_,rfl⟩
 have hl2:L2.length=t.hs.length+2:=by rw[hL2,aF,aF,hl1]
 have hL2':L2=lH t L1 (some h):=hL2
 have hLm:L2=pL t a b (some h) (some g) Gl:=by
  rw[hc,hL2',hL1',hL0]
  unfold pL E6
  have hlG:(lG t (vI t (eE t a (some h)) (eE t b (some g)) (a:Int)) (some g)).length=t.hs.length+2:=by rw[kV,bX]
  have hbc2:∀y∈g::c,y<(lG t (vI t (eE t a (some h)) (eE t b (some g)) (a:Int)) (some g)).length:=fun y hy=>by rw[hlG];have:=hcl y hy;omega
  show lk (lk (ar (lG t (vI t (eE t a (some h)) (eE t b (some g)) (a:Int)) (some g)) (g::c) (a:Int)) (t.hs.length+1) h) (pv t h) t.hs.length=ar (lk (lk (lG t (vI t (eE t a (some h)) (eE t b (some g)) (a:Int)) (some g)) (t.hs.length+1) h) (pv t h) t.hs.length) (g::c) (a:Int)
  rw[B3 (fun y hy=>by rw[aF];exact hbc2 y hy) (by rw[aF];omega) (by rw[aF];omega),B3 hbc2 (by omega) (by omega)]
 obtain⟨Y,hdR,hls,hfin⟩:=OD k hn
 rw[←hLm] at hdR
 rw[hfin]
 unfold aI
 simp only[zS,bE ht,bM,cE,bC,bL,hi1,hi2,gH,dh,dh0,ih,dg1,dg0,ig, rr,dab,hJ (l:=t.rs) (i:=(a:Int)) (by omega) (by omega),hJ (l:=t.rs) (i:=(b:Int)) (by omega) (by omega),fA,dc,qO ha hh hh0,hhr,qO hb hg hg0,hgr,oZ hz,aG (n:=(t.rs.length:Int)) (i:=a) (by omega),aG (n:=(t.rs.length:Int)) (i:=b) (by omega),aU,sO ha,sO hb,gI hh,sX,mK,aG (n:=(t.hs.length:Int)) (i:=h) (by omega),gI hg,aG (n:=(t.hs.length:Int)) (i:=g) (by omega),F4 (hs:=t.hs) (by omega),hL0',aW,hl0,aG (n:=((t.hs.length+2:Nat):Int)) (i:=g) (by omega),gI (l:=L0) (k:=g) (by omega),g0,hk.bo hg,hasg,lkr (ar L0 (g::c) (a:Int)) hl0s _ _ (by omega:pv t g<_) (by omega:t.hs.length+1<_),lkr (lk (ar L0 (g::c) (a:Int)) (pv t g) (t.hs.length+1)) (by rw[aF,hl0s]) _ _ (by omega:t.hs.length<_) (by omega:g<_),←hL1,hl1,aG (n:=((t.hs.length+2:Nat):Int)) (i:=h) (by omega),gI (l:=L1) (k:=h) (by omega),g1,lkr L1 hl1 _ _ (by omega:t.hs.length+1<_) (by omega:h<_),lkr (lk L1 (t.hs.length+1) h) (by rw[aF,hl1]) _ _ (by omega:pv t h<_) (by omega:t.hs.length<_),←hL2,bS,FW,wX,hdR,oF,hls]
 rfl
theorem KD{t:Tp}(ht:CKP t){r h:Nat}(hr:r<t.rs.length)(hh:h<t.hs.length)(cj:eK t r h=true):∃L,dw t r (some h) L:=by
 obtain⟨h0,_,_,_,ho⟩:=I4 ht hr hh cj
 obtain⟨c,hc,hcm⟩:=ho.at hh cj
 exact⟨h::c,hh,cj,h0,c,rfl,hc,hcm⟩
theorem qY{t:Tp}(ht:CKP t){r:Nat}(hr:r<t.rs.length)(h:(rG t.rs r).h=-1):dw t r none []:=⟨rfl,h,(F8 ht hr h).2.2⟩
theorem GD{t:Tp}(ht:CKP t){r:Nat}(hr:r<t.rs.length):(rG t.rs r).h=-1∨0≤(rG t.rs r).h:=by
 rcases ht.rr r hr with⟨h1,_⟩ | ⟨h1,_⟩
 ·exact .inl h1
 ·exact .inr h1
end Go.Eng.Tl
