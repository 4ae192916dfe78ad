/- The functions and the laws of this seat in plain words; each statement names its conditions. -/
import Derived.Test.YtpgikmmiapcojaaLaw
import Derived.Test.YtpgikmmiapcojaaGen3
set_option linter.unusedSimpArgs false
set_option linter.unusedVariables false
namespace Go.Eng.Tl
open Go.Eng
theorem Qs{s s':Nat→Nat}{n:Nat}{f f':Nat→Nat}{u h g:Nat}(ho:bu s n (fun k=>decide (f k=u)))(hh:h<n)(hg:g<n)(hsl:∀k,k<n→s k<n)
 (f0:∀k,k<n→f' k=f k) (fx:f' n=f h) (fy:f' (n+1)=f g)
 (s0:∀k,k<n→k≠h→k≠g→s' k=s k) (s1:h≠g→s' h=n∧s' g=n+1∧s' n=s h∧s' (n+1)=s g) (s2:h=g→s' h=n+1∧s' (n+1)=n∧s' n=s h):bu s' (n+2) (fun k=>decide (f' k=u)):=by
 have di:∀y,y<n+2↔y<n∨y=n∨y=n+1:=fun y=>by omega
 by_cases e1:f h=u
 ·-- n behind h
  let s':=s'
  obtain⟨t1,ht1⟩:∃t1:Nat→Nat,t1=fun k=>if k=h then n else if k=n then s h else s k:=⟨_,rfl⟩
  have t1h:t1 h=n:=by rw[ht1];exact aC rfl
  have t1n:t1 n=s h:=by rw[ht1];dsimp only;rw[aA (by omega),aC rfl]
  have t1o:∀k,k<n→k≠h→t1 k=s k:=fun k hk hne=>by rw[ht1];dsimp only;rw[aA hne,aA (by omega)]
  have o1:bu t1 (n+1) (fun k=>decide (f' k=u)):=by
   refine ho.ins (x:=h) (a:=n) hh (aR e1) (gB _) t1h t1n (fun y hy _ hne=>t1o y hy hne) fun y=>?_
   rw[bE,bE]
   constructor
   ·rintro ⟨h1,h2⟩
    by_cases hy:y<n
    ·exact .inl ⟨hy,by rw[←f0 y hy];exact h2⟩
    ·exact .inr (by omega)
   ·rintro (⟨h1,h2⟩ | rfl)
    ·exact⟨by omega,by rw[f0 y h1];exact h2⟩
    ·exact⟨by omega,by rw[fx];exact e1⟩
  by_cases e2:f g=u
  ·refine o1.ins (x:=g) (a:=n+1) (by omega) (by rw[bE,f0 g hg];exact e2) (gB _) ?_ ?_ (fun y hy _ hne=>?_) fun y=>?_
   ·by_cases e:h=g
    ·subst e;exact(s2 rfl).1
    ·exact(s1 e).2.1
   ·by_cases e:h=g
    ·subst e;rw[(s2 rfl).2.1,t1h]
    ·rw[(s1 e).2.2.2,t1o g hg (fun e'=>e e'.symm)]
   ·by_cases hyn:y=n
    ·subst hyn
     rw[t1n]
     by_cases e:h=g
     ·exact(s2 e).2.2
     ·exact(s1 e).2.2.1
    ·by_cases hyh:y=h
     ·subst hyh
      rw[t1h]
      exact(s1 hne).1
     ·rw[t1o y (by omega) hyh,s0 y (by omega) hyh hne]
   ·rw[bE]
    constructor
    ·rintro ⟨h1,h2⟩
     by_cases hy:y=n+1
     ·exact .inr hy
     ·exact .inl ⟨by omega,h2⟩
    ·rintro (⟨h1,h2⟩ | rfl)
     ·exact⟨by omega,h2⟩
     ·exact⟨by omega,by rw[fy];exact e2⟩
  ·have hne:h≠g:=fun e=>e2 (e▸e1)
   refine o1.ext (fun y hy hp=>?_) fun y=>?_
   ·have hp:=bI hp
    have hyg:y≠g:=fun e=>by subst e;rw[f0 y hg] at hp;exact e2 hp
    by_cases hyn:y=n
    ·subst hyn;rw[t1n];exact(s1 hne).2.2.1
    ·by_cases hyh:y=h
     ·subst hyh;rw[t1h];exact(s1 hne).1
     ·rw[t1o y (by omega) hyh];exact s0 y (by omega) hyh hyg
   ·rw[bE]
    constructor
    ·rintro ⟨h1,h2⟩
     refine⟨?_,h2⟩
     by_cases hy:y=n+1
     ·subst hy;rw[fy] at h2;exact absurd h2 e2
     ·omega
    ·rintro ⟨h1,h2⟩;exact⟨by omega,h2⟩
 ·by_cases e2:f g=u
  ·have hne:h≠g:=fun e=>e1 (e▸e2)
   obtain⟨q1,q2,q3,q4⟩:=s1 hne
   refine ho.ins (x:=g) (a:=n+1) hg (aR e2) (by omega) q2 q4 (fun y hy hp hyg=>s0 y hy (fun e=>e1 (by subst e;exact bI hp)) hyg) fun y=>?_
   rw[bE,bE]
   constructor
   ·rintro ⟨h1,h2⟩
    rcases(di y).1 h1 with hy | rfl | rfl
    ·exact .inl ⟨hy,by rw[←f0 y hy];exact h2⟩
    ·rw[fx] at h2;exact absurd h2 e1
    ·exact .inr rfl
   ·rintro (⟨h1,h2⟩ | rfl)
    ·exact⟨by omega,by rw[f0 y h1];exact h2⟩
    ·exact⟨by omega,by rw[fy];exact e2⟩
  ·refine ho.ext (fun y hy hp=>?_) fun y=>?_
   ·have hp:=bI hp
    exact s0 y hy (fun e=>e1 (e▸hp)) (fun e=>e2 (e▸hp))
   ·rw[bE,bE]
    constructor
    ·rintro ⟨h1,h2⟩
     rcases(di y).1 h1 with hy | rfl | rfl
     ·exact⟨hy,by rw[←f0 y hy];exact h2⟩
     ·rw[fx] at h2;exact absurd h2 e1
     ·rw[fy] at h2;exact absurd h2 e2
    ·rintro ⟨h1,h2⟩
     exact⟨by omega,by rw[f0 y h1];exact h2⟩
theorem Qt{N N':Nat→Nat}{n:Nat}{P:Nat→Bool}{h g p q:Nat}(ho:bu N n P)(hp:dD n P p)(hq:dD n P q)(hh:h<n)(hg:g<n)(Np:N p=h)(Nq:N q=g)(inj:h=g→p=q)(hNl:∀k,k<n→N k<n)
 (s0:∀k,k<n→k≠p→k≠q→N' k=N k) (s1:h≠g→N' p=n∧N' n=g∧N' q=n+1∧N' (n+1)=h) (s2:h=g→N' p=n∧N' n=h∧N' (n+1)=n+1):
 ∃A B:List Nat,bz N' n B∧bz N' (n+1) A∧(∀y,(dD n P y∨y=n∨y=n+1)↔y∈n::B∨y∈(n+1)::A)∧∀y,y∈n::B→y∉(n+1)::A:=by
 obtain⟨t1,ht1⟩:∃t1:Nat→Nat,t1=fun k=>if k=p then n else if k=n then h else N k:=⟨_,rfl⟩
 have t1p:t1 p=n:=by rw[ht1];exact aC rfl
 have t1n:t1 n=h:=by rw[ht1];dsimp only;rw[aA (by have:=hp.1;omega),aC rfl]
 have t1o:∀k,k<n→k≠p→t1 k=N k:=fun k hk hne=>by rw[ht1];dsimp only;rw[aA hne,aA (by omega)]
 have o1:bu t1 (n+1) (fun k=>bif decide (k=n) then true else P k):=by
  refine ho.ins (x:=p) (a:=n) hp.1 hp.2 (gB _) t1p (by rw[t1n,Np]) (fun y hy _ hne=>t1o y hy hne) fun y=>?_
  by_cases e:y=n
  ·subst e;rw[aR rfl];exact⟨fun _=>.inr rfl,fun _=>⟨by omega,rfl⟩⟩
  ·rw[aW e]
   exact⟨fun h=>.inl ⟨by have:=h.1;omega,h.2⟩,fun h=>h.elim (fun h=>⟨by omega,h.2⟩) fun h=>absurd h e⟩
 obtain⟨q',hq',hq't,hq'l⟩:∃q',(q'=if h=g then n else q)∧t1 q'=g∧q'<n+1:=by
  by_cases e:h=g
  ·exact⟨n,by rw[aC e],by rw[t1n,e],by omega⟩
  ·refine⟨q,by rw[aA e],?_,by have:=hq.1;omega⟩
   rw[t1o q hq.1 (fun e2=>e (by rw[←Np,←Nq,e2])),Nq]
 have hq'P:(bif decide (q'=n) then true else P q')=true:=by
  by_cases e:q'=n
  ·rw[aR e];rfl
  ·rw[aW e]
   have:q'=q:=by
    by_cases e2:h=g
    ·rw[aC e2] at hq';exact absurd hq' e
    ·rw[aA e2] at hq';exact hq'
   rw[this];exact hq.2
 obtain⟨t2,ht2⟩:∃t2:Nat→Nat,t2=fun k=>if k=q' then n+1 else if k=n+1 then g else t1 k:=⟨_,rfl⟩
 have t2q:t2 q'=n+1:=by rw[ht2];exact aC rfl
 have t2n:t2 (n+1)=g:=by rw[ht2];dsimp only;rw[aA (by omega),aC rfl]
 have t2o:∀k,k<n+1→k≠q'→t2 k=t1 k:=fun k hk hne=>by rw[ht2];dsimp only;rw[aA hne,aA (by omega)]
 have o2:bu t2 (n+2) (fun k=>bif decide (k=n+1) then true else bif decide (k=n) then true else P k):=by
  refine o1.ins (x:=q') (a:=n+1) hq'l hq'P (gB _) t2q (by rw[t2n,hq't]) (fun y hy _ hne=>t2o y hy hne) fun y=>?_
  by_cases e:y=n+1
  ·subst e;rw[aR rfl];exact⟨fun _=>.inr rfl,fun _=>⟨by omega,rfl⟩⟩
  ·rw[aW e]
   exact⟨fun h=>.inl ⟨by have:=h.1;omega,h.2⟩,fun h=>h.elim (fun h=>⟨by omega,h.2⟩) fun h=>absurd h e⟩
 have mn:dD (n+2) (fun k=>bif decide (k=n+1) then true else bif decide (k=n) then true else P k) n:=⟨by omega,by dsimp only;rw[aW (by omega),aR rfl];rfl⟩
 have mn1:dD (n+2) (fun k=>bif decide (k=n+1) then true else bif decide (k=n) then true else P k) (n+1):=⟨by omega,by dsimp only;rw[aR rfl];rfl⟩
 obtain⟨A,B,c1,c2,c3,c4⟩:=o2.split (g:=N') mn mn1 (by omega) (by
  rw[t2n]
  by_cases e:h=g
  ·rw[(s2 e).2.1,e]
  ·exact(s1 e).2.1) (by
  by_cases e:h=g
  ·rw[aC e] at hq'
   rw[←hq',t2q,hq',(s2 e).2.2]
  ·rw[aA e] at hq'
   rw[t2o n (by omega) (by rw[hq'];have:=hq.1;omega),t1n,(s1 e).2.2.2]) (fun y hy hy1 hy2=>by
  have hyn:y<n:=by have:=hy.1;omega
  by_cases e:h=g
  ·rw[aC e] at hq'
   rw[t2o y (by omega) (by rw[hq'];exact hy1)]
   by_cases ep:y=p
   ·subst ep;rw[t1p,(s2 e).1]
   ·rw[t1o y hyn ep]
    exact s0 y hyn ep (fun e2=>ep (by rw[e2,inj e]))
  ·rw[aA e] at hq'
   by_cases eq:y=q
   ·subst eq;rw[←hq',t2q,hq',(s1 e).2.2.1]
   ·rw[t2o y (by omega) (by rw[hq'];exact eq)]
    by_cases ep:y=p
    ·subst ep;rw[t1p,(s1 e).1]
    ·rw[t1o y hyn ep];exact s0 y hyn ep eq)
 refine⟨A,B,c1,c2,fun y=>?_,c4⟩
 rw[←c3 y]
 constructor
 ·rintro (⟨h1,h2⟩ | rfl | rfl)
  ·refine⟨by omega,?_⟩
   dsimp only
   rw[aW (by omega),aW (by omega)];exact h2
  ·exact mn
  ·exact mn1
 ·rintro ⟨h1,h2⟩
  by_cases e1:y=n+1
  ·exact .inr (.inr e1)
  ·by_cases e2:y=n
   ·exact .inr (.inl e2)
   ·dsimp only at h2
    rw[aW e1,aW e2] at h2
    exact .inl ⟨by omega,h2⟩
end Go.Eng.Tl
set_option linter.unusedSectionVars false
namespace Go.Eng.Tl
open Go.Eng
structure Ends (m:Mp) (a b:Nat) (f nx pv:Nat→Nat):Prop where
 f0:∀k,k<m.n→f k=m.f k
 fx:f m.n=m.f a
 fy:f (m.n+1)=m.f b
 n0:∀k,k<m.n→k≠m.pv a→k≠m.pv b→nx k=m.nx k
 n1:a≠b→nx (m.pv a)=m.n∧nx m.n=b∧nx (m.pv b)=m.n+1∧nx (m.n+1)=a
 n2:a=b→nx (m.pv a)=m.n∧nx m.n=a∧nx (m.n+1)=m.n+1
 p0:∀k,k<m.n→k≠a→k≠b→pv k=m.pv k
 p1:a≠b→pv a=m.n+1∧pv b=m.n∧pv m.n=m.pv a∧pv (m.n+1)=m.pv b
 p2:a=b→pv a=m.n∧pv m.n=m.pv a∧pv (m.n+1)=m.n+1
section
variable {m:Mp} {a b:Nat} {f nx pv:Nat→Nat} (h:WV m tE) (e:Ends m a b f nx pv) (he:m.n%2=0) (ha:a<m.n) (hb:b<m.n)
include h e he ha hb
theorem Ends.di{k:Nat}(hk:k<m.n+2):k<m.n∨k=m.n∨k=m.n+1:=by omega
theorem Ends.mem{k:Nat}(hk:k<m.n):dD m.n tE.L k:=⟨hk,rfl⟩
theorem Ends.lg:mt m.n=m.n+1:=by have:=kP m.n;have:=mZ m.n;omega
theorem Ends.ma:mt (m.n+1)=m.n:=by have:=kP (m.n+1);have:=mZ (m.n+1);omega
theorem Ends.pa:m.pv a<m.n∧m.nx (m.pv a)=a:=⟨(h.hp a ⟨ha,rfl⟩).1,h.np a ⟨ha,rfl⟩⟩
theorem Ends.pb:m.pv b<m.n∧m.nx (m.pv b)=b:=⟨(h.hp b ⟨hb,rfl⟩).1,h.np b ⟨hb,rfl⟩⟩
theorem Ends.dx{k:Nat}(hk:k<m.n+2):(k<m.n∧k≠m.pv a∧k≠m.pv b∧nx k=m.nx k∧m.nx k≠a∧m.nx k≠b)∨(k=m.pv a∧nx k=m.n)∨(a≠b∧k=m.pv b∧nx k=m.n+1)∨(k=m.n∧nx k=b)∨(a≠b∧k=m.n+1∧nx k=a)∨(a=b∧k=m.n+1∧nx k=m.n+1):=by
 by_cases hab:a=b
 ·obtain⟨q1,q2,q3⟩:=e.n2 hab
  rcases Ends.di h e he ha hb hk with hk | rfl | rfl
  ·by_cases e1:k=m.pv a
   ·exact .inr (.inl ⟨e1,by rw[e1];exact q1⟩)
   ·have e2:k≠m.pv b:=by rw[←hab];exact e1
    refine .inl ⟨hk,e1,e2,e.n0 k hk e1 e2,fun e3=>e1 ?_,fun e3=>e2 ?_⟩
    ·rw[←e3];exact(h.pn k ⟨hk,rfl⟩).symm
    ·rw[←e3];exact(h.pn k ⟨hk,rfl⟩).symm
  ·exact .inr (.inr (.inr (.inl ⟨rfl,by rw[q2,hab]⟩)))
  ·exact .inr (.inr (.inr (.inr (.inr ⟨hab,rfl,q3⟩))))
 ·obtain⟨q1,q2,q3,q4⟩:=e.n1 hab
  rcases Ends.di h e he ha hb hk with hk | rfl | rfl
  ·by_cases e1:k=m.pv a
   ·exact .inr (.inl ⟨e1,by rw[e1];exact q1⟩)
   ·by_cases e2:k=m.pv b
    ·exact .inr (.inr (.inl ⟨hab,e2,by rw[e2];exact q3⟩))
    ·refine .inl ⟨hk,e1,e2,e.n0 k hk e1 e2,fun e3=>e1 ?_,fun e3=>e2 ?_⟩
     ·rw[←e3];exact(h.pn k ⟨hk,rfl⟩).symm
     ·rw[←e3];exact(h.pn k ⟨hk,rfl⟩).symm
  ·exact .inr (.inr (.inr (.inl ⟨rfl,q2⟩)))
  ·exact .inr (.inr (.inr (.inr (.inl ⟨hab,rfl,q4⟩))))
theorem Ends.bf{k:Nat}(hk:k<m.n+2):nx k<m.n+2:=by
 rcases Ends.dx h e he ha hb hk with⟨q,_,_,q1,_⟩ | ⟨_,q1⟩ | ⟨_,_,q1⟩ | ⟨_,q1⟩ | ⟨_,_,q1⟩ | ⟨_,_,q1⟩
 ·have:=(h.hn k ⟨q,rfl⟩).1;omega
 all_goals omega
theorem Ends.gy{k:Nat}(hk:k<m.n+2):(k<m.n∧k≠a∧k≠b∧pv k=m.pv k)∨(k=b∧pv k=m.n)∨(a≠b∧k=a∧pv k=m.n+1)∨(k=m.n∧pv k=m.pv a)∨(a≠b∧k=m.n+1∧pv k=m.pv b)∨(a=b∧k=m.n+1∧pv k=m.n+1):=by
 by_cases hab:a=b
 ·obtain⟨q1,q2,q3⟩:=e.p2 hab
  rcases Ends.di h e he ha hb hk with hk | rfl | rfl
  ·by_cases e1:k=a
   ·exact .inr (.inl ⟨by rw[e1,hab],by rw[e1];exact q1⟩)
   ·exact .inl ⟨hk,e1,by rw[←hab];exact e1,e.p0 k hk e1 (by rw[←hab];exact e1)⟩
  ·exact .inr (.inr (.inr (.inl ⟨rfl,q2⟩)))
  ·exact .inr (.inr (.inr (.inr (.inr ⟨hab,rfl,q3⟩))))
 ·obtain⟨q1,q2,q3,q4⟩:=e.p1 hab
  rcases Ends.di h e he ha hb hk with hk | rfl | rfl
  ·by_cases e1:k=a
   ·exact .inr (.inr (.inl ⟨hab,e1,by rw[e1];exact q1⟩))
   ·by_cases e2:k=b
    ·exact .inr (.inl ⟨e2,by rw[e2];exact q2⟩)
    ·exact .inl ⟨hk,e1,e2,e.p0 k hk e1 e2⟩
  ·exact .inr (.inr (.inr (.inl ⟨rfl,q3⟩)))
  ·exact .inr (.inr (.inr (.inr (.inl ⟨hab,rfl,q4⟩))))
theorem Ends.aj{k:Nat}(hk:k<m.n+2):pv k<m.n+2:=by
 have p1:=(Ends.pa h e he ha hb).1
 have p2:=(Ends.pb h e he ha hb).1
 rcases Ends.gy h e he ha hb hk with⟨q,_,_,q1⟩ | ⟨_,q1⟩ | ⟨_,_,q1⟩ | ⟨_,q1⟩ | ⟨_,_,q1⟩ | ⟨_,_,q1⟩
 ·have:=(h.hp k ⟨q,rfl⟩).1;omega
 all_goals omega
theorem Ends.pn{k:Nat}(hk:k<m.n+2):pv (nx k)=k:=by
 rcases Ends.dx h e he ha hb hk with⟨q,_,_,q1,q2,q3⟩ | ⟨q,q1⟩ | ⟨hab,q,q1⟩ | ⟨q,q1⟩ | ⟨hab,q,q1⟩ | ⟨hab,q,q1⟩
 ·rw[q1,e.p0 _ (h.hn k ⟨q,rfl⟩).1 q2 q3];exact h.pn k ⟨q,rfl⟩
 ·rw[q1,q]
  by_cases hab:a=b
  ·exact(e.p2 hab).2.1
  ·exact(e.p1 hab).2.2.1
 ·rw[q1,q];exact(e.p1 hab).2.2.2
 ·rw[q1,q]
  by_cases hab:a=b
  ·rw[←hab];exact(e.p2 hab).1
  ·exact(e.p1 hab).2.1
 ·rw[q1,q];exact(e.p1 hab).1
 ·rw[q1,q];exact(e.p2 hab).2.2
theorem Ends.np{k:Nat}(hk:k<m.n+2):nx (pv k)=k:=by
 have p1:=Ends.pa h e he ha hb
 have p2:=Ends.pb h e he ha hb
 rcases Ends.gy h e he ha hb hk with⟨q,qa,qb,q1⟩ | ⟨q,q1⟩ | ⟨hab,q,q1⟩ | ⟨q,q1⟩ | ⟨hab,q,q1⟩ | ⟨hab,q,q1⟩
 ·have h1:=h.np k ⟨q,rfl⟩
  rw[q1,e.n0 _ (h.hp k ⟨q,rfl⟩).1 (fun e2=>qa (by rw[←h1,e2];exact p1.2)) (fun e2=>qb (by rw[←h1,e2];exact p2.2))]
  exact h1
 ·rw[q1,q]
  by_cases hab:a=b
  ·rw[(e.n2 hab).2.1,hab]
  ·exact(e.n1 hab).2.1
 ·rw[q1,q];exact(e.n1 hab).2.2.2
 ·rw[q1,q]
  by_cases hab:a=b
  ·exact(e.n2 hab).1
  ·exact(e.n1 hab).1
 ·rw[q1,q];exact(e.n1 hab).2.2.1
 ·rw[q1,q];exact(e.n2 hab).2.2
theorem Ends.ff{k:Nat}(hk:k<m.n+2):f (nx k)=f (mt k):=by
 have p1:=Ends.pa h e he ha hb
 have p2:=Ends.pb h e he ha hb
 have mlt:∀k,k<m.n→mt k<m.n:=fun k hk=>(h.ch k ⟨hk,rfl⟩).1
 rcases Ends.dx h e he ha hb hk with⟨q,_,_,q1,_⟩ | ⟨q,q1⟩ | ⟨hab,q,q1⟩ | ⟨q,q1⟩ | ⟨hab,q,q1⟩ | ⟨hab,q,q1⟩
 ·rw[q1,e.f0 _ (h.hn k ⟨q,rfl⟩).1,e.f0 _ (mlt k q)];exact h.ff k ⟨q,rfl⟩
 ·have:=h.ff _ ⟨p1.1,rfl⟩
  rw[p1.2] at this
  rw[q1,q,e.fx,e.f0 _ (mlt _ p1.1)];exact this
 ·have:=h.ff _ ⟨p2.1,rfl⟩
  rw[p2.2] at this
  rw[q1,q,e.fy,e.f0 _ (mlt _ p2.1)];exact this
 ·rw[q1,q,Ends.lg h e he ha hb,e.fy,e.f0 b hb]
 ·rw[q1,q,Ends.ma h e he ha hb,e.fx,e.f0 a ha]
 ·rw[q1,q,Ends.ma h e he ha hb,e.fx,e.fy,hab]
theorem Ends.jk{u:Nat}(ho:bu m.sg m.n (m.lf tE.L u)):bu (fun k=>mt (pv k)) (m.n+2) (fun k=>decide (f k=u)):=by
 have p1:=Ends.pa h e he ha hb
 have p2:=Ends.pb h e he ha hb
 have mn:=Ends.lg h e he ha hb
 have mn1:=Ends.ma h e he ha hb
 have ho':bu m.sg m.n (fun k=>decide (m.f k=u)):=ho.ext (fun _ _ _=>rfl) fun y=>DX
 refine Qs (s:=m.sg) (f:=m.f) (h:=a) (g:=b) ho' ha hb (fun k hk=>?_) e.f0 e.fx e.fy (fun k hk ka kb=>?_) (fun hab=>?_) (fun hab=>?_)
 ·have:=(h.hp k ⟨hk,rfl⟩).1
  exact(h.ch _ ⟨this,rfl⟩).1
 ·show mt (pv k)=mt (m.pv k)
  rw[e.p0 k hk ka kb]
 ·obtain⟨q1,q2,q3,q4⟩:=e.p1 hab
  exact⟨by rw[q1,mn1],by rw[q2,mn],by rw[q3];rfl,by rw[q4];rfl⟩
 ·obtain⟨q1,q2,q3⟩:=e.p2 hab
  exact⟨by rw[q1,mn],by rw[q3,mn1],by rw[q2];rfl⟩
theorem Ends.ring(hr:m.r a=m.r b):∃A B:List Nat,bz nx m.n B∧bz nx (m.n+1) A∧(∀y,(dD m.n (m.ki tE.L (m.r a)) y∨y=m.n∨y=m.n+1)↔y∈m.n::B∨y∈(m.n+1)::A)∧∀y,y∈m.n::B→y∉(m.n+1)::A:=by
 have p1:=Ends.pa h e he ha hb
 have p2:=Ends.pb h e he ha hb
 have bo:m.al (m.r a)=false:=by
  cases hx:m.al (m.r a) with
  | false=>rfl
  | true=>exact absurd rfl ((h.ra _ (h.hr a ⟨ha,rfl⟩) hx).2 a ⟨ha,rfl⟩)
 have ho:=h.ro _ (h.hr a ⟨ha,rfl⟩) bo
 have rp:∀k,k<m.n→m.r (m.pv k)=m.r k:=fun k hk=>by
  have h1:=h.rn _ (h.hp k ⟨hk,rfl⟩)
  rw[h.np k ⟨hk,rfl⟩] at h1
  exact h1.symm
 exact Qt (N:=m.nx) (h:=a) (g:=b) (p:=m.pv a) (q:=m.pv b) ho ⟨p1.1,aR (rp a ha)⟩ ⟨p2.1,aR ((rp b hb).trans hr.symm)⟩ ha hb p1.2 p2.2 (fun e2=>by rw[e2]) (fun k hk=>(h.hn k ⟨hk,rfl⟩).1) e.n0 e.n1 e.n2
end
theorem WV.qf{m:Mp}{a b:Nat}{f nx pv r:Nat→Nat}{al:Nat→Bool}{rv rc:Nat→Nat}(h:WV m tE)(e:Ends m a b f nx pv)(he:m.n%2=0)(ha:a<m.n)(hb:b<m.n)(hr:m.r a=m.r b)
 (hrr:∀A,bz nx (m.n+1) A→∀k,k<m.n+2→r k=if k∈(m.n+1)::A then m.R else if k=m.n then m.r a else m.r k)
 (bo:∀q,q<m.R→al q=m.al q) (halR:al m.R=false) (hrv:∀q,q<m.R→al q=true→rv q=m.rv q) (hrc:∀q,q<m.R→rc q=m.rc q) (hrcR:rc m.R=m.F):
 WV { n:=m.n+2,R:=m.R+1,V:=m.V,F:=m.F+1,f:=f,r:=r,nx:=nx,pv:=pv,al:=al,rv:=rv,rc:=rc } tE:=by
 obtain⟨A,B,cB,cA,hmem,hdis⟩:=e.ring h he ha hb hr
 have hR:=hrr A cA
 have ral:m.r a<m.R:=(h.hr a ⟨ha,rfl⟩).1
 have rlt:∀k,k<m.n→m.r k<m.R:=fun k hk=>(h.hr k ⟨hk,rfl⟩).1
 have inA:∀k,k∈(m.n+1)::A→k<m.n+2:=fun k hk=>by
  rcases(hmem k).2 (.inr hk) with h1 | h1 | h1
  ·have:=h1.1;omega
  ·omega
  ·omega
 have nA:m.n∉(m.n+1)::A:=hdis m.n (by simp)
 have rA:∀k,k∈(m.n+1)::A→r k=m.R:=fun k hk=>by rw[hR k (inA k hk),aC hk]
 have rn':∀k,k<m.n+2→k∉(m.n+1)::A→k<m.n∧r k=m.r k∨k=m.n∧r k=m.r a:=fun k hk hn=>by
  have h1:=hR k hk
  rw[aA hn] at h1
  by_cases e1:k=m.n
  ·rw[aC e1] at h1;exact .inr ⟨e1,h1⟩
  ·rw[aA e1] at h1
   refine .inl ⟨?_,h1⟩
   have:k≠m.n+1:=fun e2=>hn (by rw[e2];simp)
   omega
 have oldA:∀k,k<m.n→k∈(m.n+1)::A→m.r k=m.r a:=fun k hk hkA=>by
  rcases(hmem k).2 (.inr hkA) with h1 | h1 | h1
  ·exact bI (iC.1 h1.2).2
  ·omega
  ·omega
 have gg:∀k,k<m.n+2→k∉(m.n+1)::A→r k=m.r a→k∈m.n::B:=fun k hk hn hrk=>by
  rcases rn' k hk hn with⟨h1,h2⟩ | ⟨h1,_⟩
  ·rcases(hmem k).1 (.inl ⟨h1,by show (true&&decide (m.r k=m.r a))=true;rw[fM];exact aR (h2.symm.trans hrk)⟩) with h3 | h3
   ·exact h3
   ·exact absurd h3 hn
  ·rw[h1];simp
 have rD:∀k,k∈m.n::B→k<m.n+2∧r k=m.r a:=fun k hk=>by
  have hlt:k<m.n+2:=by
   rcases(hmem k).2 (.inl hk) with h1 | h1 | h1
   ·have:=h1.1;omega
   ·omega
   ·omega
  refine⟨hlt,?_⟩
  rcases rn' k hlt (hdis k hk) with⟨h1,h2⟩ | ⟨_,h2⟩
  ·rcases(hmem k).2 (.inl hk) with h3 | h3 | h3
   ·rw[h2];exact bI (iC.1 h3.2).2
   ·omega
   ·omega
  ·exact h2
 have same:∀k,k<m.n+2→k∉(m.n+1)::A→k∉m.n::B→k<m.n∧nx k=m.nx k∧m.r k≠m.r a:=fun k hk h1 h2=>by
  rcases rn' k hk h1 with⟨h3,h4⟩ | ⟨h3,_⟩
  ·have hne:m.r k≠m.r a:=fun e2=>h2 (gg k hk h1 (h4.trans e2))
   refine⟨h3,e.n0 k h3 (fun e2=>hne ?_) (fun e2=>hne ?_),hne⟩
   ·have:=h.rn k ⟨h3,rfl⟩
    rw[←this,e2,(e.pa h he ha hb).2]
   ·have:=h.rn k ⟨h3,rfl⟩
    rw[←this,e2,(e.pb h he ha hb).2];exact hr.symm
  ·exact absurd (by rw[h3];simp) h2
 refine { ch:=fun k hk=>⟨?_,rfl⟩,hf:=fun k hk=>⟨?_,rfl⟩,hn:=fun k hk=>⟨e.bf h he ha hb hk.1,rfl⟩,hp:=fun k hk=>⟨e.aj h he ha hb hk.1,rfl⟩,pn:=fun k hk=>e.pn h he ha hb hk.1,np:=fun k hk=>e.np h he ha hb hk.1,hr:=fun k hk=>⟨?_,rfl⟩,rn:=fun k hk=>?_,ff:=fun k hk=>e.ff h he ha hb hk.1,rc:=fun q hq=>⟨?_,rfl⟩,ra:=fun q hq hq2=>?_,ro:=fun q hq hq2=>?_,fc:=fun g hg=>?_,va:=fun u hu=>?_ }
 ·exact kQ (by show (m.n+2)%2=0;omega) hk.1
 ·show f k<m.V
  rcases Ends.di h e he ha hb hk.1 with h1 | rfl | rfl
  ·rw[e.f0 k h1];exact(h.hf k ⟨h1,rfl⟩).1
  ·rw[e.fx];exact(h.hf a ⟨ha,rfl⟩).1
  ·rw[e.fy];exact(h.hf b ⟨hb,rfl⟩).1
 ·show r k<m.R+1
  by_cases h1:k∈(m.n+1)::A
  ·rw[rA k h1];omega
  ·rcases rn' k hk.1 h1 with⟨h2,h3⟩ | ⟨_,h3⟩
   ·rw[h3];have:=rlt k h2;omega
   ·rw[h3];omega
 ·show r (nx k)=r k
  by_cases h1:k∈(m.n+1)::A
  ·rw[rA k h1,rA _ (cA.step h1)]
  ·by_cases h2:k∈m.n::B
   ·rw[(rD k h2).2,(rD _ (cB.step h2)).2]
   ·obtain⟨h3,h4,h5⟩:=same k hk.1 h1 h2
    have h6:=h.rn k ⟨h3,rfl⟩
    have h7:=(h.hn k ⟨h3,rfl⟩).1
    have h8:m.nx k∉(m.n+1)::A:=fun h9=>h5 (by rw[←h6];exact oldA _ h7 h9)
    rcases rn' k hk.1 h1 with⟨_,h10⟩ | ⟨h10,_⟩
    ·rcases rn' (m.nx k) (by omega) h8 with⟨_,h11⟩ | ⟨h11,_⟩
     ·rw[h4,h11,h10,h6]
     ·omega
    ·omega
 ·show rc q<m.F+1
  by_cases h1:q<m.R
  ·rw[hrc q h1];have:=(h.rc q ⟨h1,rfl⟩).1;omega
  ·have:q=m.R:=by have:q<m.R+1:=hq.1;omega
   rw[this,hrcR];omega
 ·have hq2:al q=true:=hq2
  have h1:q<m.R:=by
   have h2:q<m.R+1:=hq.1
   by_cases h3:q=m.R
   ·rw[h3,halR] at hq2;cases hq2
   ·omega
  have h2:m.al q=true:=by rw[←bo q h1];exact hq2
  obtain⟨h3,h4⟩:=h.ra q ⟨h1,rfl⟩ h2
  refine⟨⟨?_,rfl⟩,fun k hk=>?_⟩
  ·show rv q<m.V;rw[hrv q h1 hq2];exact h3.1
  ·show r k≠q
   by_cases h5:k∈(m.n+1)::A
   ·rw[rA k h5];omega
   ·rcases rn' k hk.1 h5 with⟨h6,h7⟩ | ⟨_,h7⟩
    ·rw[h7];exact h4 k ⟨h6,rfl⟩
    ·rw[h7];exact h4 a ⟨ha,rfl⟩
 ·have hq2:al q=false:=hq2
  have hq1:q<m.R+1:=hq.1
  show bu nx (m.n+2) (fun k=>true&&decide (r k=q))
  by_cases h1:q=m.R
  ·refine⟨m.n+1,A,cA,fun y=>?_⟩
   show _↔y<m.n+2∧(true&&decide (r y=q))=true
   rw[fM,bE,h1]
   refine⟨fun hy=>⟨inA y hy,rA y hy⟩,fun hy=>?_⟩
   by_cases h5:y∈(m.n+1)::A
   ·exact h5
   ·rcases rn' y hy.1 h5 with⟨h6,h7⟩ | ⟨_,h7⟩
    ·have:=rlt y h6;omega
    ·omega
  ·by_cases h2:q=m.r a
   ·refine⟨m.n,B,cB,fun y=>?_⟩
    show _↔y<m.n+2∧(true&&decide (r y=q))=true
    rw[fM,bE,h2]
    refine⟨fun hy=>rD y hy,fun hy=>gg y hy.1 (fun h5=>?_) hy.2⟩
    have:=rA y h5;omega
   ·have h3:q<m.R:=by omega
    refine(h.ro q ⟨h3,rfl⟩ (by rw[←bo q h3];exact hq2)).ext (fun y hy hp=>?_) fun y=>?_
    ·have hp:m.r y=q:=bI (iC.1 hp).2
     refine(same y (by omega) (fun h5=>h2 ?_) (fun h5=>h2 ?_)).2.1
     ·rw[←hp];exact oldA y hy h5
     ·rcases(hmem y).2 (.inl h5) with h6 | h6 | h6
      ·rw[←hp];exact bI (iC.1 h6.2).2
      ·omega
      ·omega
    ·show (y<m.n+2∧(true&&decide (r y=q))=true)↔y<m.n∧(true&&decide (m.r y=q))=true
     rw[fM,fM,bE,bE]
     constructor
     ·rintro ⟨h5,h6⟩
      have h7:y∉(m.n+1)::A:=fun h8=>by have:=rA y h8;omega
      rcases rn' y h5 h7 with⟨h8,h9⟩ | ⟨_,h9⟩
      ·exact⟨h8,by omega⟩
      ·omega
     ·rintro ⟨h5,h6⟩
      have h7:y∉(m.n+1)::A:=fun h8=>h2 (by rw[←h6];exact oldA y h5 h8)
      rcases rn' y (by omega) h7 with⟨_,h9⟩ | ⟨h8,_⟩
      ·exact⟨by omega,by omega⟩
      ·omega
 ·have hg1:g<m.F+1:=hg.1
  by_cases h1:g=m.F
  ·exact⟨m.R,⟨by show m.R<m.R+1;omega,rfl⟩,by show rc m.R=g;rw[hrcR,h1]⟩
  ·obtain⟨q,q1,q2⟩:=h.fc g ⟨by omega,rfl⟩
   have q3:q<m.R:=q1.1
   exact⟨q,⟨by show q<m.R+1;omega,rfl⟩,by show rc q=g;rw[hrc q q3];exact q2⟩
 ·have alR:∀q,q<m.R+1→al q=true→q<m.R∧m.al q=true∧rv q=m.rv q:=fun q h1 h2=>by
   have h3:q<m.R:=by
    by_cases h3:q=m.R
    ·rw[h3,halR] at h2;cases h2
    ·omega
   exact⟨h3,by rw[←bo q h3];exact h2,hrv q h3 h2⟩
  rcases h.va u hu with⟨⟨q,⟨q1,q2,q3⟩,q4⟩,h2⟩ | ⟨h1,h2⟩
  ·have q5:q<m.R:=q1.1
   have q6:al q=true:=by rw[bo q q5];exact q2
   refine .inl ⟨⟨q,⟨⟨by show q<m.R+1;omega,rfl⟩,q6,by show rv q=u;rw[hrv q q5 q6];exact q3⟩,fun q' p1 p2 p3=>?_⟩,fun k hk=>?_⟩
   ·obtain⟨s1,s2,s3⟩:=alR q' p1.1 p2
    exact q4 q' ⟨s1,rfl⟩ s2 (by rw[←s3];exact p3)
   ·show f k≠u
    rcases Ends.di h e he ha hb hk.1 with h3 | rfl | rfl
    ·rw[e.f0 k h3];exact h2 k ⟨h3,rfl⟩
    ·rw[e.fx];exact h2 a ⟨ha,rfl⟩
    ·rw[e.fy];exact h2 b ⟨hb,rfl⟩
  ·refine .inr ⟨fun q p1 p2 p3=>?_,(e.jk h he ha hb h2).ext (fun _ _ _=>rfl) fun y=>DX⟩
   obtain⟨s1,s2,s3⟩:=alR q p1.1 p2
   exact h1 q ⟨s1,rfl⟩ s2 (by rw[←s3];exact p3)
theorem Nd{N N':Nat→Nat}{n:Nat}{P Q R:Nat→Bool}{h g p q:Nat}(ho:bu N n P)(ho':bu N n Q)(hd:∀y,dD n P y→¬dD n Q y)(hp:dD n P p)(hq:dD n Q q)(Np:N p=h)(Nq:N q=g)
 (s0:∀k,k<n→k≠p→k≠q→N' k=N k) (s1:N' p=n∧N' n=g∧N' q=n+1∧N' (n+1)=h) (hR:∀y,dD (n+2) R y↔(dD n P y∨dD n Q y)∨y=n∨y=n+1):bu N' (n+2) R:=by
 have hpq:p≠q:=fun e=>hd p hp (e▸hq)
 obtain⟨t,ht⟩:∃t:Nat→Nat,t=fun k=>if k=p then n else if k=n then h else if k=q then n+1 else if k=n+1 then g else N k:=⟨_,rfl⟩
 have hpn:=hp.1
 have hqn:=hq.1
 have tp:t p=n:=by rw[ht];exact aC rfl
 have tn:t n=h:=by rw[ht];dsimp only;rw[aA (by omega),aC rfl]
 have tq:t q=n+1:=by rw[ht];dsimp only;rw[aA (fun e=>hpq e.symm),aA (by omega),aC rfl]
 have tn1:t (n+1)=g:=by rw[ht];dsimp only;rw[aA (by omega),aA (by omega),aA (by omega),aC rfl]
 have to:∀k,k<n→k≠p→k≠q→t k=N k:=fun k hk h1 h2=>by rw[ht];dsimp only;rw[aA h1,aA (by omega),aA h2,aA (by omega)]
 have o1:bu t (n+2) (fun k=>bif decide (k=n) then true else (decide (k<n)&&P k)):=by
  refine ho.ins (x:=p) (a:=n) hp.1 hp.2 (gB _) tp (by rw[tn,Np]) (fun y hy hP hne=>to y hy hne fun e=>hd y ⟨hy,hP⟩ (e▸hq)) fun y=>?_
  by_cases e:y=n
  ·subst e;rw[aR rfl];exact⟨fun _=>.inr rfl,fun _=>⟨by omega,rfl⟩⟩
  ·rw[aW e]
   constructor
   ·rintro ⟨_,h2⟩
    have h2:=iC.1 h2
    exact .inl ⟨bI h2.1,h2.2⟩
   ·rintro (h1 | h1)
    ·exact⟨by omega,iC.2 ⟨aR h1.1,h1.2⟩⟩
    ·exact absurd h1 e
 have o2:bu t (n+2) (fun k=>bif decide (k=n+1) then true else (decide (k<n)&&Q k)):=by
  refine ho'.ins (x:=q) (a:=n+1) hq.1 hq.2 (by omega) tq (by rw[tn1,Nq]) (fun y hy hQ hne=>to y hy (fun e=>hd y (e▸hp) ⟨hy,hQ⟩) hne) fun y=>?_
  by_cases e:y=n+1
  ·subst e;rw[aR rfl];exact⟨fun _=>.inr rfl,fun _=>⟨by omega,rfl⟩⟩
  ·rw[aW e]
   constructor
   ·rintro ⟨_,h2⟩
    have h2:=iC.1 h2
    exact .inl ⟨bI h2.1,h2.2⟩
   ·rintro (h1 | h1)
    ·exact⟨by omega,iC.2 ⟨aR h1.1,h1.2⟩⟩
    ·exact absurd h1 e
 have m1:∀y,dD (n+2) (fun k=>bif decide (k=n) then true else (decide (k<n)&&P k)) y↔dD n P y∨y=n:=fun y=>by
  by_cases e:y=n
  ·subst e
   exact⟨fun _=>.inr rfl,fun _=>⟨by omega,by dsimp only;rw[aR rfl];rfl⟩⟩
  ·unfold dD
   dsimp only
   rw[aW e,aK,cS,bE]
   exact⟨fun h=>.inl h.2,fun h=>h.elim (fun h=>⟨by omega,h⟩) fun h=>absurd h e⟩
 have m2:∀y,dD (n+2) (fun k=>bif decide (k=n+1) then true else (decide (k<n)&&Q k)) y↔dD n Q y∨y=n+1:=fun y=>by
  by_cases e:y=n+1
  ·subst e
   exact⟨fun _=>.inr rfl,fun _=>⟨by omega,by dsimp only;rw[aR rfl];rfl⟩⟩
  ·unfold dD
   dsimp only
   rw[aW e,aK,cS,bE]
   exact⟨fun h=>.inl h.2,fun h=>h.elim (fun h=>⟨by omega,h⟩) fun h=>absurd h e⟩
 refine o1.merge o2 (fun y h1 h2=>?_) ((m1 n).2 (.inr rfl)) ((m2 (n+1)).2 (.inr rfl)) (g:=N') (by rw[tn1];exact s1.2.1) (by rw[tn];exact s1.2.2.2) (fun y hy h1 h2=>?_) fun y=>?_
 ·rcases(m1 y).1 h1 with h3 | h3 <;> rcases(m2 y).1 h2 with h4 | h4
  ·exact hd y h3 h4
  ·have:=h3.1;omega
  ·have:=h4.1;omega
  ·omega
 ·by_cases e1:y=p
  ·rw[e1,tp];exact s1.1
  ·by_cases e2:y=q
   ·rw[e2,tq];exact s1.2.2.1
   ·have hyn:y<n:=by
     rcases hy with hy | hy
     ·rcases(m1 y).1 hy with h3 | h3
      ·exact h3.1
      ·exact absurd h3 h1
     ·rcases(m2 y).1 hy with h3 | h3
      ·exact h3.1
      ·exact absurd h3 h2
    rw[s0 y hyn e1 e2,to y hyn e1 e2]
 ·rw[hR y,m1 y,m2 y]
  constructor
  ·rintro ((h | h) | h | h)
   ·exact .inl (.inl h)
   ·exact .inr (.inl h)
   ·exact .inl (.inr h)
   ·exact .inr (.inr h)
  ·rintro ((h | h) | (h | h))
   ·exact .inl (.inl h)
   ·exact .inr (.inl h)
   ·exact .inl (.inr h)
   ·exact .inr (.inr h)
def Yv(x:Nat):cy:=⟨fun _=>true,fun q=>decide (q≠x),fun _=>true,fun _=>true⟩
theorem WV.mb{m:Mp}{a b:Nat}{f nx pv r:Nat→Nat}(h:WV m tE)(e:Ends m a b f nx pv)(he:m.n%2=0)(ha:a<m.n)(hb:b<m.n)(hne:m.r a≠m.r b)
 (hr:∀k,k<m.n+2→r k=if k=m.n∨k=m.n+1 then m.r a else if m.r k=m.r b then m.r a else m.r k) (hface:m.rc (m.r a)=m.rc (m.r b)):
 WV { m with n:=m.n+2,f:=f,r:=r,nx:=nx,pv:=pv } (Yv (m.r b)):=by
 have hab:a≠b:=fun e2=>hne (by rw[e2])
 have ral:m.r a<m.R:=(h.hr a ⟨ha,rfl⟩).1
 have rlt:∀k,k<m.n→m.r k<m.R:=fun k hk=>(h.hr k ⟨hk,rfl⟩).1
 have rold:∀k,k<m.n→r k=if m.r k=m.r b then m.r a else m.r k:=fun k hk=>by rw[hr k (by omega),aA (by omega)]
 have rx:r m.n=m.r a:=by rw[hr _ (by omega),aC (.inl rfl)]
 have ry:r (m.n+1)=m.r a:=by rw[hr _ (by omega),aC (.inr rfl)]
 have pa:=e.pa h he ha hb
 have pb:=e.pb h he ha hb
 have rp:∀k,k<m.n→m.r (m.pv k)=m.r k:=fun k hk=>by
  have h1:=h.rn _ (h.hp k ⟨hk,rfl⟩)
  rw[h.np k ⟨hk,rfl⟩] at h1
  exact h1.symm
 have live:∀q,m.r q=m.r b∨m.r q≠m.r b:=fun q=>UK _
 have nal:∀k,k<m.n→m.al (m.r k)=false:=fun k hk=>by
  cases hx:m.al (m.r k) with
  | false=>rfl
  | true=>exact absurd rfl ((h.ra _ (h.hr k ⟨hk,rfl⟩) hx).2 k ⟨hk,rfl⟩)
 have rne:∀k,k<m.n+2→r k<m.R∧r k≠m.r b:=fun k hk=>by
  rcases Ends.di h e he ha hb hk with h1 | rfl | rfl
  ·rw[rold k h1]
   by_cases h2:m.r k=m.r b
   ·rw[aC h2];exact⟨ral,hne⟩
   ·rw[aA h2];exact⟨rlt k h1,h2⟩
  ·rw[rx];exact⟨ral,hne⟩
  ·rw[ry];exact⟨ral,hne⟩
 have hOa:bu m.nx m.n (m.ki tE.L (m.r a)):=h.ro _ (h.hr a ⟨ha,rfl⟩) (nal a ha)
 have hOb:bu m.nx m.n (m.ki tE.L (m.r b)):=h.ro _ (h.hr b ⟨hb,rfl⟩) (nal b hb)
 have mR:∀q y,dD m.n (m.ki tE.L q) y↔y<m.n∧m.r y=q:=fun q y=>by
  show (y<m.n∧(true&&decide (m.r y=q))=true)↔_
  rw[fM,bE]
 obtain⟨n1,n2,n3,n4⟩:=e.n1 hab
 refine { ch:=fun k hk=>⟨kQ (by show (m.n+2)%2=0;omega) hk.1,rfl⟩,hf:=fun k hk=>⟨?_,rfl⟩,hn:=fun k hk=>⟨e.bf h he ha hb hk.1,rfl⟩,hp:=fun k hk=>⟨e.aj h he ha hb hk.1,rfl⟩,pn:=fun k hk=>e.pn h he ha hb hk.1,np:=fun k hk=>e.np h he ha hb hk.1,hr:=fun k hk=>⟨(rne k hk.1).1,aR (rne k hk.1).2⟩,rn:=fun k hk=>?_,ff:=fun k hk=>e.ff h he ha hb hk.1,rc:=fun q hq=>h.rc q ⟨hq.1,rfl⟩,ra:=fun q hq hq2=>?_,ro:=fun q hq hq2=>?_,fc:=fun g hg=>?_,va:=fun u hu=>?_ }
 ·show f k<m.V
  rcases Ends.di h e he ha hb hk.1 with h1 | rfl | rfl
  ·rw[e.f0 k h1];exact(h.hf k ⟨h1,rfl⟩).1
  ·rw[e.fx];exact(h.hf a ⟨ha,rfl⟩).1
  ·rw[e.fy];exact(h.hf b ⟨hb,rfl⟩).1
 ·show r (nx k)=r k
  rcases e.dx h he ha hb hk.1 with⟨q,_,_,q1,_⟩ | ⟨q,q1⟩ | ⟨_,q,q1⟩ | ⟨q,q1⟩ | ⟨_,q,q1⟩ | ⟨hab',_⟩
  ·rw[q1,rold _ (h.hn k ⟨q,rfl⟩).1,rold k q,h.rn k ⟨q,rfl⟩]
  ·rw[q1,q,rx,rold _ pa.1,rp a ha,aA hne]
  ·rw[q1,q,ry,rold _ pb.1,rp b hb,aC rfl]
  ·rw[q1,q,rx,rold b hb,aC rfl]
  ·rw[q1,q,ry,rold a ha,aA hne]
  ·exact absurd hab' hab
 ·obtain⟨h3,h4⟩:=h.ra q ⟨hq.1,rfl⟩ hq2
  refine⟨h3,fun k hk=>?_⟩
  show r k≠q
  rcases Ends.di h e he ha hb hk.1 with h1 | rfl | rfl
  ·rw[rold k h1]
   split
   ·exact h4 a ⟨ha,rfl⟩
   ·exact h4 k ⟨h1,rfl⟩
  ·rw[rx];exact h4 a ⟨ha,rfl⟩
  ·rw[ry];exact h4 a ⟨ha,rfl⟩
 ·have hqb:q≠m.r b:=bI hq.2
  show bu nx (m.n+2) (fun k=>true&&decide (r k=q))
  have mN:∀y,dD (m.n+2) (fun k=>true&&decide (r k=q)) y↔y<m.n+2∧r y=q:=fun y=>by
   show (y<m.n+2∧(true&&decide (r y=q))=true)↔_
   rw[fM,bE]
  by_cases h2:q=m.r a
  ·refine Nd hOa hOb (fun y h3 h4=>hne (((mR _ y).1 h3).2.symm.trans ((mR _ y).1 h4).2)) ((mR _ _).2 ⟨pa.1,rp a ha⟩) ((mR _ _).2 ⟨pb.1,rp b hb⟩) pa.2 pb.2 e.n0 ⟨n1,n2,n3,n4⟩ fun y=>?_
   rw[mN,mR,mR,h2]
   constructor
   ·rintro ⟨h3,h4⟩
    rcases Ends.di h e he ha hb h3 with h5 | h5 | h5
    ·rw[rold y h5] at h4
     by_cases h6:m.r y=m.r b
     ·exact .inl (.inr ⟨h5,h6⟩)
     ·rw[aA h6] at h4;exact .inl (.inl ⟨h5,h4⟩)
    ·exact .inr (.inl h5)
    ·exact .inr (.inr h5)
   ·rintro ((⟨h3,h4⟩ | ⟨h3,h4⟩) | h3 | h3)
    ·exact⟨by omega,by rw[rold y h3,aA (fun e2=>hne (h4.symm.trans e2))];exact h4⟩
    ·exact⟨by omega,by rw[rold y h3,aC h4]⟩
    ·exact⟨by omega,by rw[h3];exact rx⟩
    ·exact⟨by omega,by rw[h3];exact ry⟩
  ·refine(h.ro q ⟨hq.1,rfl⟩ hq2).ext (fun y hy hp=>?_) fun y=>?_
   ·have hp:m.r y=q:=((mR q y).1 ⟨hy,hp⟩).2
    exact e.n0 y hy (fun e2=>h2 (by rw[←hp,e2];exact rp a ha)) (fun e2=>hqb (by rw[←hp,e2];exact rp b hb))
   ·refine(mN y).trans (D6 ?_ (mR q y).symm)
    constructor
    ·rintro ⟨h3,h4⟩
     rcases Ends.di h e he ha hb h3 with h5 | h5 | h5
     ·rw[rold y h5] at h4
      by_cases h6:m.r y=m.r b
      ·rw[aC h6] at h4;exact absurd h4.symm h2
      ·rw[aA h6] at h4;exact⟨h5,h4⟩
     ·rw[h5,rx] at h4;exact absurd h4.symm h2
     ·rw[h5,ry] at h4;exact absurd h4.symm h2
    ·rintro ⟨h3,h4⟩
     exact⟨by omega,by rw[rold y h3,aA (by rw[h4];exact hqb)];exact h4⟩
 ·obtain⟨q,q1,q2⟩:=h.fc g hg
  by_cases h2:q=m.r b
  ·exact⟨m.r a,⟨ral,aR hne⟩,by rw[hface,←h2];exact q2⟩
  ·exact⟨q,⟨q1.1,aR h2⟩,q2⟩
 ·rcases h.va u hu with⟨⟨q,⟨q1,q2,q3⟩,q4⟩,h2⟩ | ⟨h1,h2⟩
  ·refine .inl ⟨⟨q,⟨⟨q1.1,aR fun e2=>?_⟩,q2,q3⟩,fun q' p1 p2 p3=>q4 q' ⟨p1.1,rfl⟩ p2 p3⟩,fun k hk=>?_⟩
   ·rw[e2,nal b hb] at q2;cases q2
   ·show f k≠u
    rcases Ends.di h e he ha hb hk.1 with h3 | rfl | rfl
    ·rw[e.f0 k h3];exact h2 k ⟨h3,rfl⟩
    ·rw[e.fx];exact h2 a ⟨ha,rfl⟩
    ·rw[e.fy];exact h2 b ⟨hb,rfl⟩
  ·exact .inr ⟨fun q p1 p2 p3=>h1 q ⟨p1.1,rfl⟩ p2 p3,(e.jk h he ha hb h2).ext (fun _ _ _=>rfl) fun y=>DX⟩
end Go.Eng.Tl
set_option linter.unusedSectionVars false
namespace Go.Eng.Tl
open Go.Eng
theorem bu.cl{f:Nat→Nat}{n:Nat}{P:Nat→Bool}(h:bu f n P){y:Nat}(hy:dD n P y):dD n P (f y):=by
 obtain⟨x,m,hm,cj⟩:=h
 exact(cj _).1 (hm.step ((cj y).2 hy))
theorem bu.pred{f:Nat→Nat}{n:Nat}{P:Nat→Bool}(h:bu f n P){x:Nat}(hx:dD n P x):∃p,dD n P p∧f p=x:=by
 obtain⟨m,hm,cj⟩:=h.at hx.1 hx.2
 cases hr:m.reverse with
 | nil=>
  have:m=[]:=by simpa using hr
  subst this
  exact⟨x,hx,hm.1⟩
 | cons u r=>
  have e:m=r.reverse++[u]:=by rw[←UF m,hr];simp
  have hu:u∈x::m:=by rw[e];simp
  refine⟨u,(cj u).1 hu,?_⟩
  have h1:=hm.1
  rw[e] at h1
  exact(hJ.1 h1).2
theorem Y1{s:Nat→Nat}{n x:Nat}{P:Nat→Bool}(ho:bu s n P)(inj:∀y z,dD n P y→dD n P z→s y=s z→y=z):
 (∀y,dD n P y→y=x)∨bu (fun k=>if s k=x then s x else s k) n (fun k=>P k&&decide (k≠x)):=by
 have mP:∀y,dD n (fun k=>P k&&decide (k≠x)) y↔dD n P y∧y≠x:=fun y=>by
  show (y<n∧(P y&&decide (y≠x))=true)↔_
  rw[cS,bE]
  exact⟨fun h=>⟨⟨h.1,h.2.1⟩,h.2.2⟩,fun h=>⟨h.1.1,h.1.2,h.2⟩⟩
 by_cases hx:dD n P x
 ·obtain⟨p,hp,hpx⟩:=ho.pred hx
  by_cases hpe:p=x
  ·left
   intro y hy
   subst hpe
   obtain⟨m,hm,cj⟩:=ho.at hx.1 hx.2
   cases m with
   | nil=>simpa using(cj y).2 hy
   | cons z m=>
    have h1:s p=z:=hm.1.1
    have:p=z:=hpx.symm.trans h1
    exact absurd (by rw[this];simp) (dC.1 hm.2).1
  ·right
   refine ho.del hp hpx hpe (by show (if s p=x then s x else s p)=s x;rw[aC hpx]) (fun y hy h1 h2=>?_) mP
   show (if s y=x then s x else s y)=s y
   rw[aA fun e=>h1 (inj y p hy hp (e.trans hpx.symm))]
 ·right
  refine ho.ext (fun y hy hP=>?_) fun y=>?_
  ·show (if s y=x then s x else s y)=s y
   exact aA fun(e:s y=x)=>hx (e▸ho.cl ⟨hy,hP⟩)
  ·exact(mP y).trans ⟨fun h=>h.1,fun h=>⟨h,fun(e:y=x)=>hx (e▸h)⟩⟩
def skip(N:Nat→Nat)(a b k:Nat):Nat:=
 let t1:=if N k=a then N b else N k
 if t1=b then (if N a=a then N b else N a) else t1
theorem RA{s:Nat→Nat}{n a b:Nat}{P:Nat→Bool}(ho:bu s n P)(inj:∀y z,dD n P y→dD n P z→s y=s z→y=z)(hab:a≠b):
 (∀y,dD n P y→y=a∨y=b)∨bu (fun k=>let t1:=if s k=a then s a else s k;if t1=b then (if s b=a then s a else s b) else t1) n (fun k=>(P k&&decide (k≠a))&&decide (k≠b)):=by
 rcases Y1 (x:=a) ho inj with h1 | h1
 ·exact .inl fun y hy=>.inl (h1 y hy)
 ·have mP:∀y,dD n (fun k=>P k&&decide (k≠a)) y↔dD n P y∧y≠a:=fun y=>by
   show (y<n∧(P y&&decide (y≠a))=true)↔_
   rw[cS,bE]
   exact⟨fun h=>⟨⟨h.1,h.2.1⟩,h.2.2⟩,fun h=>⟨h.1.1,h.1.2,h.2⟩⟩
  have inj1:∀y z,dD n (fun k=>P k&&decide (k≠a)) y→dD n (fun k=>P k&&decide (k≠a)) z→(if s y=a then s a else s y)=(if s z=a then s a else s z)→y=z:=fun y z hy hz e=>by
   obtain⟨hy1,hy2⟩:=(mP y).1 hy
   obtain⟨hz1,hz2⟩:=(mP z).1 hz
   by_cases e1:s y=a <;> by_cases e2:s z=a
   ·exact inj y z hy1 hz1 (e1.trans e2.symm)
   ·rw[aC e1,aA e2] at e
    have ha:dD n P a:=e1▸ho.cl hy1
    exact absurd (inj a z ha hz1 e).symm hz2
   ·rw[aA e1,aC e2] at e
    have ha:dD n P a:=e2▸ho.cl hz1
    exact absurd (inj y a hy1 ha e) hy2
   ·rw[aA e1,aA e2] at e
    exact inj y z hy1 hz1 e
  rcases Y1 (x:=b) h1 inj1 with h2 | h2
  ·refine .inl fun y hy=>?_
   by_cases e:y=a
   ·exact .inl e
   ·exact .inr (h2 y ((mP y).2 ⟨hy,e⟩))
  ·exact .inr h2
section
variable {N P:Nat→Nat} {n a b:Nat} (hN:∀k,k<n→N k<n) (PN:∀k,k<n→P (N k)=k) (ha:a<n) (hb:b<n) (hab:a≠b) (bo:¬(N a=a∧N b=b))
include hN PN ha hb hab bo
theorem sH{k:Nat}(hk:k<n)(ka:k≠a)(kb:k≠b):
 (N k=a∧N b=b∧N a≠a∧skip N a b k=N a)∨(N k=a∧N b≠b∧skip N a b k=N b)∨(N k=b∧N a=a∧N b≠b∧skip N a b k=N b)∨(N k=b∧N a≠a∧skip N a b k=N a)∨(N k≠a∧N k≠b∧skip N a b k=N k):=by
 have inj:∀y z,y<n→z<n→N y=N z→y=z:=fun y z hy hz e=>by rw[←PN y hy,e,PN z hz]
 unfold skip
 by_cases e1:N k=a
 ·by_cases e2:N b=b
  ·have e3:N a≠a:=fun e3=>bo ⟨e3,e2⟩
   exact .inl ⟨e1,e2,e3,by simp only[aC e1,aC e2,aA e3]⟩
  ·exact .inr (.inl ⟨e1,e2,by simp only[aC e1,aA e2]⟩)
 ·by_cases e2:N k=b
  ·by_cases e3:N a=a
   ·have e4:N b≠b:=fun e4=>bo ⟨e3,e4⟩
    exact .inr (.inr (.inl ⟨e2,e3,e4,by simp only[aA e1,aC e2,aC e3]⟩))
   ·exact .inr (.inr (.inr (.inl ⟨e2,e3,by simp only[aA e1,aC e2,aA e3]⟩)))
  ·exact .inr (.inr (.inr (.inr ⟨e1,e2,by simp only[aA e1,aA e2]⟩)))
theorem TU{k:Nat}(hk:k<n)(ka:k≠a)(kb:k≠b):skip N a b k<n∧skip N a b k≠a∧skip N a b k≠b:=by
 have inj:∀y z,y<n→z<n→N y=N z→y=z:=fun y z hy hz e=>by rw[←PN y hy,e,PN z hz]
 rcases sH hN PN ha hb hab bo hk ka kb with⟨e1,e2,e3,e4⟩ | ⟨e1,e2,e4⟩ | ⟨e1,e2,e3,e4⟩ | ⟨e1,e2,e4⟩ | ⟨e1,e2,e4⟩
 ·rw[e4];exact⟨hN a ha,e3,fun e=>hab (inj a b ha hb (e.trans e2.symm))⟩
 ·rw[e4];exact⟨hN b hb,fun e=>kb (inj k b hk hb (e1.trans e.symm)),e2⟩
 ·rw[e4];exact⟨hN b hb,fun e=>hab (inj a b ha hb (e2.trans e.symm)),e3⟩
 ·rw[e4];exact⟨hN a ha,e2,fun e=>ka (inj k a hk ha (e1.trans e.symm))⟩
 ·rw[e4];exact⟨hN k hk,e1,e2⟩
theorem Y2{k:Nat}(hk:k<n)(ka:k≠a)(kb:k≠b):skip P a b (skip N a b k)=k:=by
 rcases sH hN PN ha hb hab bo hk ka kb with⟨e1,e2,e3,e4⟩ | ⟨e1,e2,e4⟩ | ⟨e1,e2,e3,e4⟩ | ⟨e1,e2,e4⟩ | ⟨e1,e2,e4⟩
 all_goals rw[e4];unfold skip
 ·have q1:P (N a)=a:=PN a ha
  have q2:P b=b:=by have:=PN b hb;rwa[e2] at this
  have q3:P a=k:=by rw[←e1];exact PN k hk
  simp only[q1,q2,q3,eY,aA ka]
 ·have q1:P (N b)=b:=PN b hb
  have q3:P a=k:=by rw[←e1];exact PN k hk
  simp only[q1,q3,aA (OS hab),eY,aA ka]
 ·have q1:P (N b)=b:=PN b hb
  have q2:P a=a:=by have:=PN a ha;rwa[e2] at this
  have q3:P b=k:=by rw[←e1];exact PN k hk
  simp only[q1,q2,q3,aA (OS hab),eY]
 ·have q1:P (N a)=a:=PN a ha
  have q3:P b=k:=by rw[←e1];exact PN k hk
  simp only[q1,q3,eY,aA kb]
 ·have q1:P (N k)=k:=PN k hk
  simp only[q1,aA ka,aA kb]
end
end Go.Eng.Tl
set_option linter.unusedSectionVars false
namespace Go.Eng.Tl
open Go.Eng
structure bd (m:Mp) (a:Nat) (nx pv:Nat→Nat):Prop where
 n:∀k,k<m.n→k≠a→k≠mt a→nx k=skip m.nx a (mt a) k
 p:∀k,k<m.n→k≠a→k≠mt a→pv k=skip m.pv a (mt a) k
def B1(a:Nat):Nat→Bool:=fun k=>decide (k≠a)&&decide (k≠mt a)
theorem fY{n a k:Nat}:dD n (B1 a) k↔k<n∧k≠a∧k≠mt a:=by
 unfold dD B1
 rw[cS,bE,bE]
section
variable {m:Mp} {a:Nat} {nx pv:Nat→Nat} (h:WV m tE) (g:bd m a nx pv) (ha:a<m.n) (bo:¬(m.nx a=a∧m.nx (mt a)=mt a))
include h g ha bo
theorem bd.b:mt a<m.n:=(h.ch a ⟨ha,rfl⟩).1
theorem bd.N{k:Nat}(hk:k<m.n):m.nx k<m.n:=(h.hn k ⟨hk,rfl⟩).1
theorem bd.P{k:Nat}(hk:k<m.n):m.pv k<m.n:=(h.hp k ⟨hk,rfl⟩).1
theorem bd.PN{k:Nat}(hk:k<m.n):m.pv (m.nx k)=k:=h.pn k ⟨hk,rfl⟩
theorem bd.NP{k:Nat}(hk:k<m.n):m.nx (m.pv k)=k:=h.np k ⟨hk,rfl⟩
theorem bd.ft:¬(m.pv a=a∧m.pv (mt a)=mt a):=fun⟨h1,h2⟩=>bo ⟨by have:=bd.NP h g ha bo ha;rwa[h1] at this,by have:=bd.NP h g ha bo (bd.b h g ha bo);rwa[h2] at this⟩
theorem bd.ch{k:Nat}(hk:dD m.n (B1 a) k):dD m.n (B1 a) (mt k):=by
 obtain⟨h1,h2,h3⟩:=fY.1 hk
 exact fY.2 ⟨(h.ch k ⟨h1,rfl⟩).1,fun e=>h3 (by rw[←e,oZ]),fun e=>h2 (QQ e)⟩
theorem bd.hn{k:Nat}(hk:dD m.n (B1 a) k):dD m.n (B1 a) (nx k):=by
 obtain⟨h1,h2,h3⟩:=fY.1 hk
 rw[g.n k h1 h2 h3]
 exact fY.2 (TU (fun k hk=>bd.N h g ha bo hk) (fun k hk=>bd.PN h g ha bo hk) ha (bd.b h g ha bo) (rL a).symm bo h1 h2 h3)
theorem bd.hp{k:Nat}(hk:dD m.n (B1 a) k):dD m.n (B1 a) (pv k):=by
 obtain⟨h1,h2,h3⟩:=fY.1 hk
 rw[g.p k h1 h2 h3]
 exact fY.2 (TU (fun k hk=>bd.P h g ha bo hk) (fun k hk=>bd.NP h g ha bo hk) ha (bd.b h g ha bo) (rL a).symm (bd.ft h g ha bo) h1 h2 h3)
theorem bd.pn{k:Nat}(hk:dD m.n (B1 a) k):pv (nx k)=k:=by
 obtain⟨q1,q2,q3⟩:=fY.1 (bd.hn h g ha bo hk)
 obtain⟨h1,h2,h3⟩:=fY.1 hk
 rw[g.p _ q1 q2 q3,g.n k h1 h2 h3]
 exact Y2 (fun k hk=>bd.N h g ha bo hk) (fun k hk=>bd.PN h g ha bo hk) ha (bd.b h g ha bo) (rL a).symm bo h1 h2 h3
theorem bd.np{k:Nat}(hk:dD m.n (B1 a) k):nx (pv k)=k:=by
 obtain⟨q1,q2,q3⟩:=fY.1 (bd.hp h g ha bo hk)
 obtain⟨h1,h2,h3⟩:=fY.1 hk
 rw[g.n _ q1 q2 q3,g.p k h1 h2 h3]
 exact Y2 (fun k hk=>bd.P h g ha bo hk) (fun k hk=>bd.NP h g ha bo hk) ha (bd.b h g ha bo) (rL a).symm (bd.ft h g ha bo) h1 h2 h3
theorem bd.ff{k:Nat}(hk:dD m.n (B1 a) k):m.f (nx k)=m.f (mt k):=by
 obtain⟨h1,h2,h3⟩:=fY.1 hk
 have fa:m.f (m.nx a)=m.f (mt a):=h.ff a ⟨ha,rfl⟩
 have fb:m.f (m.nx (mt a))=m.f a:=by have:=h.ff (mt a) ⟨bd.b h g ha bo,rfl⟩;rwa[oZ] at this
 have fk:m.f (m.nx k)=m.f (mt k):=h.ff k ⟨h1,rfl⟩
 rw[g.n k h1 h2 h3]
 rcases sH (fun k hk=>bd.N h g ha bo hk) (fun k hk=>bd.PN h g ha bo hk) ha (bd.b h g ha bo) (rL a).symm bo h1 h2 h3 with⟨e1,e2,e3,e4⟩ | ⟨e1,e2,e4⟩ | ⟨e1,e2,e3,e4⟩ | ⟨e1,e2,e4⟩ | ⟨e1,e2,e4⟩
 ·rw[e4,fa,←fk,e1];rw[e2] at fb;exact fb
 ·rw[e4,fb,←fk,e1]
 ·rw[e4,fb,←fk,e1];rw[e2] at fa;exact fa
 ·rw[e4,fa,←fk,e1]
 ·rw[e4,fk]
theorem bd.jk{u:Nat}(ho:bu m.sg m.n (m.lf tE.L u)):(∀k,dD m.n (B1 a) k→m.f k≠u)∨bu (fun k=>mt (pv k)) m.n (fun k=>B1 a k&&decide (m.f k=u)):=by
 have hb:=bd.b h g ha bo
 have mV:∀y,dD m.n (m.lf tE.L u) y↔y<m.n∧m.f y=u:=fun y=>by
  show (y<m.n∧(true&&decide (m.f y=u))=true)↔_
  rw[fM,bE]
 have sinj:∀y z,y<m.n→z<m.n→m.sg y=m.sg z→y=z:=fun y z hy hz e=>by
  have:=QQ e
  rw[←bd.NP h g ha bo hy,this,bd.NP h g ha bo hz]
 rcases RA (a:=a) (b:=mt a) ho (fun y z hy hz e=>sinj y z hy.1 hz.1 e) (rL a).symm with h1 | h1
 ·refine .inl fun k hk e=>?_
  obtain⟨k1,k2,k3⟩:=fY.1 hk
  rcases h1 k ((mV k).2 ⟨k1,e⟩) with h2 | h2
  ·exact k2 h2
  ·exact k3 h2
 ·refine .inr (h1.ext (fun y hy hp=>?_) fun y=>?_)
  ·have hp:=iC.1 hp
   have hp1:=iC.1 hp.1
   have ya:y≠a:=bI hp1.2
   have yb:y≠mt a:=bI hp.2
   show mt (pv y)=_
   rw[g.p y hy ya yb]
   have sA:∀k,m.sg k=a↔m.pv k=mt a:=fun k=>⟨fun e=>by rw[←e];exact(oZ _).symm,fun e=>by show mt (m.pv k)=a;rw[e,oZ]⟩
   have sB:∀k,m.sg k=mt a↔m.pv k=a:=fun k=>⟨fun e=>QQ e,fun e=>by show mt (m.pv k)=mt a;rw[e]⟩
   have hne:mt a≠a:=rL a
   dsimp only
   rcases sH (fun k hk=>bd.P h g ha bo hk) (fun k hk=>bd.NP h g ha bo hk) ha hb hne.symm (bd.ft h g ha bo) hy ya yb with⟨e1,e2,e3,e4⟩ | ⟨e1,e2,e4⟩ | ⟨e1,e2,e3,e4⟩ | ⟨e1,e2,e4⟩ | ⟨e1,e2,e4⟩
   ·-- pv y=a,pv b=b
    have q1:m.sg y=mt a:=(sB y).2 e1
    have q2:m.sg (mt a)=a:=(sA _).2 e2
    rw[e4]
    simp only[q1,aA hne,eY,q2]
    rfl
   ·have q1:m.sg y=mt a:=(sB y).2 e1
    have q2:m.sg (mt a)≠a:=fun e=>e2 ((sA _).1 e)
    rw[e4]
    simp only[q1,aA hne,eY,aA q2]
    rfl
   ·have q1:m.sg y=a:=(sA y).2 e1
    have q2:m.sg a=mt a:=(sB _).2 e2
    have q3:m.sg (mt a)≠a:=fun e=>e3 ((sA _).1 e)
    rw[e4]
    simp only[q1,eY,q2,aA q3]
    rfl
   ·have q1:m.sg y=a:=(sA y).2 e1
    have q2:m.sg a≠mt a:=fun e=>e2 ((sB _).1 e)
    rw[e4]
    simp only[q1,eY,aA q2]
    rfl
   ·have q1:m.sg y≠a:=fun e=>e2 ((sA _).1 e)
    have q2:m.sg y≠mt a:=fun e=>e1 ((sB _).1 e)
    rw[e4]
    simp only[aA q1,aA q2]
    rfl
  ·show (y<m.n∧(B1 a y&&decide (m.f y=u))=true)↔(y<m.n∧(((true&&decide (m.f y=u))&&decide (y≠a))&&decide (y≠mt a))=true)
   unfold B1
   simp only[cS,bE,fM]
   exact⟨fun⟨a1,⟨a2,a3⟩,a4⟩=>⟨a1,⟨a4,a2⟩,a3⟩,fun⟨a1,⟨a4,a2⟩,a3⟩=>⟨a1,⟨a2,a3⟩,a4⟩⟩
end
end Go.Eng.Tl
set_option linter.unusedSectionVars false
namespace Go.Eng.Tl
open Go.Eng
theorem WD{s:Nat→Nat}{n:Nat}{P:Nat→Bool}(ho:bu s n P){x:Nat}(hx:dD n P x)(e:s x=x):∀y,dD n P y→y=x:=fun y hy=>by
 obtain⟨m,hm,cj⟩:=ho.at hx.1 hx.2
 cases m with
 | nil=>simpa using(cj y).2 hy
 | cons z m=>
  have h1:s x=z:=hm.1.1
  have:x=z:=e.symm.trans h1
  exact absurd (by rw[this];simp) (dC.1 hm.2).1
theorem WE{s:Nat→Nat}{n:Nat}{P:Nat→Bool}(ho:bu s n P){x z:Nat}(hx:dD n P x)(e:s x=z)(e':s z=x):∀y,dD n P y→y=x∨y=z:=fun y hy=>by
 obtain⟨m,hm,cj⟩:=ho.at hx.1 hx.2
 cases m with
 | nil=>exact .inl (by simpa using(cj y).2 hy)
 | cons w m=>
  have h1:s x=w:=hm.1.1
  have hw:w=z:=h1.symm.trans e
  subst hw
  cases m with
  | nil=>simpa using(cj y).2 hy
  | cons v m=>
   have h2:s w=v:=hm.1.2.1
   have:v=x:=h2.symm.trans e'
   exact absurd (by rw[this];simp) (dC.1 hm.2).1
def Xy(a u:Nat):cy:=⟨B1 a,fun _=>true,fun v=>decide (v≠u),fun _=>true⟩
theorem WV.ot{m:Mp}{a:Nat}{nx pv:Nat→Nat}{al:Nat→Bool}{rv:Nat→Nat}(h:WV m tE)(g:bd m a nx pv)(ha:a<m.n)(hnx:m.nx a=mt a)
 (bo:∀q,q<m.R→al q=if m.nx (mt a)=a∧q=m.r a then true else m.al q) (hrv:∀q,q<m.R→al q=true→rv q=if m.nx (mt a)=a∧q=m.r a then m.f a else m.rv q):
 WV { m with nx:=nx,pv:=pv,al:=al,rv:=rv } (Xy a (m.f (mt a))):=by
 have hne:mt a≠a:=rL a
 have hl:¬(m.nx a=a∧m.nx (mt a)=mt a):=fun⟨h1,_⟩=>hne (hnx.symm.trans h1)
 have hb:=bd.b h g ha hl
 have rb:m.r (mt a)=m.r a:=by rw[←hnx];exact h.rn a ⟨ha,rfl⟩
 have ral:m.r a<m.R:=(h.hr a ⟨ha,rfl⟩).1
 have mV:∀u y,dD m.n (m.lf tE.L u) y↔y<m.n∧m.f y=u:=fun u y=>by
  show (y<m.n∧(true&&decide (m.f y=u))=true)↔_
  rw[fM,bE]
 have mR:∀q y,dD m.n (m.ki tE.L q) y↔y<m.n∧m.r y=q:=fun q y=>by
  show (y<m.n∧(true&&decide (m.r y=q))=true)↔_
  rw[fM,bE]
 have nal:∀k,k<m.n→m.al (m.r k)=false:=fun k hk=>by
  cases hx:m.al (m.r k) with
  | false=>rfl
  | true=>exact absurd rfl ((h.ra _ (h.hr k ⟨hk,rfl⟩) hx).2 k ⟨hk,rfl⟩)
 have vorb:∀k,k<m.n→(∀q,dD m.R tE.R q→m.al q=true→m.rv q≠m.f k)∧bu m.sg m.n (m.lf tE.L (m.f k)):=fun k hk=>by
  rcases h.va (m.f k) (h.hf k ⟨hk,rfl⟩) with⟨_,h2⟩ | h2
  ·exact absurd rfl (h2 k ⟨hk,rfl⟩)
  ·exact h2
 have onlyB:∀y,y<m.n→m.f y=m.f (mt a)→y=mt a:=fun y hy e=>by
  refine WD (vorb _ hb).2 ((mV _ _).2 ⟨hb,rfl⟩) ?_ y ((mV _ _).2 ⟨hy,e⟩)
  show mt (m.pv (mt a))=mt a
  have e2:=bd.PN h g ha hl ha
  rw[hnx] at e2
  rw[e2]
 have onlyA:m.nx (mt a)=a→∀y,y<m.n→m.f y=m.f a→y=a:=fun e0 y hy e=>by
  refine WD (vorb _ ha).2 ((mV _ _).2 ⟨ha,rfl⟩) ?_ y ((mV _ _).2 ⟨hy,e⟩)
  show mt (m.pv a)=a
  have:=bd.PN h g ha hl hb
  rw[e0] at this
  rw[this,oZ]
 have fab:m.f a≠m.f (mt a):=fun e=>hne (onlyB a ha e).symm
 have hOa:bu m.nx m.n (m.ki tE.L (m.r a)):=h.ro _ (h.hr a ⟨ha,rfl⟩) (nal a ha)
 have onlyAB:m.nx (mt a)=a→∀y,y<m.n→m.r y=m.r a→y=a∨y=mt a:=fun e0 y hy e=>
  WE hOa ((mR _ _).2 ⟨ha,rfl⟩) hnx e0 y ((mR _ _).2 ⟨hy,e⟩)
 have sk:∀k,k<m.n→k≠a→k≠mt a→(m.nx k=a∧nx k=m.nx (mt a))∨(m.nx k≠a∧m.nx k≠mt a∧nx k=m.nx k):=fun k hk ka kb=>by
  rw[g.n k hk ka kb]
  rcases sH (fun k hk=>bd.N h g ha hl hk) (fun k hk=>bd.PN h g ha hl hk) ha hb hne.symm hl hk ka kb with⟨e1,e2,e3,e4⟩ | ⟨e1,e2,e4⟩ | ⟨e1,e2,e3,e4⟩ | ⟨e1,e2,e4⟩ | ⟨e1,e2,e4⟩
  ·have:=bd.PN h g ha hl hb
   rw[e2] at this
   have q:=bd.PN h g ha hl ha
   rw[hnx,this] at q
   exact absurd q hne
  ·exact .inl ⟨e1,e4⟩
  ·exact absurd (e2.symm.trans hnx).symm hne
  ·have q:=bd.PN h g ha hl hk
   rw[e1,←hnx,bd.PN h g ha hl ha] at q
   exact absurd q.symm ka
  ·exact .inr ⟨e1,e2,e4⟩
 refine { ch:=fun k hk=>g.ch h ha hl hk,hf:=fun k hk=>?_,hn:=fun k hk=>g.hn h ha hl hk,hp:=fun k hk=>g.hp h ha hl hk,pn:=fun k hk=>g.pn h ha hl hk,np:=fun k hk=>g.np h ha hl hk,hr:=fun k hk=>⟨(h.hr k ⟨hk.1,rfl⟩).1,rfl⟩,rn:=fun k hk=>?_,ff:=fun k hk=>g.ff h ha hl hk,rc:=h.rc,ra:=fun q hq hq2=>?_,ro:=fun q hq hq2=>?_,fc:=h.fc,va:=fun u hu=>?_ }
 ·obtain⟨h1,h2,h3⟩:=fY.1 hk
  exact⟨(h.hf k ⟨h1,rfl⟩).1,aR fun e=>h3 (onlyB k h1 e)⟩
 ·obtain⟨h1,h2,h3⟩:=fY.1 hk
  show m.r (nx k)=m.r k
  rcases sk k h1 h2 h3 with⟨e1,e2⟩ | ⟨_,_,e2⟩
  ·have q:=h.rn k ⟨h1,rfl⟩
   have q2:=h.rn (mt a) ⟨hb,rfl⟩
   rw[e2,q2,rb,←q,e1]
  ·rw[e2];exact h.rn k ⟨h1,rfl⟩
 ·have hq1:q<m.R:=hq.1
  have hq2:al q=true:=hq2
  have h3:=hrv q hq1 hq2
  by_cases hc:m.nx (mt a)=a∧q=m.r a
  ·rw[aC hc] at h3
   refine⟨⟨?_,aR ?_⟩,fun k hk e=>?_⟩
   ·show rv q<m.V;rw[h3];exact(h.hf a ⟨ha,rfl⟩).1
   ·show rv q≠_;rw[h3];exact fab
   ·obtain⟨k1,k2,k3⟩:=fY.1 hk
    rcases onlyAB hc.1 k k1 (e.trans hc.2) with h4 | h4
    ·exact k2 h4
    ·exact k3 h4
  ·rw[aA hc] at h3
   have h4:m.al q=true:=by have:=bo q hq1;rw[aA hc] at this;rw[←this];exact hq2
   obtain⟨h5,h6⟩:=h.ra q ⟨hq1,rfl⟩ h4
   refine⟨⟨?_,aR ?_⟩,fun k hk=>h6 k ⟨hk.1,rfl⟩⟩
   ·show rv q<m.V;rw[h3];exact h5.1
   ·show rv q≠_;rw[h3];exact(vorb _ hb).1 q ⟨hq1,rfl⟩ h4
 ·have hq1:q<m.R:=hq.1
  have hq2:al q=false:=hq2
  have hc:¬(m.nx (mt a)=a∧q=m.r a):=fun hc=>by have:=bo q hq1;rw[aC hc,hq2] at this;cases this
  have h4:m.al q=false:=by have:=bo q hq1;rw[aA hc] at this;rw[←this];exact hq2
  have mL:∀y,dD m.n (fun k=>B1 a k&&decide (m.r k=q)) y↔dD m.n (B1 a) y∧m.r y=q:=fun y=>by
   unfold dD
   rw[cS,bE]
   exact⟨fun⟨a1,a2,a3⟩=>⟨⟨a1,a2⟩,a3⟩,fun⟨⟨a1,a2⟩,a3⟩=>⟨a1,a2,a3⟩⟩
  show bu nx m.n (fun k=>B1 a k&&decide (m.r k=q))
  by_cases h5:q=m.r a
  ·have h6:m.nx (mt a)≠a:=fun e=>hc ⟨e,h5⟩
   have inj:∀y z,dD m.n (m.ki tE.L (m.r a)) y→dD m.n (m.ki tE.L (m.r a)) z→m.nx y=m.nx z→y=z:=fun y z hy hz e=>by rw[←bd.PN h g ha hl hy.1,e,bd.PN h g ha hl hz.1]
   rcases RA (a:=a) (b:=mt a) hOa inj hne.symm with h7 | h7
   ·have h8:m.r (m.nx (mt a))=m.r a:=by rw[h.rn (mt a) ⟨hb,rfl⟩];exact rb
    rcases h7 (m.nx (mt a)) ((mR _ _).2 ⟨bd.N h g ha hl hb,h8⟩) with h9 | h9
    ·exact absurd h9 h6
    ·have q1:=bd.PN h g ha hl hb
     have q2:=bd.PN h g ha hl ha
     rw[h9] at q1
     rw[hnx,q1] at q2
     exact absurd q2 hne
   ·refine h7.ext (fun y hy hp=>?_) fun y=>?_
    ·have hp:=iC.1 hp
     have ya:y≠a:=bI (iC.1 hp.1).2
     have yb:y≠mt a:=bI hp.2
     dsimp only
     rcases sk y hy ya yb with⟨e1,e2⟩ | ⟨e1,e2,e3⟩
     ·rw[e2]
      simp only[e1,eY,hnx,aA h6]
     ·rw[e3]
      simp only[aA e1,aA e2]
    ·show (y<m.n∧(B1 a y&&decide (m.r y=q))=true)↔(y<m.n∧(((true&&decide (m.r y=m.r a))&&decide (y≠a))&&decide (y≠mt a))=true)
     rw[h5]
     unfold B1
     simp only[cS,bE,fM]
     exact⟨fun⟨a1,⟨a2,a3⟩,a4⟩=>⟨a1,⟨a4,a2⟩,a3⟩,fun⟨a1,⟨a4,a2⟩,a3⟩=>⟨a1,⟨a2,a3⟩,a4⟩⟩
  ·refine(h.ro q ⟨hq1,rfl⟩ h4).ext (fun y hy hp=>?_) fun y=>?_
   ·have hp:=((mR q y).1 ⟨hy,hp⟩).2
    have ya:y≠a:=fun e=>h5 (by rw[←hp,e])
    have yb:y≠mt a:=fun e=>h5 (by rw[←hp,e];exact rb)
    rcases sk y hy ya yb with⟨e1,_⟩ | ⟨_,_,e3⟩
    ·exact absurd (by rw[←hp,←h.rn y ⟨hy,rfl⟩,e1]) h5
    ·exact e3
   ·refine(mL y).trans (D6 ?_ (mR q y).symm)
    rw[fY]
    exact⟨fun⟨⟨a1,_⟩,a2⟩=>⟨a1,a2⟩,fun⟨a1,a2⟩=>⟨⟨a1,fun e=>h5 (by rw[←a2,e]),fun e=>h5 (by rw[←a2,e];exact rb)⟩,a2⟩⟩
 ·have hu1:u<m.V:=hu.1
  have hu2:u≠m.f (mt a):=bI hu.2
  have old:∀q,q<m.R→al q=true→¬(m.nx (mt a)=a∧q=m.r a)→m.al q=true∧rv q=m.rv q:=fun q h1 h2 h3=>by
   have h4:=bo q h1
   rw[aA h3] at h4
   have h5:=hrv q h1 h2
   rw[aA h3] at h5
   exact⟨by rw[←h4];exact h2,h5⟩
  rcases h.va u ⟨hu1,rfl⟩ with⟨⟨q,⟨q1,q2,q3⟩,q4⟩,h2⟩ | ⟨h1,h2⟩
  ·have q5:q<m.R:=q1.1
   have hqa:q≠m.r a:=fun e=>by rw[e,nal a ha] at q2;cases q2
   have hcn:¬(m.nx (mt a)=a∧q=m.r a):=fun hc=>hqa hc.2
   have q6:al q=true:=by rw[bo q q5,aA hcn];exact q2
   refine .inl ⟨⟨q,⟨q1,q6,?_⟩,fun q' p1 p2 p3=>?_⟩,fun k hk=>h2 k ⟨hk.1,rfl⟩⟩
   ·show rv q=u;rw[(old q q5 q6 hcn).2];exact q3
   ·have p1':q'<m.R:=p1.1
    by_cases hc:m.nx (mt a)=a∧q'=m.r a
    ·have p3:rv q'=u:=p3
     rw[hrv q' p1' p2,aC hc] at p3
     exact absurd p3 (h2 a ⟨ha,rfl⟩)
    ·obtain⟨s1,s2⟩:=old q' p1' p2 hc
     exact q4 q' p1 s1 (by rw[←s2];exact p3)
  ·rcases g.jk h ha hl h2 with h3 | h3
   ·-- no half-edge is left: it is the beginning of the edge
    have hau:m.f a=u:=by
     obtain⟨x,l,_,hx⟩:=h2
     have hx1:=(mV u x).1 ((hx x).1 (by simp))
     by_cases e1:x=a
     ·rw[←e1];exact hx1.2
     ·by_cases e2:x=mt a
      ·exact absurd (by rw[←e2];exact hx1.2.symm) hu2
      ·exact absurd hx1.2 (h3 x (fY.2 ⟨hx1.1,e1,e2⟩))
    have hba:m.nx (mt a)=a:=by
     have h4:=h2.cl ((mV u a).2 ⟨ha,hau⟩)
     have h5:=(mV u _).1 h4
     have h6:m.sg a=a:=by
      refine EW fun e1=>?_
      by_cases e2:m.sg a=mt a
      ·exact hu2 (by rw[←h5.2,e2])
      ·exact h3 _ (fY.2 ⟨h5.1,e1,e2⟩) h5.2
     have h7:m.pv a=mt a:=by rw[←h6];show m.pv (m.sg a)=mt (mt (m.pv a));rw[oZ,h6]
     rw[←h7];exact bd.NP h g ha hl ha
    have alr:al (m.r a)=true:=by rw[bo _ ral,aC ⟨hba,rfl⟩]
    refine .inl ⟨⟨m.r a,⟨⟨ral,rfl⟩,alr,?_⟩,fun q' p1 p2 p3=>?_⟩,fun k hk=>h3 k hk⟩
    ·show rv (m.r a)=u;rw[hrv _ ral alr,aC ⟨hba,rfl⟩];exact hau
    ·refine EW fun hne'=>?_
     have hc:¬(m.nx (mt a)=a∧q'=m.r a):=fun hc=>hne' hc.2
     obtain⟨s1,s2⟩:=old q' p1.1 p2 hc
     exact h1 q' ⟨p1.1,rfl⟩ s1 (by rw[←s2];exact p3)
   ·refine .inr ⟨fun q p1 p2 p3=>?_,h3⟩
    have p3:rv q=u:=p3
    by_cases hc:m.nx (mt a)=a∧q=m.r a
    ·rw[hrv q p1.1 p2,aC hc] at p3
     obtain⟨x,l,_,hx⟩:=h3
     have hx1:=(hx x).1 (by simp)
     have hx2:=iC.1 hx1.2
     obtain⟨k1,k2,k3⟩:=fY.1 ⟨hx1.1,hx2.1⟩
     exact k2 (onlyA hc.1 x k1 ((bI hx2.2).trans p3.symm))
    ·obtain⟨s1,s2⟩:=old q p1.1 p2 hc
     exact h1 q ⟨p1.1,rfl⟩ s1 (by rw[←s2];exact p3)
end Go.Eng.Tl
set_option linter.unusedSectionVars false
namespace Go.Eng.Tl
open Go.Eng
theorem DN{n:Nat}{P Q:Nat→Bool}{k:Nat}:dD n (fun k=>P k&&Q k) k↔dD n P k∧Q k=true:=by
 unfold dD
 rw[cS]
 exact⟨fun⟨a,b,c⟩=>⟨⟨a,b⟩,c⟩,fun⟨⟨a,b⟩,c⟩=>⟨a,b,c⟩⟩
theorem Ue{n:Nat}{P Q:Nat→Bool}{k:Nat}:dD n (fun k=>P k||Q k) k↔dD n P k∨dD n Q k:=by
 unfold dD
 rw[oB]
 exact⟨fun⟨a,b⟩=>b.elim (fun b=>.inl ⟨a,b⟩) fun b=>.inr ⟨a,b⟩,fun h=>h.elim (fun h=>⟨h.1,.inl h.2⟩) fun h=>⟨h.1,.inr h.2⟩⟩
theorem yO{n x:Nat}{P:Nat→Bool}{k:Nat}:dD n (fun k=>P k&&decide (k≠x)) k↔dD n P k∧k≠x:=by
 rw[DN,bE]
theorem lE{n x:Nat}{P:Nat→Bool}(hx:x<n){k:Nat}:dD n (fun k=>P k||decide (k=x)) k↔dD n P k∨k=x:=by
 rw[Ue]
 exact or_congr_right ⟨fun h=>bI h.2,fun h=>⟨by omega,aR h⟩⟩
theorem WV.congr{m:Mp}{a:cy}(h:WV m a){f r nx pv:Nat→Nat}{al:Nat→Bool}{rv rc:Nat→Nat}(hf:∀j,dD m.n a.L j→f j=m.f j)(hr:∀j,dD m.n a.L j→r j=m.r j)
 (hnx:∀j,dD m.n a.L j→nx j=m.nx j) (hpv:∀j,dD m.n a.L j→pv j=m.pv j) (ha:∀j,dD m.R a.R j→al j=m.al j) (hv:∀j,dD m.R a.R j→al j=true→rv j=m.rv j) (hc:∀j,dD m.R a.R j→rc j=m.rc j):
 WV { m with f:=f,r:=r,nx:=nx,pv:=pv,al:=al,rv:=rv,rc:=rc } a:=
 (h.nf (ie.refl m.n a.L) (fun _ _=>rfl) hf hr hnx hpv).gw ha hv hc
theorem WV.gz{m:Mp}{a:cy}(h:WV m a){q q2:Nat}(hq:dD m.R a.R q)(hl:m.al q=true)(h2:dD m.R a.R q2)(hne:q2≠q)(hc:m.rc q2=m.rc q):
 WV m { a with R:=fun k=>a.R k&&decide (k≠q),V:=fun k=>a.V k&&decide (k≠m.rv q) }:=by
 obtain⟨hv,hk⟩:=h.ra q hq hl
 obtain⟨uq,fk⟩:(∀q',dD m.R a.R q'→m.al q'=true→m.rv q'=m.rv q→q'=q)∧∀k,dD m.n a.L k→m.f k≠m.rv q:=by
  rcases h.va _ hv with⟨⟨p,_,hp⟩,hf⟩ | ⟨h3,_⟩
  ·refine⟨fun q' a1 a2 a3=>?_,hf⟩
   rw[hp q' a1 a2 a3,hp q hq hl rfl]
  ·exact absurd rfl (h3 q hq hl)
 refine { ch:=h.ch,hf:=fun k hk=>yO.2 ⟨h.hf k hk,fk k hk⟩,hn:=h.hn,hp:=h.hp,pn:=h.pn,np:=h.np,hr:=fun k hl=>yO.2 ⟨h.hr k hl,hk k hl⟩,rn:=h.rn,ff:=h.ff,rc:=fun q' hq'=>h.rc q' (yO.1 hq').1,ra:=fun q' hq' hl'=>?_,ro:=fun q' hq' hl'=>h.ro q' (yO.1 hq').1 hl',fc:=fun g hg=>?_,va:=fun u hu=>?_ }
 ·obtain⟨p1,p2⟩:=yO.1 hq'
  obtain⟨p3,p4⟩:=h.ra q' p1 hl'
  exact⟨yO.2 ⟨p3,fun e=>p2 (uq q' p1 hl' e)⟩,p4⟩
 ·obtain⟨p,p1,p2⟩:=h.fc g hg
  by_cases e:p=q
  ·exact⟨q2,yO.2 ⟨h2,hne⟩,by rw[hc,←e];exact p2⟩
  ·exact⟨p,yO.2 ⟨p1,e⟩,p2⟩
 ·obtain⟨u1,u2⟩:=yO.1 hu
  rcases h.va u u1 with⟨⟨p,⟨p1,p2,p3⟩,p4⟩,p5⟩ | ⟨p1,p2⟩
  ·exact .inl ⟨⟨p,⟨yO.2 ⟨p1,fun e=>u2 (by rw[←p3,e])⟩,p2,p3⟩,fun q' a1 a2 a3=>p4 q' (yO.1 a1).1 a2 a3⟩,p5⟩
  ·exact .inr ⟨fun q' a1 a2 a3=>p1 q' (yO.1 a1).1 a2 a3,p2⟩
theorem WV.iy{m:Mp}{a:cy}(h:WV m a){q w:Nat}(hq:q<m.R)(hq2:a.R q=false)(hl:m.al q=true)(hw:w<m.V)(hw2:a.V w=false)(hqw:m.rv q=w)(hc:dD m.F a.F (m.rc q)):
 WV m { a with R:=fun k=>a.R k||decide (k=q),V:=fun k=>a.V k||decide (k=w) }:=by
 have rq:∀k,dD m.n a.L k→m.r k≠q:=fun k hk e=>by have:=(h.hr k hk).2;rw[e,hq2] at this;cases this
 have fw:∀k,dD m.n a.L k→m.f k≠w:=fun k hk e=>by have:=(h.hf k hk).2;rw[e,hw2] at this;cases this
 have rw':∀p,dD m.R a.R p→m.al p=true→m.rv p≠w:=fun p hp hl e=>by have:=(h.ra p hp hl).1.2;rw[e,hw2] at this;cases this
 refine { ch:=h.ch,hf:=fun k hk=>(lE hw).2 (.inl (h.hf k hk)),hn:=h.hn,hp:=h.hp,pn:=h.pn,np:=h.np,hr:=fun k hl=>(lE hq).2 (.inl (h.hr k hl)),rn:=h.rn,ff:=h.ff,rc:=fun q' hq'=>?_,ra:=fun q' hq' hl'=>?_,ro:=fun q' hq' hl'=>?_,fc:=fun g hg=>?_,va:=fun u hu=>?_ }
 ·rcases(lE hq).1 hq' with h1 | h1
  ·exact h.rc q' h1
  ·rw[h1];exact hc
 ·rcases(lE hq).1 hq' with h1 | h1
  ·exact⟨(lE hw).2 (.inl (h.ra q' h1 hl').1),(h.ra q' h1 hl').2⟩
  ·rw[h1];exact⟨(lE hw).2 (.inr hqw),rq⟩
 ·rcases(lE hq).1 hq' with h1 | h1
  ·exact h.ro q' h1 hl'
  ·rw[h1,hl] at hl';cases hl'
 ·obtain⟨p,p1,p2⟩:=h.fc g hg
  exact⟨p,(lE hq).2 (.inl p1),p2⟩
 ·rcases(lE hw).1 hu with u1 | u1
  ·have uw:u≠w:=fun e=>by have:=u1.2;rw[e,hw2] at this;cases this
   rcases h.va u u1 with⟨⟨p,⟨p1,p2,p3⟩,p4⟩,p5⟩ | ⟨p1,p2⟩
   ·refine .inl ⟨⟨p,⟨(lE hq).2 (.inl p1),p2,p3⟩,fun q' a1 a2 a3=>?_⟩,p5⟩
    rcases(lE hq).1 a1 with h1 | h1
    ·exact p4 q' h1 a2 a3
    ·exact absurd (by rw[←a3,h1,hqw]) uw
   ·refine .inr ⟨fun q' a1 a2 a3=>?_,p2⟩
    rcases(lE hq).1 a1 with h1 | h1
    ·exact p1 q' h1 a2 a3
    ·exact uw (by rw[←a3,h1,hqw])
  ·rw[u1]
   refine .inl ⟨⟨q,⟨(lE hq).2 (.inr rfl),hl,hqw⟩,fun q' a1 a2 a3=>?_⟩,fw⟩
   rcases(lE hq).1 a1 with h1 | h1
   ·exact absurd a3 (rw' q' h1 a2)
   ·exact h1
end Go.Eng.Tl
set_option linter.unusedSectionVars false
namespace Go.Eng.Tl
open Go.Eng
theorem bu.put{f g:Nat→Nat}{n n':Nat}{P P':Nat→Bool}(h:bu f n P){x a:Nat}(hx:dD n P x)(ha:¬dD n P a)(gx:g x=a)(ga:g a=f x)(ge:∀y,dD n P y→y≠x→g y=f y)(hP:∀y,dD n' P' y↔dD n P y∨y=a):bu g n' P':=by
 obtain⟨m,hm,cj⟩:=h.at hx.1 hx.2
 obtain⟨n1,n2⟩:=dC.1 hm.2
 have ham:a∉x::m:=fun e=>ha ((cj a).1 e)
 refine⟨x,a::m,⟨⟨gx,wX hm.1 (fun y hy=>ge y ((cj y).1 (dY _ hy)) fun e=>n1 (e▸hy)) ga⟩,?_⟩,fun y=>?_⟩
 ·refine dC.2 ⟨fun e=>?_,dC.2 ⟨fun e=>ham (dY _ e),n2⟩⟩
  rcases cJ.1 e with e | e
  ·exact ham (by rw[←e];simp)
  ·exact n1 e
 ·refine D6 ?_ (hP y).symm
  have h1:y∈x::m↔dD n P y:=cj y
  rw[←h1]
  simp only[cJ]
  constructor
  ·rintro (h | h | h)
   ·exact .inl (.inl h)
   ·exact .inr h
   ·exact .inl (.inr h)
  ·rintro ((h | h) | h)
   ·exact .inl h
   ·exact .inr (.inr h)
   ·exact .inr (.inl h)
theorem gW{n:Nat}{f:Nat→Nat}{u k:Nat}:dD n (fun k=>true&&decide (f k=u)) k↔k<n∧f k=u:=by
 show (k<n∧(true&&decide (f k=u))=true)↔_
 rw[fM,bE]
structure ou (m:Mp) (b w x y:Nat) (f nx pv r:Nat→Nat):Prop where
 f0:∀k,k<m.n→f k=m.f k
 fx:f x=m.f b
 fy:f y=w
 n0:∀k,k<m.n→k≠m.pv b→nx k=m.nx k
 n1:nx (m.pv b)=x
 n2:nx x=y
 n3:nx y=b
 p0:∀k,k<m.n→k≠b→pv k=m.pv k
 p1:pv b=y
 p2:pv y=x
 p3:pv x=m.pv b
 r0:∀k,k<m.n→r k=m.r k
 rx:r x=m.r b
 ry:r y=m.r b
theorem WV.ni{m:Mp}{R V F:Nat→Bool}(h:WV m ⟨fun _=>true,R,V,F⟩)(he:m.n%2=0){b w x y:Nat}(hb:b<m.n)(hx:x=m.n∨x=m.n+1)(hy:y=mt x)(hw:w<m.V)(hw2:V w=false){f nx pv r:Nat→Nat}(s:ou m b w x y f nx pv r):
 WV { m with n:=m.n+2,f:=f,r:=r,nx:=nx,pv:=pv } ⟨fun _=>true,R,fun k=>V k||decide (k=w),F⟩:=by
 have hmx:mt x=y:=hy.symm
 have hmy:mt y=x:=by rw[hy,oZ]
 have hy2:y=m.n∨y=m.n+1:=by have:=kP x;have:=mZ x;omega
 have hxy:x≠y:=fun e=>rL x (by rw[hmx,e])
 have di:∀k,k<m.n+2→k<m.n∨k=x∨k=y:=fun k hk=>by omega
 obtain⟨pb,pb2⟩:m.pv b<m.n∧m.nx (m.pv b)=b:=⟨(h.hp b ⟨hb,rfl⟩).1,h.np b ⟨hb,rfl⟩⟩
 have nxl:∀k,k<m.n→m.nx k<m.n:=fun k hk=>(h.hn k ⟨hk,rfl⟩).1
 have pvl:∀k,k<m.n→m.pv k<m.n:=fun k hk=>(h.hp k ⟨hk,rfl⟩).1
 have ml:∀k,k<m.n→mt k<m.n:=fun k hk=>(h.ch k ⟨hk,rfl⟩).1
 have nC:∀k,k<m.n+2→(k<m.n∧k≠m.pv b∧nx k=m.nx k∧m.nx k≠b)∨(k=m.pv b∧nx k=x)∨(k=x∧nx k=y)∨(k=y∧nx k=b):=fun k hk=>by
  rcases di k hk with h1 | h1 | h1
  ·by_cases e:k=m.pv b
   ·exact .inr (.inl ⟨e,by rw[e];exact s.n1⟩)
   ·exact .inl ⟨h1,e,s.n0 k h1 e,fun e2=>e (by rw[←e2];exact(h.pn k ⟨h1,rfl⟩).symm)⟩
  ·exact .inr (.inr (.inl ⟨h1,by rw[h1];exact s.n2⟩))
  ·exact .inr (.inr (.inr ⟨h1,by rw[h1];exact s.n3⟩))
 have pC:∀k,k<m.n+2→(k<m.n∧k≠b∧pv k=m.pv k∧m.pv k≠m.pv b)∨(k=b∧pv k=y)∨(k=x∧pv k=m.pv b)∨(k=y∧pv k=x):=fun k hk=>by
  rcases di k hk with h1 | h1 | h1
  ·by_cases e:k=b
   ·exact .inr (.inl ⟨e,by rw[e];exact s.p1⟩)
   ·exact .inl ⟨h1,e,s.p0 k h1 e,fun e2=>e (by rw[←h.np k ⟨h1,rfl⟩,e2];exact pb2)⟩
  ·exact .inr (.inr (.inl ⟨h1,by rw[h1];exact s.p3⟩))
  ·exact .inr (.inr (.inr ⟨h1,by rw[h1];exact s.p2⟩))
 have fw:∀k,k<m.n→m.f k≠w:=fun k hk e=>by have q:V (m.f k)=true:=(h.hf k ⟨hk,rfl⟩).2;rw[e,hw2] at q;cases q
 have rp:m.r (m.pv b)=m.r b:=by have:=h.rn _ ⟨pb,rfl⟩;rw[pb2] at this;exact this.symm
 have rl:∀k,k<m.n+2→dD m.R R (r k)∧((k<m.n∧r k=m.r k)∨r k=m.r b):=fun k hk=>by
  rcases di k hk with h1 | h1 | h1
  ·rw[s.r0 k h1];exact⟨h.hr k ⟨h1,rfl⟩,.inl ⟨h1,rfl⟩⟩
  ·rw[h1,s.rx];exact⟨h.hr b ⟨hb,rfl⟩,.inr rfl⟩
  ·rw[h1,s.ry];exact⟨h.hr b ⟨hb,rfl⟩,.inr rfl⟩
 have nal:m.al (m.r b)=false:=by
  cases hq:m.al (m.r b) with
  | false=>rfl
  | true=>exact absurd rfl ((h.ra _ (h.hr b ⟨hb,rfl⟩) hq).2 b ⟨hb,rfl⟩)
 refine { ch:=fun k hk=>⟨?_,rfl⟩,hf:=fun k hk=>?_,hn:=fun k hk=>⟨?_,rfl⟩,hp:=fun k hk=>⟨?_,rfl⟩,pn:=fun k hk=>?_,np:=fun k hk=>?_,hr:=fun k hk=>(rl k hk.1).1,rn:=fun k hk=>?_,ff:=fun k hk=>?_,rc:=h.rc,ra:=fun q hq hl=>?_,ro:=fun q hq hl=>?_,fc:=h.fc,va:=fun u hu=>?_ }
 ·exact kQ (by show (m.n+2)%2=0;omega) hk.1
 ·refine(lE hw).2 ?_
  rcases di k hk.1 with h1 | h1 | h1
  ·exact .inl (by show dD m.V V (f k);rw[s.f0 k h1];exact h.hf k ⟨h1,rfl⟩)
  ·exact .inl (by show dD m.V V (f k);rw[h1,s.fx];exact h.hf b ⟨hb,rfl⟩)
  ·exact .inr (by rw[h1];exact s.fy)
 ·show nx k<m.n+2
  rcases nC k hk.1 with⟨h1,_,e,_⟩ | ⟨_,e⟩ | ⟨_,e⟩ | ⟨_,e⟩
  ·rw[e];have:=nxl k h1;omega
  all_goals omega
 ·show pv k<m.n+2
  rcases pC k hk.1 with⟨h1,_,e,_⟩ | ⟨_,e⟩ | ⟨_,e⟩ | ⟨_,e⟩
  ·rw[e];have:=pvl k h1;omega
  all_goals omega
 ·show pv (nx k)=k
  rcases nC k hk.1 with⟨h1,_,e,e2⟩ | ⟨e1,e⟩ | ⟨e1,e⟩ | ⟨e1,e⟩
  ·rw[e,s.p0 _ (nxl k h1) e2];exact h.pn k ⟨h1,rfl⟩
  ·rw[e,e1];exact s.p3
  ·rw[e,e1];exact s.p2
  ·rw[e,e1];exact s.p1
 ·show nx (pv k)=k
  rcases pC k hk.1 with⟨h1,_,e,e2⟩ | ⟨e1,e⟩ | ⟨e1,e⟩ | ⟨e1,e⟩
  ·rw[e,s.n0 _ (pvl k h1) e2];exact h.np k ⟨h1,rfl⟩
  ·rw[e,e1];exact s.n3
  ·rw[e,e1];exact s.n1
  ·rw[e,e1];exact s.n2
 ·show r (nx k)=r k
  rcases nC k hk.1 with⟨h1,_,e,e2⟩ | ⟨e1,e⟩ | ⟨e1,e⟩ | ⟨e1,e⟩
  ·rw[e,s.r0 _ (nxl k h1),s.r0 k h1];exact h.rn k ⟨h1,rfl⟩
  ·rw[e,e1,s.rx,s.r0 _ pb,rp]
  ·rw[e,e1,s.rx,s.ry]
  ·rw[e,e1,s.ry,s.r0 b hb]
 ·show f (nx k)=f (mt k)
  rcases nC k hk.1 with⟨h1,_,e,e2⟩ | ⟨e1,e⟩ | ⟨e1,e⟩ | ⟨e1,e⟩
  ·rw[e,s.f0 _ (nxl k h1),s.f0 _ (ml k h1)];exact h.ff k ⟨h1,rfl⟩
  ·have:=h.ff _ ⟨pb,rfl⟩
   rw[pb2] at this
   rw[e,e1,s.fx,s.f0 _ (ml _ pb)];exact this
  ·rw[e,e1,hmx]
  ·rw[e,e1,hmy,s.fx,s.f0 b hb]
 ·obtain⟨h1,h2⟩:=h.ra q hq hl
  refine⟨(lE hw).2 (.inl h1),fun k hk=>?_⟩
  show r k≠q
  rcases(rl k hk.1).2 with⟨h3,h4⟩ | h4
  ·rw[h4];exact h2 k ⟨h3,rfl⟩
  ·rw[h4];exact h2 b ⟨hb,rfl⟩
 ·have ho:bu m.nx m.n (fun k=>true&&decide (m.r k=q)):=h.ro q hq hl
  show bu nx (m.n+2) (fun k=>true&&decide (r k=q))
  by_cases hq1:q=m.r b
  ·have h1:bu (fun k=>if k=m.pv b then x else if k=x then b else m.nx k) (m.n+2) (fun k=>decide (k≠y)&&decide (r k=q)):=by
    refine ho.put (x:=m.pv b) (a:=x) (gW.2 ⟨pb,by rw[rp,hq1]⟩) (fun e=>by have:=(gW.1 e).1;omega) ?_ ?_ (fun z hz hne=>?_) fun z=>?_
    ·simp only[eY]
    ·have:x≠m.pv b:=by omega
     simp only[aA this,eY];exact pb2.symm
    ·have:=(gW.1 hz).1
     have:z≠x:=by omega
     simp only[aA hne,aA this]
    ·rw[gW,DN,bE]
     unfold dD
     rw[bE]
     constructor
     ·rintro ⟨⟨h1,h2⟩,h3⟩
      rcases di z h1 with h4 | h4 | h4
      ·exact .inl ⟨h4,by rw[←s.r0 z h4];exact h3⟩
      ·exact .inr h4
      ·exact absurd h4 h2
     ·rintro (⟨h1,h2⟩ | h1)
      ·exact⟨⟨by omega,by omega⟩,by rw[s.r0 z h1];exact h2⟩
      ·exact⟨⟨by omega,by omega⟩,by rw[h1,s.rx,hq1]⟩
   refine h1.put (x:=x) (a:=y) ?_ (fun e=>?_) s.n2 ?_ (fun z hz hne=>?_) fun z=>?_
   ·rw[DN,bE];unfold dD;rw[bE];exact⟨⟨by omega,hxy⟩,by rw[s.rx,hq1]⟩
   ·rw[DN] at e;exact(bI e.1.2) rfl
   ·have:x≠m.pv b:=by omega
    simp only[aA this,eY];exact s.n3
   ·rw[DN,bE] at hz
    obtain⟨⟨z1,z2⟩,_⟩:=hz
    have z2:z≠y:=bI z2
    rcases nC z z1 with⟨a1,a2,a3,_⟩ | ⟨a1,a2⟩ | ⟨a1,_⟩ | ⟨a1,_⟩
    ·simp only[aA a2,aA hne];exact a3
    ·simp only[aC a1];exact a2
    ·exact absurd a1 hne
    ·exact absurd a1 z2
   ·rw[gW,DN,bE]
    unfold dD
    rw[bE]
    constructor
    ·rintro ⟨h2,h3⟩
     by_cases e:z=y
     ·exact .inr e
     ·exact .inl ⟨⟨h2,e⟩,h3⟩
    ·rintro (⟨⟨h2,_⟩,h3⟩ | h2)
     ·exact⟨h2,h3⟩
     ·exact⟨by omega,by rw[h2,s.ry,hq1]⟩
  ·refine ho.ext (fun z hz hp=>?_) fun z=>(gW (n:=m.n+2) (f:=r) (u:=q)).trans (D6 ?_ (gW (n:=m.n) (f:=m.r) (u:=q)).symm)
   ·have hp:m.r z=q:=(gW (f:=m.r)).1 ⟨hz,hp⟩ |>.2
    exact s.n0 z hz fun e=>hq1 (by rw[←hp,e,rp])
   ·constructor
    ·rintro ⟨h1,h2⟩
     rcases(rl z h1).2 with⟨h3,h4⟩ | h4
     ·exact⟨h3,by rw[←h4];exact h2⟩
     ·exact absurd (h2.symm.trans h4) hq1
    ·rintro ⟨h1,h2⟩
     exact⟨by omega,by rw[s.r0 z h1];exact h2⟩
 ·show (_∧_)∨(_∧bu (fun k=>mt (pv k)) (m.n+2) (fun k=>true&&decide (f k=u)))
  rcases(lE hw).1 hu with u1 | u1
  ·have uw:u≠w:=fun e=>by have q:V u=true:=u1.2;rw[e,hw2] at q;cases q
   rcases h.va u u1 with⟨p1,p2⟩ | ⟨p1,p2⟩
   ·refine .inl ⟨p1,fun k hk=>?_⟩
    show f k≠u
    rcases di k hk.1 with h1 | h1 | h1
    ·rw[s.f0 k h1];exact p2 k ⟨h1,rfl⟩
    ·rw[h1,s.fx];exact p2 b ⟨hb,rfl⟩
    ·rw[h1,s.fy];exact uw.symm
   ·refine .inr ⟨p1,?_⟩
    have p2:bu m.sg m.n (fun k=>true&&decide (m.f k=u)):=p2
    by_cases hu2:u=m.f b
    ·refine p2.put (x:=b) (a:=x) (gW.2 ⟨hb,hu2.symm⟩) (fun e=>by have:=(gW.1 e).1;omega) ?_ ?_ (fun z hz hne=>?_) fun z=>?_
     ·show mt (pv b)=x;rw[s.p1,hmy]
     ·show mt (pv x)=mt (m.pv b);rw[s.p3]
     ·show mt (pv z)=mt (m.pv z);rw[s.p0 z (gW.1 hz).1 hne]
     ·rw[gW,gW]
      constructor
      ·rintro ⟨h1,h2⟩
       rcases di z h1 with h3 | h3 | h3
       ·exact .inl ⟨h3,by rw[←s.f0 z h3];exact h2⟩
       ·exact .inr h3
       ·exact absurd (by rw[←h2,h3,s.fy]) uw
      ·rintro (⟨h1,h2⟩ | h1)
       ·exact⟨by omega,by rw[s.f0 z h1];exact h2⟩
       ·exact⟨by omega,by rw[h1,s.fx,hu2]⟩
    ·refine p2.ext (fun z hz hp=>?_) fun z=>(gW (n:=m.n+2) (f:=f) (u:=u)).trans (D6 ?_ (gW (n:=m.n) (f:=m.f) (u:=u)).symm)
     ·have hp:m.f z=u:=(gW (f:=m.f)).1 ⟨hz,hp⟩ |>.2
      show mt (pv z)=mt (m.pv z)
      rw[s.p0 z hz fun e=>hu2 (by rw[←hp,e])]
     ·constructor
      ·rintro ⟨h1,h2⟩
       rcases di z h1 with h3 | h3 | h3
       ·exact⟨h3,by rw[←s.f0 z h3];exact h2⟩
       ·exact absurd (by rw[←h2,h3,s.fx]) hu2
       ·exact absurd (by rw[←h2,h3,s.fy]) uw
      ·rintro ⟨h1,h2⟩
       exact⟨by omega,by rw[s.f0 z h1];exact h2⟩
  ·rw[u1]
   refine .inr ⟨fun q hq hl e=>?_,bu.one (a:=y) (by show mt (pv y)=y;rw[s.p2,hmx]) fun z=>(gW (n:=m.n+2) (f:=f) (u:=w)).trans ?_⟩
   ·have q2:V (m.rv q)=true:=(h.ra q hq hl).1.2
    have e:m.rv q=w:=e
    rw[e,hw2] at q2;cases q2
   ·constructor
    ·rintro ⟨h1,h2⟩
     rcases di z h1 with h3 | h3 | h3
     ·exact absurd (by rw[←s.f0 z h3];exact h2) (fw z h3)
     ·exact absurd (by rw[←s.fx,←h3];exact h2) (fw b hb)
     ·exact h3
    ·intro h1
     exact⟨by omega,by rw[h1];exact s.fy⟩
end Go.Eng.Tl
set_option linter.unusedSectionVars false
namespace Go.Eng.Tl
open Go.Eng
structure nj (m:Mp) (q w:Nat) (f nx pv r:Nat→Nat) (al:Nat→Bool) (rv:Nat→Nat):Prop where
 f0:∀k,k<m.n→f k=m.f k
 fx:f m.n=m.rv q
 fy:f (m.n+1)=w
 n0:∀k,k<m.n→nx k=m.nx k
 n1:nx m.n=m.n+1
 n2:nx (m.n+1)=m.n
 p0:∀k,k<m.n→pv k=m.pv k
 p1:pv m.n=m.n+1
 p2:pv (m.n+1)=m.n
 r0:∀k,k<m.n→r k=m.r k
 rx:r m.n=q
 ry:r (m.n+1)=q
 aq:al q=false
 a0:∀p,p<m.R→p≠q→al p=m.al p
 v0:∀p,p<m.R→p≠q→al p=true→rv p=m.rv p
theorem WV.lj{m:Mp}{R V F:Nat→Bool}(h:WV m ⟨fun _=>true,R,V,F⟩)(he:m.n%2=0){q w:Nat}(hq:dD m.R R q)(hl:m.al q=true)(hw:w<m.V)(hw2:V w=false){f nx pv r:Nat→Nat}{al:Nat→Bool}{rv:Nat→Nat}(s:nj m q w f nx pv r al rv):
 WV { m with n:=m.n+2,f:=f,r:=r,nx:=nx,pv:=pv,al:=al,rv:=rv } ⟨fun _=>true,R,fun k=>V k||decide (k=w),F⟩:=by
 have hmx:mt m.n=m.n+1:=by have:=kP m.n;have:=mZ m.n;omega
 have hmy:mt (m.n+1)=m.n:=by have:=kP (m.n+1);have:=mZ (m.n+1);omega
 have di:∀k,k<m.n+2→k<m.n∨k=m.n∨k=m.n+1:=fun k hk=>by omega
 have nxl:∀k,k<m.n→m.nx k<m.n:=fun k hk=>(h.hn k ⟨hk,rfl⟩).1
 have pvl:∀k,k<m.n→m.pv k<m.n:=fun k hk=>(h.hp k ⟨hk,rfl⟩).1
 have ml:∀k,k<m.n→mt k<m.n:=fun k hk=>(h.ch k ⟨hk,rfl⟩).1
 obtain⟨hv,rq⟩:=h.ra q hq hl
 have rq:∀k,k<m.n→m.r k≠q:=fun k hk=>rq k ⟨hk,rfl⟩
 have hv:dD m.V V (m.rv q):=hv
 obtain⟨uq,fk⟩:(∀q',dD m.R R q'→m.al q'=true→m.rv q'=m.rv q→q'=q)∧∀k,k<m.n→m.f k≠m.rv q:=by
  rcases h.va _ hv with⟨⟨p,_,hp⟩,hf⟩ | ⟨h3,_⟩
  ·refine⟨fun q' a1 a2 a3=>?_,fun k hk=>hf k ⟨hk,rfl⟩⟩
   rw[hp q' a1 a2 a3,hp q hq hl rfl]
  ·exact absurd rfl (h3 q hq hl)
 have vw:m.rv q≠w:=fun e=>by have q:=hv.2;rw[e,hw2] at q;cases q
 have fw:∀k,k<m.n→m.f k≠w:=fun k hk e=>by have q:V (m.f k)=true:=(h.hf k ⟨hk,rfl⟩).2;rw[e,hw2] at q;cases q
 have rl:∀k,k<m.n+2→(k<m.n∧r k=m.r k)∨((k=m.n∨k=m.n+1)∧r k=q):=fun k hk=>by
  rcases di k hk with h1 | h1 | h1
  ·exact .inl ⟨h1,s.r0 k h1⟩
  ·exact .inr ⟨.inl h1,by rw[h1];exact s.rx⟩
  ·exact .inr ⟨.inr h1,by rw[h1];exact s.ry⟩
 have old:∀p,p<m.R→al p=true→p≠q∧m.al p=true∧rv p=m.rv p:=fun p hp hp2=>by
  have hne:p≠q:=fun e=>by rw[e,s.aq] at hp2;cases hp2
  exact⟨hne,by rw[←s.a0 p hp hne];exact hp2,s.v0 p hp hne hp2⟩
 refine { ch:=fun k hk=>⟨?_,rfl⟩,hf:=fun k hk=>?_,hn:=fun k hk=>⟨?_,rfl⟩,hp:=fun k hk=>⟨?_,rfl⟩,pn:=fun k hk=>?_,np:=fun k hk=>?_,hr:=fun k hk=>?_,rn:=fun k hk=>?_,ff:=fun k hk=>?_,rc:=h.rc,ra:=fun p hp hl2=>?_,ro:=fun p hp hl2=>?_,fc:=h.fc,va:=fun u hu=>?_ }
 ·exact kQ (by show (m.n+2)%2=0;omega) hk.1
 ·refine(lE hw).2 ?_
  rcases di k hk.1 with h1 | h1 | h1
  ·exact .inl (by show dD m.V V (f k);rw[s.f0 k h1];exact h.hf k ⟨h1,rfl⟩)
  ·exact .inl (by show dD m.V V (f k);rw[h1,s.fx];exact hv)
  ·exact .inr (by rw[h1];exact s.fy)
 ·show nx k<m.n+2
  rcases di k hk.1 with h1 | h1 | h1
  ·rw[s.n0 k h1];have:=nxl k h1;omega
  ·rw[h1,s.n1];omega
  ·rw[h1,s.n2];omega
 ·show pv k<m.n+2
  rcases di k hk.1 with h1 | h1 | h1
  ·rw[s.p0 k h1];have:=pvl k h1;omega
  ·rw[h1,s.p1];omega
  ·rw[h1,s.p2];omega
 ·show pv (nx k)=k
  rcases di k hk.1 with h1 | h1 | h1
  ·rw[s.n0 k h1,s.p0 _ (nxl k h1)];exact h.pn k ⟨h1,rfl⟩
  ·rw[h1,s.n1,s.p2]
  ·rw[h1,s.n2,s.p1]
 ·show nx (pv k)=k
  rcases di k hk.1 with h1 | h1 | h1
  ·rw[s.p0 k h1,s.n0 _ (pvl k h1)];exact h.np k ⟨h1,rfl⟩
  ·rw[h1,s.p1,s.n2]
  ·rw[h1,s.p2,s.n1]
 ·show dD m.R R (r k)
  rcases rl k hk.1 with⟨h1,h2⟩ | ⟨_,h2⟩
  ·rw[h2];exact h.hr k ⟨h1,rfl⟩
  ·rw[h2];exact hq
 ·show r (nx k)=r k
  rcases di k hk.1 with h1 | h1 | h1
  ·rw[s.n0 k h1,s.r0 _ (nxl k h1),s.r0 k h1];exact h.rn k ⟨h1,rfl⟩
  ·rw[h1,s.n1,s.rx,s.ry]
  ·rw[h1,s.n2,s.rx,s.ry]
 ·show f (nx k)=f (mt k)
  rcases di k hk.1 with h1 | h1 | h1
  ·rw[s.n0 k h1,s.f0 _ (nxl k h1),s.f0 _ (ml k h1)];exact h.ff k ⟨h1,rfl⟩
  ·rw[h1,s.n1,hmx]
  ·rw[h1,s.n2,hmy]
 ·obtain⟨h1,h2,h3⟩:=old p hp.1 hl2
  obtain⟨h4,h5⟩:=h.ra p hp h2
  refine⟨(lE hw).2 (.inl (by show dD m.V V (rv p);rw[h3];exact h4)),fun k hk=>?_⟩
  show r k≠p
  rcases rl k hk.1 with⟨h6,h7⟩ | ⟨_,h7⟩
  ·rw[h7];exact h5 k ⟨h6,rfl⟩
  ·rw[h7];exact h1.symm
 ·show bu nx (m.n+2) (fun k=>true&&decide (r k=p))
  have hl2:al p=false:=hl2
  by_cases e:p=q
  ·refine⟨m.n,[m.n+1],⟨⟨s.n1,s.n2⟩,by simp⟩,fun z=>D6 ?_ (gW (n:=m.n+2) (f:=r) (u:=p)).symm⟩
   simp only[cJ,JC,EY]
   constructor
   ·rintro (h1 | h1)
    ·exact⟨by omega,by rw[h1,e];exact s.rx⟩
    ·exact⟨by omega,by rw[h1,e];exact s.ry⟩
   ·rintro ⟨h1,h2⟩
    rcases rl z h1 with⟨h3,h4⟩ | ⟨h3,_⟩
    ·exact absurd (by rw[←h4,h2,e]) (rq z h3)
    ·exact h3
  ·refine(h.ro p hp (by rw[←s.a0 p hp.1 e];exact hl2)).ext (fun z hz _=>s.n0 z hz) fun z=>(gW (n:=m.n+2) (f:=r) (u:=p)).trans (D6 ?_ (gW (n:=m.n) (f:=m.r) (u:=p)).symm)
   constructor
   ·rintro ⟨h1,h2⟩
    rcases rl z h1 with⟨h3,h4⟩ | ⟨_,h4⟩
    ·exact⟨h3,by rw[←h4];exact h2⟩
    ·exact absurd (h2.symm.trans h4) e
   ·rintro ⟨h1,h2⟩
    exact⟨by omega,by rw[s.r0 z h1];exact h2⟩
 ·show (_∧∀k,_→f k≠u)∨((∀p,dD m.R R p→al p=true→rv p≠u)∧bu (fun k=>mt (pv k)) (m.n+2) (fun k=>true&&decide (f k=u)))
  rcases(lE hw).1 hu with u1 | u1
  ·have uw:u≠w:=fun e=>by have q:V u=true:=u1.2;rw[e,hw2] at q;cases q
   by_cases e:u=m.rv q
   ·refine .inr ⟨fun p hp hl2 e2=>?_,bu.one (a:=m.n) (by show mt (pv m.n)=m.n;rw[s.p1,hmy]) fun z=>(gW (n:=m.n+2) (f:=f) (u:=u)).trans ?_⟩
    ·obtain⟨h1,h2,h3⟩:=old p hp.1 hl2
     exact h1 (uq p hp h2 (by rw[←h3,e2,e]))
    ·constructor
     ·rintro ⟨h1,h2⟩
      rcases di z h1 with h3 | h3 | h3
      ·exact absurd (by rw[←s.f0 z h3,h2,e]) (fk z h3)
      ·exact h3
      ·exact absurd (by rw[←h2,h3,s.fy]) uw
     ·intro h1
      exact⟨by omega,by rw[h1,e];exact s.fx⟩
   ·rcases h.va u u1 with⟨⟨p,⟨p1,p2,p3⟩,p4⟩,p5⟩ | ⟨p1,p2⟩
    ·have hne:p≠q:=fun e2=>e (by rw[←p3,e2])
     have hap:al p=true:=by rw[s.a0 p p1.1 hne];exact p2
     refine .inl ⟨⟨p,⟨p1,hap,?_⟩,fun q' a1 a2 a3=>?_⟩,fun k hk=>?_⟩
     ·show rv p=u;rw[s.v0 p p1.1 hne hap];exact p3
     ·obtain⟨h1,h2,h3⟩:=old q' a1.1 a2
      exact p4 q' a1 h2 (by rw[←h3];exact a3)
     ·rcases di k hk.1 with h1 | h1 | h1
      ·rw[s.f0 k h1];exact p5 k ⟨h1,rfl⟩
      ·rw[h1,s.fx];exact fun e2=>e e2.symm
      ·rw[h1,s.fy];exact uw.symm
    ·refine .inr ⟨fun p hp hl2 e2=>?_,p2.ext (fun z hz _=>by show mt (pv z)=mt (m.pv z);rw[s.p0 z hz]) fun z=>(gW (n:=m.n+2) (f:=f) (u:=u)).trans (D6 ?_ (gW (n:=m.n) (f:=m.f) (u:=u)).symm)⟩
     ·obtain⟨h1,h2,h3⟩:=old p hp.1 hl2
      exact p1 p hp h2 (by rw[←h3];exact e2)
     ·constructor
      ·rintro ⟨h1,h2⟩
       rcases di z h1 with h3 | h3 | h3
       ·exact⟨h3,by rw[←s.f0 z h3];exact h2⟩
       ·exact absurd (by rw[←h2,h3,s.fx]) e
       ·exact absurd (by rw[←h2,h3,s.fy]) uw
      ·rintro ⟨h1,h2⟩
       exact⟨by omega,by rw[s.f0 z h1];exact h2⟩
  ·rw[u1]
   refine .inr ⟨fun p hp hl2 e2=>?_,bu.one (a:=m.n+1) (by show mt (pv (m.n+1))=m.n+1;rw[s.p2,hmx]) fun z=>(gW (n:=m.n+2) (f:=f) (u:=w)).trans ?_⟩
   ·obtain⟨h1,h2,h3⟩:=old p hp.1 hl2
    have q2:V (m.rv p)=true:=(h.ra p hp h2).1.2
    rw[←h3,e2,hw2] at q2;cases q2
   ·constructor
    ·rintro ⟨h1,h2⟩
     rcases di z h1 with h3 | h3 | h3
     ·exact absurd (by rw[←s.f0 z h3];exact h2) (fw z h3)
     ·exact absurd (by rw[←s.fx,←h3];exact h2) vw
     ·exact h3
    ·intro h1
     exact⟨by omega,by rw[h1];exact s.fy⟩
end Go.Eng.Tl
set_option linter.unusedSectionVars false
namespace Go.Eng.Tl
open Go.Eng
theorem KA{n a:Nat}{f:Nat→Nat}{u k:Nat}:dD n (fun k=>B1 a k&&decide (f k=u)) k↔(k<n∧k≠a∧k≠mt a)∧f k=u:=by
 rw[DN,fY,bE]
theorem WV.ow{m:Mp}{a a0 b0:Nat}{A B:List Nat}{nx pv r:Nat→Nat}{al:Nat→Bool}{rv rc:Nat→Nat}(h:WV m tE)(g:bd m a nx pv)(ha:a<m.n)(hc:bz m.nx a ((a0::A)++mt a::(b0::B)))
 (hm:∀y,y∈a::((a0::A)++mt a::(b0::B))↔y<m.n∧m.r y=m.r a) (hr:∀k,k<m.n→r k=if k∈a0::A then m.R else m.r k)
 (bo:∀q,q<m.R→al q=m.al q) (halR:al m.R=false) (hrv:∀q,q<m.R→al q=true→rv q=m.rv q) (hrc:∀q,q<m.R→rc q=m.rc q) (hrcR:rc m.R=m.rc (m.r a)):
 WV { m with R:=m.R+1,nx:=nx,pv:=pv,r:=r,al:=al,rv:=rv,rc:=rc } ⟨B1 a,fun _=>true,fun _=>true,fun _=>true⟩:=by
 have hne:mt a≠a:=rL a
 obtain⟨P1,P2⟩:=hJ.1 hc.1
 have na:m.nx a=a0:=P1.1
 have nb:m.nx (mt a)=b0:=P2.1
 have hnd:((a::a0::A)++(mt a::b0::B)).Nodup:=hc.2
 obtain⟨n1,n2,n3⟩:=pU.1 hnd
 have a0a:a0≠a:=fun e=>(dC.1 n1).1 (by rw[←e];simp)
 have b0b:b0≠mt a:=fun e=>(dC.1 n2).1 (by rw[←e];simp)
 have hl:¬(m.nx a=a∧m.nx (mt a)=mt a):=fun⟨h1,_⟩=>a0a (na.symm.trans h1)
 have hb:=bd.b h g ha hl
 have N:∀k,k<m.n→m.nx k<m.n:=fun k hk=>bd.N h g ha hl hk
 have PN:∀k,k<m.n→m.pv (m.nx k)=k:=fun k hk=>bd.PN h g ha hl hk
 have inj:∀y z,y<m.n→z<m.n→m.nx y=m.nx z→y=z:=fun y z hy hz e=>by rw[←PN y hy,e,PN z hz]
 have mA:∀y,y∈a0::A→(y<m.n∧m.r y=m.r a)∧y≠a∧y≠mt a:=fun y hy=>⟨(hm y).1 (by
  have:y∈a::a0::A:=dY _ hy
  have:y∈(a::a0::A)++(mt a::b0::B):=yU _ this
  exact this),fun e=>(dC.1 n1).1 (e▸hy),fun e=>n3 y (dY _ hy) (mt a) (by simp) e⟩
 have mB:∀y,y∈b0::B→(y<m.n∧m.r y=m.r a)∧y≠a∧y≠mt a:=fun y hy=>⟨(hm y).1 (by
  have:y∈mt a::b0::B:=dY _ hy
  have:y∈(a::a0::A)++(mt a::b0::B):=JA _ this
  exact this),fun e=>n3 a (by simp) y (dY _ hy) e.symm,fun e=>(dC.1 n2).1 (e▸hy)⟩
 have dAB:∀y,y∈a0::A→y∉b0::B:=fun y h1 h2=>n3 y (dY _ h1) y (dY _ h2) rfl
 have mAB:∀y,y<m.n→m.r y=m.r a→y≠a→y≠mt a→y∈a0::A∨y∈b0::B:=fun y h1 h2 h3 h4=>by
  have h5:y∈(a::a0::A)++(mt a::b0::B):=(hm y).2 ⟨h1,h2⟩
  rcases fL.1 h5 with h6 | h6
  ·rcases cJ.1 h6 with h7 | h7
   ·exact absurd h7 h3
   ·exact .inl h7
  ·rcases cJ.1 h6 with h7 | h7
   ·exact absurd h7 h4
   ·exact .inr h7
 have rb:m.r (mt a)=m.r a:=((hm (mt a)).1 (by simp)).2
 have lA:m.nx (rF a0 A A.length)=mt a:=nU (x:=a) P1
 have lB:m.nx (rF b0 B B.length)=a:=nU (x:=mt a) P2
 have atA:rF a0 A A.length∈a0::A:=lN (by simp)
 have atB:rF b0 B B.length∈b0::B:=lN (by simp)
 have b0a:b0≠a:=(mB b0 (by simp)).2.1
 have a0b:a0≠mt a:=(mA a0 (by simp)).2.2
 have sk:∀k,k<m.n→k≠a→k≠mt a→(m.nx k=a∧nx k=b0)∨(m.nx k=mt a∧nx k=a0)∨(m.nx k≠a∧m.nx k≠mt a∧nx k=m.nx k):=fun k hk ka kb=>by
  rw[g.n k hk ka kb]
  rcases sH N PN ha hb hne.symm hl hk ka kb with⟨_,e2,_⟩ | ⟨e1,_,e4⟩ | ⟨_,e2,_⟩ | ⟨e1,_,e4⟩ | ⟨e1,e2,e4⟩
  ·exact absurd (nb.symm.trans e2) b0b
  ·exact .inl ⟨e1,by rw[e4,nb]⟩
  ·exact absurd (na.symm.trans e2) a0a
  ·exact .inr (.inl ⟨e1,by rw[e4,na]⟩)
  ·exact .inr (.inr ⟨e1,e2,e4⟩)
 have cA:bz nx a0 A:=by
  refine⟨oK (f:=m.nx) P1.2 (dC.1 n1).2 (fun y hy hne2=>?_) ?_,(dC.1 n1).2⟩
  ·obtain⟨⟨h1,h2⟩,h3,h4⟩:=mA y hy
   rcases sk y h1 h3 h4 with⟨e1,_⟩ | ⟨e1,_⟩ | ⟨_,_,e⟩
   ·have:=inj y _ h1 (mB _ atB).1.1 (e1.trans lB.symm)
    exact absurd (this▸atB) (dAB y hy)
   ·exact absurd (inj y _ h1 (mA _ atA).1.1 (e1.trans lA.symm)) hne2
   ·exact e
  ·obtain⟨⟨h1,h2⟩,h3,h4⟩:=mA _ atA
   rcases sk _ h1 h3 h4 with⟨e1,_⟩ | ⟨_,e⟩ | ⟨_,e2,_⟩
   ·exact absurd (lA.symm.trans e1) hne
   ·exact e
   ·exact absurd lA e2
 have cB:bz nx b0 B:=by
  refine⟨oK (f:=m.nx) P2.2 (dC.1 n2).2 (fun y hy hne2=>?_) ?_,(dC.1 n2).2⟩
  ·obtain⟨⟨h1,h2⟩,h3,h4⟩:=mB y hy
   rcases sk y h1 h3 h4 with⟨e1,_⟩ | ⟨e1,_⟩ | ⟨_,_,e⟩
   ·exact absurd (inj y _ h1 (mB _ atB).1.1 (e1.trans lB.symm)) hne2
   ·have:=inj y _ h1 (mA _ atA).1.1 (e1.trans lA.symm)
    exact absurd hy (dAB y (this▸atA))
   ·exact e
  ·obtain⟨⟨h1,h2⟩,h3,h4⟩:=mB _ atB
   rcases sk _ h1 h3 h4 with⟨_,e⟩ | ⟨e1,_⟩ | ⟨e2,_,_⟩
   ·exact e
   ·exact absurd (e1.symm.trans lB) hne
   ·exact absurd lB e2
 have rA:∀k,k∈a0::A→r k=m.R:=fun k hk=>by rw[hr k (mA k hk).1.1,aC hk]
 have rB:∀k,k∈b0::B→r k=m.r a:=fun k hk=>by rw[hr k (mB k hk).1.1,aA fun e=>dAB k e hk];exact(mB k hk).1.2
 have rO:∀k,k<m.n→k≠a→k≠mt a→k∉a0::A→k∉b0::B→m.r k≠m.r a∧r k=m.r k∧nx k=m.nx k∧m.nx k∉a0::A:=fun k h1 h2 h3 h4 h5=>by
  have h6:m.r k≠m.r a:=fun e=>by
   rcases mAB k h1 e h2 h3 with h7 | h7
   ·exact h4 h7
   ·exact h5 h7
  have h7:m.r (m.nx k)=m.r k:=h.rn k ⟨h1,rfl⟩
  refine⟨h6,by rw[hr k h1,aA h4],?_,fun e=>h6 (by rw[←h7];exact(mA _ e).1.2)⟩
  rcases sk k h1 h2 h3 with⟨e1,_⟩ | ⟨e1,_⟩ | ⟨_,_,e⟩
  ·exact absurd (by rw[←h7,e1]) h6
  ·exact absurd (by rw[←h7,e1];exact rb) h6
  ·exact e
 have ral:m.r a<m.R:=(h.hr a ⟨ha,rfl⟩).1
 have nal:∀k,k<m.n→m.al (m.r k)=false:=fun k hk=>by
  cases hx:m.al (m.r k) with
  | false=>rfl
  | true=>exact absurd rfl ((h.ra _ (h.hr k ⟨hk,rfl⟩) hx).2 k ⟨hk,rfl⟩)
 have rl:∀k,k<m.n→m.r k<m.R:=fun k hk=>(h.hr k ⟨hk,rfl⟩).1
 have old:∀q,q<m.R+1→al q=true→q<m.R∧m.al q=true∧rv q=m.rv q:=fun q hq hq2=>by
  have h1:q<m.R:=by
   by_cases e:q=m.R
   ·rw[e,halR] at hq2;cases hq2
   ·omega
  exact⟨h1,by rw[←bo q h1];exact hq2,hrv q h1 hq2⟩
 refine { ch:=fun k hk=>g.ch h ha hl hk,hf:=fun k hk=>h.hf k ⟨hk.1,rfl⟩,hn:=fun k hk=>g.hn h ha hl hk,hp:=fun k hk=>g.hp h ha hl hk,pn:=fun k hk=>g.pn h ha hl hk,np:=fun k hk=>g.np h ha hl hk,hr:=fun k hk=>⟨?_,rfl⟩,rn:=fun k hk=>?_,ff:=fun k hk=>g.ff h ha hl hk,rc:=fun q hq=>?_,ra:=fun q hq hq2=>?_,ro:=fun q hq hq2=>?_,fc:=fun f hf=>?_,va:=fun u hu=>?_ }
 ·show r k<m.R+1
  rw[hr k hk.1]
  have:=rl k hk.1
  split <;> omega
 ·obtain⟨h1,h2,h3⟩:=fY.1 hk
  show r (nx k)=r k
  by_cases e1:k∈a0::A
  ·rw[rA k e1,rA _ (cA.step e1)]
  ·by_cases e2:k∈b0::B
   ·rw[rB k e2,rB _ (cB.step e2)]
   ·obtain⟨_,e3,e4,e5⟩:=rO k h1 h2 h3 e1 e2
    rw[e3,e4,hr _ (N k h1),aA e5];exact h.rn k ⟨h1,rfl⟩
 ·have hq1:q<m.R+1:=hq.1
  show dD m.F (fun _=>true) (rc q)
  by_cases e:q=m.R
  ·rw[e,hrcR];exact h.rc _ ⟨ral,rfl⟩
  ·have h1:q<m.R:=by omega
   rw[hrc q h1];exact h.rc q ⟨h1,rfl⟩
 ·obtain⟨h1,h2,h3⟩:=old q hq.1 hq2
  obtain⟨h4,h5⟩:=h.ra q ⟨h1,rfl⟩ h2
  refine⟨by show dD m.V _ (rv q);rw[h3];exact h4,fun k hk=>?_⟩
  show r k≠q
  rw[hr k hk.1]
  split
  ·omega
  ·exact h5 k ⟨hk.1,rfl⟩
 ·have hq2:al q=false:=hq2
  have hq1:q<m.R+1:=hq.1
  by_cases e:q=m.R
  ·refine⟨a0,A,cA,fun y=>D6 ?_ (KA (n:=m.n) (f:=r) (u:=q)).symm⟩
   rw[e]
   constructor
   ·intro hy;exact⟨⟨(mA y hy).1.1,(mA y hy).2.1,(mA y hy).2.2⟩,rA y hy⟩
   ·rintro ⟨⟨h1,_,_⟩,h4⟩
    refine EW fun h5=>?_
    rw[hr y h1,aA h5] at h4
    have:=rl y h1;omega
  ·have h1:q<m.R:=by omega
   by_cases e2:q=m.r a
   ·refine⟨b0,B,cB,fun y=>D6 ?_ (KA (n:=m.n) (f:=r) (u:=q)).symm⟩
    rw[e2]
    constructor
    ·intro hy;exact⟨⟨(mB y hy).1.1,(mB y hy).2.1,(mB y hy).2.2⟩,rB y hy⟩
    ·rintro ⟨⟨h2,h3,h4⟩,h5⟩
     by_cases e3:y∈a0::A
     ·rw[rA y e3] at h5;omega
     ·rw[hr y h2,aA e3] at h5
      rcases mAB y h2 h5 h3 h4 with h6 | h6
      ·exact absurd h6 e3
      ·exact h6
   ·refine(h.ro q ⟨h1,rfl⟩ (by rw[←bo q h1];exact hq2)).ext (fun y hy hp=>?_) fun y=>(KA (n:=m.n) (f:=r) (u:=q)).trans (D6 ?_ (gW (n:=m.n) (f:=m.r) (u:=q)).symm)
    ·have hp:m.r y=q:=(gW (f:=m.r)).1 ⟨hy,hp⟩ |>.2
     have y1:y≠a:=fun e3=>e2 (by rw[←hp,e3])
     have y2:y≠mt a:=fun e3=>e2 (by rw[←hp,e3,rb])
     exact(rO y hy y1 y2 (fun e3=>e2 (by rw[←hp];exact(mA y e3).1.2)) fun e3=>e2 (by rw[←hp];exact(mB y e3).1.2)).2.2.1
    ·constructor
     ·rintro ⟨⟨h2,h3,h4⟩,h5⟩
      by_cases e3:y∈a0::A
      ·rw[rA y e3] at h5;omega
      ·rw[hr y h2,aA e3] at h5;exact⟨h2,h5⟩
     ·rintro ⟨h2,h3⟩
      refine⟨⟨h2,fun e3=>e2 (by rw[←h3,e3]),fun e3=>e2 (by rw[←h3,e3,rb])⟩,?_⟩
      rw[hr y h2,aA fun e3=>e2 (by rw[←h3];exact(mA y e3).1.2)];exact h3
 ·obtain⟨q,q1,q2⟩:=h.fc f hf
  have q1:q<m.R:=q1.1
  exact⟨q,⟨by show q<m.R+1;omega,rfl⟩,by show rc q=f;rw[hrc q q1];exact q2⟩
 ·rcases h.va u ⟨hu.1,rfl⟩ with⟨⟨q,⟨q1,q2,q3⟩,q4⟩,h2⟩ | ⟨h1,h2⟩
  ·have q1:q<m.R:=q1.1
   have q5:al q=true:=by rw[bo q q1];exact q2
   refine .inl ⟨⟨q,⟨⟨by show q<m.R+1;omega,rfl⟩,q5,?_⟩,fun q' p1 p2 p3=>?_⟩,fun k hk=>h2 k ⟨hk.1,rfl⟩⟩
   ·show rv q=u;rw[hrv q q1 q5];exact q3
   ·obtain⟨o1,o2,o3⟩:=old q' p1.1 p2
    exact q4 q' ⟨o1,rfl⟩ o2 (by rw[←o3];exact p3)
  ·refine .inr ⟨fun q p1 p2 p3=>?_,?_⟩
   ·obtain⟨o1,o2,o3⟩:=old q p1.1 p2
    exact h1 q ⟨o1,rfl⟩ o2 (by rw[←o3];exact p3)
   ·rcases g.jk h ha hl h2 with h3 | h3
    ·-- a half-edge stays at each end
     exfalso
     have fa:m.f a0=m.f (mt a):=by rw[←na];exact h.ff a ⟨ha,rfl⟩
     have fb:m.f b0=m.f a:=by rw[←nb];have:=h.ff (mt a) ⟨hb,rfl⟩;rwa[oZ] at this
     obtain⟨x,l,_,hx⟩:=h2
     obtain⟨x1,x2⟩:=(gW (n:=m.n) (f:=m.f) (u:=u)).1 ((hx x).1 (by simp))
     by_cases e1:x=a
     ·exact h3 b0 (fY.2 ⟨(mB b0 (by simp)).1.1,b0a,b0b⟩) (by rw[fb,←e1];exact x2)
     ·by_cases e2:x=mt a
      ·exact h3 a0 (fY.2 ⟨(mA a0 (by simp)).1.1,a0a,a0b⟩) (by rw[fa,←e2];exact x2)
      ·exact h3 x (fY.2 ⟨x1,e1,e2⟩) x2
    ·exact h3
end Go.Eng.Tl
set_option linter.unusedSectionVars false
namespace Go.Eng.Tl
open Go.Eng
theorem WV.qg{m:Mp}{a u w:Nat}{nx pv r:Nat→Nat}(h:WV m tE)(g:bd m a nx pv)(ha:a<m.n)(hl:¬(m.nx a=a∧m.nx (mt a)=mt a))(hu:m.r a=u)(hw:m.r (mt a)=w)(hne:u≠w)
 (hface:∀q,q<m.R→m.rc q=m.rc w→q=w) (hr:∀k,k<m.n→r k=if m.r k=w then u else m.r k):
 WV { m with nx:=nx,pv:=pv,r:=r } ⟨B1 a,fun q=>decide (q≠w),fun _=>true,fun f=>decide (f≠m.rc w)⟩:=by
 have hab:a≠mt a:=(rL a).symm
 have hb:=bd.b h g ha hl
 have N:∀k,k<m.n→m.nx k<m.n:=fun k hk=>bd.N h g ha hl hk
 have PN:∀k,k<m.n→m.pv (m.nx k)=k:=fun k hk=>bd.PN h g ha hl hk
 have inj:∀y z,y<m.n→z<m.n→m.nx y=m.nx z→y=z:=fun y z hy hz e=>by rw[←PN y hy,e,PN z hz]
 have rN:∀k,k<m.n→m.r (m.nx k)=m.r k:=fun k hk=>h.rn k ⟨hk,rfl⟩
 have ul:u<m.R:=hu▸(h.hr a ⟨ha,rfl⟩).1
 have wl:w<m.R:=hw▸(h.hr _ ⟨hb,rfl⟩).1
 have nal:∀k,k<m.n→m.al (m.r k)=false:=fun k hk=>by
  cases hx:m.al (m.r k) with
  | false=>rfl
  | true=>exact absurd rfl ((h.ra _ (h.hr k ⟨hk,rfl⟩) hx).2 k ⟨hk,rfl⟩)
 have nab:m.nx a≠mt a:=fun e=>hne (by rw[←hu,←hw,←e];exact(rN a ha).symm)
 have nba:m.nx (mt a)≠a:=fun e=>hne (by rw[←hu,←hw,←rN _ hb,e])
 have rlt:∀k,k<m.n→r k<m.R∧r k≠w:=fun k hk=>by
  rw[hr k hk]
  split
  ·exact⟨ul,hne⟩
  ·rename_i e;exact⟨(h.hr k ⟨hk,rfl⟩).1,e⟩
 have ru:∀k,k<m.n→(r k=u↔m.r k=u∨m.r k=w):=fun k hk=>by
  rw[hr k hk]
  split
  ·rename_i e;exact⟨fun _=>.inr e,fun _=>rfl⟩
  ·rename_i e;exact⟨.inl,fun h2=>h2.elim id fun h3=>absurd h3 e⟩
 have ro:∀k q,k<m.n→q≠u→q≠w→(r k=q↔m.r k=q):=fun k q hk h1 h2=>by
  rw[hr k hk]
  split
  ·rename_i e;exact⟨fun h3=>absurd h3.symm h1,fun h3=>absurd (h3.symm.trans e) h2⟩
  ·rfl
 have hO:bu nx m.n (fun k=>B1 a k&&decide (r k=u)):=by
  have o1:bu m.nx m.n (fun k=>true&&decide (m.r k=u)):=h.ro u ⟨ul,rfl⟩ (by rw[←hu];exact nal a ha)
  have o2:bu m.nx m.n (fun k=>true&&decide (m.r k=w)):=h.ro w ⟨wl,rfl⟩ (by rw[←hw];exact nal _ hb)
  have mR:∀y,dD m.n (fun k=>decide (r k=u)) y↔dD m.n (fun k=>true&&decide (m.r k=u)) y∨dD m.n (fun k=>true&&decide (m.r k=w)) y:=fun y=>by
   rw[gW,gW]
   unfold dD
   rw[bE]
   constructor
   ·rintro ⟨h1,h2⟩
    rcases(ru y h1).1 h2 with h3 | h3
    ·exact .inl ⟨h1,h3⟩
    ·exact .inr ⟨h1,h3⟩
   ·rintro (⟨h1,h2⟩ | ⟨h1,h2⟩)
    ·exact⟨h1,(ru y h1).2 (.inl h2)⟩
    ·exact⟨h1,(ru y h1).2 (.inr h2)⟩
  obtain⟨s,hs⟩:∃s:Nat→Nat,s=fun k=>if k=a then m.nx (mt a) else if k=mt a then m.nx a else m.nx k:=⟨_,rfl⟩
  have sa:s a=m.nx (mt a):=by rw[hs];exact aC rfl
  have sb:s (mt a)=m.nx a:=by rw[hs];show (if mt a=a then _ else _)=_;rw[aA hab.symm,aC rfl]
  have so:∀k,k≠a→k≠mt a→s k=m.nx k:=fun k h1 h2=>by rw[hs];show (if k=a then _ else _)=_;rw[aA h1,aA h2]
  have o3:bu s m.n (fun k=>decide (r k=u)):=o1.merge o2 (fun y h1 h2=>hne ((gW.1 h1).2.symm.trans (gW.1 h2).2)) (a:=a) (b:=mt a) (gW.2 ⟨ha,hu⟩) (gW.2 ⟨hb,hw⟩) sa sb (fun y _ h1 h2=>so y h1 h2) mR
  have sinj:∀y z,dD m.n (fun k=>decide (r k=u)) y→dD m.n (fun k=>decide (r k=u)) z→s y=s z→y=z:=fun y z hy hz e=>by
   by_cases y1:y=a
   ·rw[y1,sa] at e
    by_cases z1:z=a
    ·rw[y1,z1]
    ·by_cases z2:z=mt a
     ·rw[z2,sb] at e;exact absurd (inj _ _ hb ha e) hab.symm
     ·rw[so z z1 z2] at e;exact absurd (inj _ _ hb hz.1 e).symm z2
   ·by_cases y2:y=mt a
    ·rw[y2,sb] at e
     by_cases z1:z=a
     ·rw[z1,sa] at e;exact absurd (inj _ _ ha hb e) hab
     ·by_cases z2:z=mt a
      ·rw[y2,z2]
      ·rw[so z z1 z2] at e;exact absurd (inj _ _ ha hz.1 e).symm z1
    ·rw[so y y1 y2] at e
     by_cases z1:z=a
     ·rw[z1,sa] at e;exact absurd (inj _ _ hy.1 hb e) y2
     ·by_cases z2:z=mt a
      ·rw[z2,sb] at e;exact absurd (inj _ _ hy.1 ha e) y1
      ·rw[so z z1 z2] at e;exact inj _ _ hy.1 hz.1 e
  rcases RA (a:=a) (b:=mt a) o3 sinj hab with h1 | h1
  ·exfalso
   have q1:=h1 (m.nx a) ⟨N a ha,aR ((ru _ (N a ha)).2 (.inl (by rw[rN a ha,hu])))⟩
   have q2:=h1 (m.nx (mt a)) ⟨N _ hb,aR ((ru _ (N _ hb)).2 (.inr (by rw[rN _ hb,hw])))⟩
   exact hl ⟨q1.resolve_right nab,q2.resolve_left nba⟩
  ·refine h1.ext (fun y hy hp=>?_) fun y=>?_
   ·have hp:=iC.1 hp
    have hp1:=iC.1 hp.1
    have ya:y≠a:=bI hp1.2
    have yb:y≠mt a:=bI hp.2
    rw[g.n y hy ya yb]
    unfold skip
    simp only[so y ya yb,sa,sb]
   ·show (y<m.n∧(B1 a y&&decide (r y=u))=true)↔(y<m.n∧((decide (r y=u)&&decide (y≠a))&&decide (y≠mt a))=true)
    unfold B1
    simp only[cS,bE]
    exact⟨fun⟨a1,⟨a2,a3⟩,a4⟩=>⟨a1,⟨a4,a2⟩,a3⟩,fun⟨a1,⟨a4,a2⟩,a3⟩=>⟨a1,⟨a2,a3⟩,a4⟩⟩
 refine { ch:=fun k hk=>g.ch h ha hl hk,hf:=fun k hk=>h.hf k ⟨hk.1,rfl⟩,hn:=fun k hk=>g.hn h ha hl hk,hp:=fun k hk=>g.hp h ha hl hk,pn:=fun k hk=>g.pn h ha hl hk,np:=fun k hk=>g.np h ha hl hk,hr:=fun k hk=>⟨(rlt k hk.1).1,aR (rlt k hk.1).2⟩,rn:=fun k hk=>?_,ff:=fun k hk=>g.ff h ha hl hk,rc:=fun q hq=>⟨(h.rc q ⟨hq.1,rfl⟩).1,aR fun e=>(bI hq.2:q≠w) (hface q hq.1 e)⟩,ra:=fun q hq hq2=>?_,ro:=fun q hq hq2=>?_,fc:=fun f hf=>?_,va:=fun v hv=>?_ }
 ·obtain⟨h1,h2,h3⟩:=fY.1 hk
  have hk2:=(fY.1 (g.hn h ha hl hk)).1
  show r (nx k)=r k
  have key:∀x,x<m.n→(m.r x=u∨m.r x=w)→∀y,y<m.n→(m.r y=u∨m.r y=w)→r x=r y:=fun x hx h4 y hy h5=>by rw[(ru x hx).2 h4,(ru y hy).2 h5]
  have ka:∀x,x<m.n→m.nx x=a→m.r x=u∨m.r x=w:=fun x hx e=>.inl (by rw[←rN x hx,e,hu])
  have kb:∀x,x<m.n→m.nx x=mt a→m.r x=u∨m.r x=w:=fun x hx e=>.inr (by rw[←rN x hx,e,hw])
  have na':m.r (m.nx a)=u∨m.r (m.nx a)=w:=.inl (by rw[rN a ha,hu])
  have nb':m.r (m.nx (mt a))=u∨m.r (m.nx (mt a))=w:=.inr (by rw[rN _ hb,hw])
  rw[g.n k h1 h2 h3] at hk2 ⊢
  rcases sH N PN ha hb hab hl h1 h2 h3 with⟨e1,_,_,e4⟩ | ⟨e1,_,e4⟩ | ⟨e1,_,_,e4⟩ | ⟨e1,_,e4⟩ | ⟨e1,e2,e4⟩
  ·rw[e4];exact key _ (N a ha) na' k h1 (ka k h1 e1)
  ·rw[e4];exact key _ (N _ hb) nb' k h1 (ka k h1 e1)
  ·rw[e4];exact key _ (N _ hb) nb' k h1 (kb k h1 e1)
  ·rw[e4];exact key _ (N a ha) na' k h1 (kb k h1 e1)
  ·rw[e4,hr _ (N k h1),hr k h1,rN k h1]
 ·obtain⟨h4,h5⟩:=h.ra q ⟨hq.1,rfl⟩ hq2
  refine⟨h4,fun k hk e=>?_⟩
  have e:r k=q:=e
  have qw:q≠w:=bI hq.2
  by_cases e2:q=u
  ·have:m.al q=true:=hq2
   rw[e2,←hu,nal a ha] at this;cases this
  ·exact h5 k ⟨hk.1,rfl⟩ ((ro k q hk.1 e2 qw).1 e)
 ·have qw:q≠w:=bI hq.2
  have q1:q<m.R:=hq.1
  show bu nx m.n (fun k=>B1 a k&&decide (r k=q))
  by_cases e:q=u
  ·rw[e];exact hO
  ·refine(h.ro q ⟨q1,rfl⟩ hq2).ext (fun y hy hp=>?_) fun y=>(KA (n:=m.n) (f:=r) (u:=q)).trans (D6 ?_ (gW (n:=m.n) (f:=m.r) (u:=q)).symm)
   ·have hp:m.r y=q:=(gW (f:=m.r)).1 ⟨hy,hp⟩ |>.2
    have y1:y≠a:=fun e3=>e (by rw[←hp,e3,hu])
    have y2:y≠mt a:=fun e3=>qw (by rw[←hp,e3,hw])
    rw[g.n y hy y1 y2]
    rcases sH N PN ha hb hab hl hy y1 y2 with⟨e1,_⟩ | ⟨e1,_⟩ | ⟨e1,_⟩ | ⟨e1,_⟩ | ⟨_,_,e4⟩
    ·exact absurd (by rw[←hp,←rN y hy,e1,hu]) e
    ·exact absurd (by rw[←hp,←rN y hy,e1,hu]) e
    ·exact absurd (by rw[←hp,←rN y hy,e1,hw]) qw
    ·exact absurd (by rw[←hp,←rN y hy,e1,hw]) qw
    ·exact e4
   ·constructor
    ·rintro ⟨⟨h2,h3,h4⟩,h5⟩
     exact⟨h2,(ro y q h2 e qw).1 h5⟩
    ·rintro ⟨h2,h3⟩
     exact⟨⟨h2,fun e3=>e (by rw[←h3,e3,hu]),fun e3=>qw (by rw[←h3,e3,hw])⟩,(ro y q h2 e qw).2 h3⟩
 ·have hf1:f<m.F:=hf.1
  have hf2:f≠m.rc w:=bI hf.2
  obtain⟨q,q1,q2⟩:=h.fc f ⟨hf1,rfl⟩
  exact⟨q,⟨q1.1,aR fun e=>hf2 (by rw[←q2,e])⟩,q2⟩
 ·have hv1:v<m.V:=hv.1
  rcases h.va v ⟨hv1,rfl⟩ with⟨⟨q,⟨q1,q2,q3⟩,q4⟩,h2⟩ | ⟨h1,h2⟩
  ·refine .inl ⟨⟨q,⟨⟨q1.1,aR fun e=>?_⟩,q2,q3⟩,fun q' p1 p2 p3=>q4 q' ⟨p1.1,rfl⟩ p2 p3⟩,fun k hk=>h2 k ⟨hk.1,rfl⟩⟩
   rw[e,←hw,nal _ hb] at q2;cases q2
  ·refine .inr ⟨fun q p1 p2 p3=>h1 q ⟨p1.1,rfl⟩ p2 p3,?_⟩
   rcases g.jk h ha hl h2 with h3 | h3
   ·exfalso
    have fa:m.f (m.nx a)=m.f (mt a):=h.ff a ⟨ha,rfl⟩
    have fb:m.f (m.nx (mt a))=m.f a:=by have:=h.ff (mt a) ⟨hb,rfl⟩;rwa[oZ] at this
    have e1:m.f a=v→m.nx (mt a)=mt a:=fun e=>EW fun e2=>h3 _ (fY.2 ⟨N _ hb,nba,e2⟩) (by rw[fb,e])
    have e2:m.f (mt a)=v→m.nx a=a:=fun e=>EW fun e2=>h3 _ (fY.2 ⟨N a ha,e2,nab⟩) (by rw[fa,e])
    have e3:m.f a=v→m.f (mt a)=v:=fun e=>by rw[←e1 e,fb,e]
    have e4:m.f (mt a)=v→m.f a=v:=fun e=>by rw[←e2 e,fa,e]
    obtain⟨x,l,_,hx⟩:=h2
    obtain⟨x1,x2⟩:=(gW (n:=m.n) (f:=m.f) (u:=v)).1 ((hx x).1 (by simp))
    by_cases c1:x=a
    ·have c2:m.f a=v:=by rw[←c1];exact x2
     exact hl ⟨e2 (e3 c2),e1 c2⟩
    ·by_cases c2:x=mt a
     ·have c3:m.f (mt a)=v:=by rw[←c2];exact x2
      exact hl ⟨e2 c3,e1 (e4 c3)⟩
     ·exact h3 x (fY.2 ⟨x1,c1,c2⟩) x2
   ·exact h3
open Go.Eng Go.Proofs
def AY(t:Tp)(h g:Nat)(ra rb:Int):List Hf:=
 if h=g then lk (lk (lk (t.hs++[Hf.mk (hG t.hs h).f 0 0 ra,Hf.mk (hG t.hs g).f 0 0 rb]) (pv t h) t.hs.length) t.hs.length g) (t.hs.length+1) (t.hs.length+1)
 else lk (lk (lk (lk (t.hs++[Hf.mk (hG t.hs h).f 0 0 ra,Hf.mk (hG t.hs g).f 0 0 rb]) (pv t h) t.hs.length) t.hs.length g) (pv t g) (t.hs.length+1)) (t.hs.length+1) h
theorem BE(t:Tp)(h g:Nat)(ra rb:Int):(AY t h g ra rb).length=t.hs.length+2:=by
 unfold AY;by_cases e:h=g
 ·rw[aC e];simp
 ·rw[aA e];simp
theorem AT{t:Tp}(ht:Hok t){h g:Nat}(hh:h<t.hs.length)(hg:g<t.hs.length)(ra rb:Int){j:Nat}(hj:j<t.hs.length):hG (AY t h g ra rb) j=⟨(hG t.hs j).f,if h≠g∧pv t g=j then ((t.hs.length+1:Nat):Int) else if pv t h=j then (t.hs.length:Int) else (hG t.hs j).n,if h≠g∧h=j then ((t.hs.length+1:Nat):Int) else if g=j then (t.hs.length:Int) else (hG t.hs j).p,(hG t.hs j).r⟩:=by
 have hp:=ht.aj hh
 have hq:=ht.aj hg
 have hl:(t.hs++[Hf.mk (hG t.hs h).f 0 0 ra,Hf.mk (hG t.hs g).f 0 0 rb]).length=t.hs.length+2:=by simp
 unfold AY
 by_cases e:h=g
 ·rw[aC e,bF (by simp only[aG,hl];omega) (by simp only[aG,hl];omega),bF (by simp only[aG,hl];omega) (by simp only[aG,hl];omega),bF (by omega) (by omega),fV hj]
  simp only[aA (show ¬t.hs.length+1=j by omega),aA (show ¬t.hs.length=j by omega),aA (show ¬(h≠g∧pv t g=j) from fun x=>x.1 e),aA (show ¬(h≠g∧h=j) from fun x=>x.1 e)]
 ·rw[aA e,bF (by simp only[aG,hl];omega) (by simp only[aG,hl];omega),bF (by simp only[aG,hl];omega) (by simp only[aG,hl];omega),bF (by simp only[aG,hl];omega) (by simp only[aG,hl];omega),bF (by omega) (by omega),fV hj]
  simp only[aA (show ¬t.hs.length+1=j by omega),aA (show ¬t.hs.length=j by omega),uW,e,ZK,OI]
theorem Q9{t:Tp}(ht:Hok t){h g:Nat}(hh:h<t.hs.length)(hg:g<t.hs.length)(ra rb:Int):hG (AY t h g ra rb) (t.hs.length:Nat)=⟨(hG t.hs h).f,(g:Int),(pv t h:Int),ra⟩:=by
 have hp:=ht.aj hh
 have hq:=ht.aj hg
 have hl:(t.hs++[Hf.mk (hG t.hs h).f 0 0 ra,Hf.mk (hG t.hs g).f 0 0 rb]).length=t.hs.length+2:=by simp
 unfold AY
 by_cases e:h=g
 ·rw[aC e,bF (by simp only[aG,hl];omega) (by simp only[aG,hl];omega),bF (by simp only[aG,hl];omega) (by simp only[aG,hl];omega),bF (by omega) (by omega),oH]
  simp only[aA (show ¬t.hs.length+1=t.hs.length by omega),aA (show ¬g=t.hs.length by omega),eY]
 ·rw[aA e,bF (by simp only[aG,hl];omega) (by simp only[aG,hl];omega),bF (by simp only[aG,hl];omega) (by simp only[aG,hl];omega),bF (by simp only[aG,hl];omega) (by simp only[aG,hl];omega),bF (by omega) (by omega),oH]
  simp only[aA (show ¬t.hs.length+1=t.hs.length by omega),aA (show ¬g=t.hs.length by omega),aA (show ¬h=t.hs.length by omega),aA (show ¬pv t g=t.hs.length by omega),eY]
theorem YX{t:Tp}(ht:Hok t){h g:Nat}(hh:h<t.hs.length)(hg:g<t.hs.length)(ra rb:Int):hG (AY t h g ra rb) ((t.hs.length+1:Nat):Int)=⟨(hG t.hs g).f,if h=g then ((t.hs.length+1:Nat):Int) else (h:Int),if h=g then ((t.hs.length+1:Nat):Int) else (pv t g:Int),rb⟩:=by
 have hp:=ht.aj hh
 have hq:=ht.aj hg
 have hl:(t.hs++[Hf.mk (hG t.hs h).f 0 0 ra,Hf.mk (hG t.hs g).f 0 0 rb]).length=t.hs.length+2:=by simp
 unfold AY
 by_cases e:h=g
 ·rw[aC e,bF (by simp only[aG,hl];omega) (by simp only[aG,hl];omega),bF (by simp only[aG,hl];omega) (by simp only[aG,hl];omega),bF (by omega) (by omega),oJ]
  simp only[aC e,eY]
 ·rw[aA e,bF (by simp only[aG,hl];omega) (by simp only[aG,hl];omega),bF (by simp only[aG,hl];omega) (by simp only[aG,hl];omega),bF (by simp only[aG,hl];omega) (by simp only[aG,hl];omega),bF (by omega) (by omega),oJ]
  simp only[aA e,aA (show ¬h=t.hs.length+1 by omega),aA (show ¬pv t g=t.hs.length+1 by omega),eY]
theorem Mz{t:Tp}(ht:Hok t){h g:Nat}(hh:h<t.hs.length)(hg:g<t.hs.length)(ra rb:Int)(hn:t.hs.length+2≤256):dr (AY t h g ra rb):=by
 have hp:=ht.aj hh
 have hq:=ht.aj hg
 have h0:dr (t.hs++[Hf.mk (hG t.hs h).f 0 0 ra,Hf.mk (hG t.hs g).f 0 0 rb]):=fun k hk=>by
  simp only[tL,oA,wP] at hk
  by_cases e1:k<t.hs.length
  ·rw[fV e1];exact ht.kz k e1
  ·by_cases e2:k=t.hs.length
   ·subst e2;rw[oH];simp
   ·have e3:k=t.hs.length+1:=by omega
    subst e3;rw[oJ];simp
 have hl:(t.hs++[Hf.mk (hG t.hs h).f 0 0 ra,Hf.mk (hG t.hs g).f 0 0 rb]).length=t.hs.length+2:=by simp
 unfold AY
 by_cases e:h=g
 ·rw[aC e]
  exact((h0.lk (by omega) (by omega) (by omega)).lk (by simp only[aG];omega) (by simp only[aG];omega) (by simp only[aG];omega)).lk (by simp only[aG];omega) (by simp only[aG];omega) (by simp only[aG];omega)
 ·rw[aA e]
  exact(((h0.lk (by omega) (by omega) (by omega)).lk (by simp only[aG];omega) (by simp only[aG];omega) (by simp only[aG];omega)).lk (by simp only[aG];omega) (by simp only[aG];omega) (by simp only[aG];omega)).lk (by simp only[aG];omega) (by simp only[aG];omega) (by simp only[aG];omega)
theorem Na{f:Nat→Nat}{x:Nat}{m:List Nat}(h:bz f x m){k:Nat}(hk:k<m.length):f (rF x m k)=rF x m (k+1):=by
 cases m with
 | nil=>simp at hk
 | cons a m'=>
  cases k with
  | zero=>exact h.1.1
  | succ k=>exact G3 h.1 (k:=k) (by simpa using hk)
structure Mf (t:Tp) (h g r:Nat) (P Q:List Nat):Prop where
 ht:CKP t
 hh:h<t.hs.length
 hg:g<t.hs.length
 hr:r<t.rs.length
 cn:fC t r h=true
 m1:∀y,(y∈P∨y∈Q)↔y<t.hs.length∧fC t r y=true
 dj:∀y,y∈P→y∈Q→False
 cb:∀V F rs ra rb,bz (nx ⟨V,F,AY t h g ra rb,rs⟩) (t.hs.length+1) P
 ca:∀V F rs ra rb,bz (nx ⟨V,F,AY t h g ra rb,rs⟩) t.hs.length Q
 mg:h≠g→∃A,P=h::A∧pv t g=rF (t.hs.length+1) P P.length
 emp:h=g→P=[]
theorem Wi{t:Tp}(ht:CKP t){h g r:Nat}(hh:h<t.hs.length)(hg:g<t.hs.length)(hr:r<t.rs.length)(cn:fC t r h=true)(hrg:fC t r g=true):∃P Q,Mf t h g r P Q:=by
 have hk:=ht.toHok
 have hp:=hk.aj hh
 have hq:=hk.aj hg
 obtain⟨_,_,_,_,ho⟩:=L6 ht hr hh cn
 obtain⟨c,hc,hcm⟩:=ho.at hh cn
 have nxa:∀V F rs ra rb,nx ⟨V,F,AY t h g ra rb,rs⟩ t.hs.length=g:=fun V F rs ra rb=>by
  show ((hG (AY t h g ra rb) (t.hs.length:Nat)).n).toNat=g
  rw[Q9 hk hh hg];rfl
 have nxb:∀V F rs ra rb,nx ⟨V,F,AY t h g ra rb,rs⟩ (t.hs.length+1)=if h=g then t.hs.length+1 else h:=fun V F rs ra rb=>by
  show ((hG (AY t h g ra rb) ((t.hs.length+1:Nat):Int)).n).toNat=_
  rw[YX hk hh hg]
  by_cases e:h=g
  ·simp only[aC e];rfl
  ·simp only[aA e];rfl
 have nxl:∀V F rs ra rb y,y<t.hs.length→nx ⟨V,F,AY t h g ra rb,rs⟩ y=if h≠g∧pv t g=y then t.hs.length+1 else if pv t h=y then t.hs.length else nx t y:=fun V F rs ra rb y hy=>by
  show ((hG (AY t h g ra rb) (y:Nat)).n).toNat=_
  rw[AT hk hh hg _ _ hy]
  by_cases e1:h≠g∧pv t g=y
  ·simp only[aC e1];rfl
  ·by_cases e2:pv t h=y
   ·simp only[aA e1,aC e2];rfl
   ·simp only[aA e1,aA e2];rfl
 have hnd:=hc.2
 have hlt:∀y∈h::c,y<t.hs.length:=fun y hy=>((hcm y).1 hy).1
 by_cases e:h=g
 ·subst e
  have hlast:pv t h=rF h c c.length:=by
   have h2:nx t (rF h c c.length)=h:=by
    cases c with
    | nil=>exact hc.1
    | cons b c'=>
     have h5:=nU (f:=nx t) (x:=h) (a:=b) (m:=c') hc.1
     exact h5
   have h3:=hlt _ (lN (x:=h) (m:=c) (k:=c.length) (by simp))
   rw[←hk.pn h3,h2]
  refine⟨[],h::c,ht,hh,hg,hr,cn,fun y=>by simp only[JC,false_or];exact hcm y,fun y h1=>by simp at h1,fun V F rs ra rb=>⟨by show nx _ _=_;rw[nxb,aC rfl],by simp⟩,fun V F rs ra rb=>⟨⟨nxa V F rs ra rb,?_⟩,?_⟩,fun e=>absurd rfl e,fun _=>rfl⟩
  ·refine oK (f:=nx t) (z:=h) hc.1 hnd (fun y hy hne=>?_) ?_
   ·rw[nxl V F rs ra rb y (hlt y hy),aA fun x=>x.1 rfl,aA fun x=>hne (by rw[←x,hlast])]
   ·rw[nxl V F rs ra rb _ (hlt _ (lN (by simp))),aA fun x=>x.1 rfl,aC hlast]
  ·exact dC.2 ⟨fun hm=>by have:=hlt _ hm;omega,hnd⟩
 ·have hgc:g∈c:=by
   rcases cJ.1 ((hcm g).2 ⟨hg,hrg⟩) with e2 | h2
   ·exact absurd e2.symm e
   ·exact h2
  obtain⟨A,B,rfl⟩:=HG hgc
  obtain⟨p1,p2⟩:=hJ.1 hc.1
  have hnd2:((h::A)++(g::B)).Nodup:=hnd
  obtain⟨n1,n2,n3⟩:=pU.1 hnd2
  have lA:∀y∈h::A,y<t.hs.length:=fun y hy=>hlt y (by
   have:y∈(h::A)++(g::B):=yU _ hy
   exact this)
  have lB:∀y∈g::B,y<t.hs.length:=fun y hy=>hlt y (by
   have:y∈(h::A)++(g::B):=JA _ hy
   exact this)
  have e1:pv t g=rF h A A.length:=by
   have h2:nx t (rF h A A.length)=g:=by
    cases A with
    | nil=>exact p1
    | cons b c'=>
     have h5:=nU (f:=nx t) (x:=h) (a:=b) (m:=c') p1
     exact h5
   rw[←hk.pn (lA _ (lN (by simp))),h2]
  have e2:pv t h=rF g B B.length:=by
   have h2:nx t (rF g B B.length)=h:=by
    cases B with
    | nil=>exact p2
    | cons b c'=>
     have h5:=nU (f:=nx t) (x:=g) (a:=b) (m:=c') p2
     exact h5
   rw[←hk.pn (lB _ (lN (by simp))),h2]
  have mA:rF h A A.length∈h::A:=lN (by simp)
  have mB:rF g B B.length∈g::B:=lN (by simp)
  refine⟨h::A,g::B,ht,hh,hg,hr,cn,fun y=>?_,fun y h1 h2=>n3 y h1 y h2 rfl,fun V F rs ra rb=>⟨⟨by rw[nxb,aA e],?_⟩,?_⟩,fun V F rs ra rb=>⟨⟨nxa V F rs ra rb,?_⟩,?_⟩,fun _=>⟨A,rfl,?_⟩,fun e3=>absurd e3 e⟩
  ·rw[←hcm y]
   have:y∈h::(A++g::B)↔y∈(h::A)++(g::B):=DX
   rw[this,fL]
  ·refine oK (f:=nx t) (z:=g) p1 n1 (fun y hy hne=>?_) ?_
   ·rw[nxl V F rs ra rb y (lA y hy),aA fun x=>hne (by rw[←x.2,e1]),aA fun x=>n3 y hy y (by rw[←x,e2];exact mB) rfl]
   ·rw[nxl V F rs ra rb _ (lA _ mA),aC ⟨e,e1⟩]
  ·exact dC.2 ⟨fun hm=>by have:=lA _ hm;omega,n1⟩
  ·refine oK (f:=nx t) (z:=h) p2 n2 (fun y hy hne=>?_) ?_
   ·rw[nxl V F rs ra rb y (lB y hy),aA fun x=>n3 y (by rw[←x.2,e1];exact mA) y hy rfl,aA fun x=>hne (by rw[←x,e2])]
   ·rw[nxl V F rs ra rb _ (lB _ mB),aA fun x=>n3 _ (by rw[←x.2,e1];exact mA) _ mB rfl,aC e2]
  ·exact dC.2 ⟨fun hm=>by have:=lB _ hm;omega,n2⟩
  ·rw[e1];rfl
def CH(t:Tp)(h g r:Nat)(P:List Nat):List Hf:=au (AY t h g (r:Int) (t.rs.length:Int)) ((t.hs.length+1)::P) (t.rs.length:Int)
namespace Mf
variable {t:Tp} {h g r:Nat} {P Q:List Nat}
theorem bP(k:Mf t h g r P Q)(ra rb:Int):∀y∈(t.hs.length+1)::P,y<(AY t h g ra rb).length:=fun y hy=>by
 rw[BE]
 rcases cJ.1 hy with e | h2
 ·omega
 ·have:=((k.m1 y).1 (.inl h2)).1;omega
theorem bQ(k:Mf t h g r P Q)(ra rb:Int):∀y∈t.hs.length::Q,y<(AY t h g ra rb).length:=fun y hy=>by
 rw[BE]
 rcases cJ.1 hy with e | h2
 ·omega
 ·have:=((k.m1 y).1 (.inr h2)).1;omega
theorem len(k:Mf t h g r P Q):(CH t h g r P).length=t.hs.length+2:=by unfold CH;rw[cO,BE]
theorem rl(k:Mf t h g r P Q){j:Nat}(hj:j<t.hs.length):(hG (CH t h g r P) j).r=if j∈P then (t.rs.length:Int) else (hG t.hs j).r:=by
 unfold CH
 rw[eM _ _ _ _ (k.bP _ _)]
 by_cases e:j∈P
 ·rw[aC e,aC (dY _ e)]
 ·rw[aA e,aA,AT k.ht.toHok k.hh k.hg _ _ hj]
  intro h2
  rcases cJ.1 h2 with e2 | e2
  ·omega
  ·exact e e2
theorem ra(k:Mf t h g r P Q):(hG (CH t h g r P) (t.hs.length:Nat)).r=(r:Int):=by
 unfold CH
 rw[eM _ _ _ _ (k.bP _ _),aA,Q9 k.ht.toHok k.hh k.hg]
 intro h2
 rcases cJ.1 h2 with e2 | e2
 ·omega
 ·have:=((k.m1 _).1 (.inl e2)).1;omega
theorem rb(k:Mf t h g r P Q):(hG (CH t h g r P) ((t.hs.length+1:Nat):Int)).r=(t.rs.length:Int):=by
 unfold CH
 rw[eM _ _ _ _ (k.bP _ _),aC (by simp)]
theorem lv(k:Mf t h g r P Q):au (au (AY t h g 0 0) (t.hs.length::Q) (r:Int)) ((t.hs.length+1)::P) (t.rs.length:Int)=CH t h g r P:=by
 have hk:=k.ht.toHok
 unfold CH
 have hb1:=k.bP 0 0
 refine AO (by simp only[cO,BE]) fun j hj=>?_
 simp only[cO,BE] at hj
 rw[eM _ _ _ _ (fun y hy=>by rw[cO];exact hb1 y hy),eM _ _ _ _ (k.bQ 0 0),eM _ _ _ _ (k.bP _ _)]
 by_cases e1:j∈(t.hs.length+1)::P
 ·rw[aC e1,aC e1]
  by_cases e2:j<t.hs.length
  ·by_cases e3:j∈t.hs.length::Q
   ·rw[aC e3,AT hk k.hh k.hg _ _ e2,AT hk k.hh k.hg _ _ e2]
   ·rw[aA e3,AT hk k.hh k.hg _ _ e2,AT hk k.hh k.hg _ _ e2]
  ·have e4:j=t.hs.length+1:=by
    rcases cJ.1 e1 with h2 | h2
    ·exact h2
    ·have:=((k.m1 _).1 (.inl h2)).1;omega
   subst e4
   have e3:t.hs.length+1∉t.hs.length::Q:=fun h2=>by
    rcases cJ.1 h2 with h2 | h2
    ·omega
    ·have:=((k.m1 _).1 (.inr h2)).1;omega
   rw[aA e3,YX hk k.hh k.hg,YX hk k.hh k.hg]
 ·rw[aA e1,aA e1]
  by_cases e2:j<t.hs.length
  ·by_cases e3:j∈t.hs.length::Q
   ·rw[aC e3,AT hk k.hh k.hg _ _ e2,AT hk k.hh k.hg _ _ e2]
    have hq:j∈Q:=by
     rcases cJ.1 e3 with h2 | h2
     ·omega
     ·exact h2
    have:=bI ((k.m1 j).1 (.inr hq)).2
    simp only[this]
   ·rw[aA e3,AT hk k.hh k.hg _ _ e2,AT hk k.hh k.hg _ _ e2]
  ·have e4:j=t.hs.length:=by
    by_cases e5:j=t.hs.length
    ·exact e5
    ·exfalso;apply e1
     have:j=t.hs.length+1:=by omega
     rw[this];simp
   subst e4
   rw[aC (by simp),Q9 hk k.hh k.hg,Q9 hk k.hh k.hg]
theorem mem(k:Mf t h g r P Q){i:Nat}(hi:i<t.rs.length)(hne:r≠i):(∃j,j<(CH t h g r P).length∧(hG (CH t h g r P) (j:Nat)).r=(i:Int))↔∃j,j<t.hs.length∧(hG t.hs (j:Nat)).r=(i:Int):=by
 rw[k.len]
 constructor
 ·rintro ⟨j,hj,hr⟩
  by_cases e2:j<t.hs.length
  ·rw[k.rl e2] at hr
   by_cases e:j∈P
   ·rw[aC e] at hr;omega
   ·rw[aA e] at hr;exact⟨j,e2,hr⟩
  ·by_cases e4:j=t.hs.length
   ·subst e4;rw[k.ra] at hr;omega
   ·have e5:j=t.hs.length+1:=by omega
    subst e5;rw[k.rb] at hr;omega
 ·rintro ⟨j,hj,hr⟩
  refine⟨j,by omega,?_⟩
  rw[k.rl hj,aA]
  ·exact hr
  ·intro e
   have:=bI ((k.m1 j).1 (.inl e)).2
   omega
theorem fin(k:Mf t h g r P Q):lz ⟨t.V,t.F+1,CH t h g r P,t.rs.set r { rG t.rs r with h:=(t.hs.length:Int),v:=-1 }++[⟨((t.hs.length+1:Nat):Int),-1,t.F⟩]⟩=dn ⟨t.V,t.F+1,CH t h g r P,t.rs++[⟨-1,-1,t.F⟩]⟩:=by
 have hr:=k.hr
 have hv:(rG t.rs r).v=-1:=by
  rcases k.ht.ew hr with⟨_,_,h3⟩ | ⟨h1,_⟩
  ·exact h3
  ·exact absurd ⟨h,k.hh,bI k.cn⟩ h1
 refine L7 rfl rfl rfl (by simp) fun i hi=>?_
 have hi':i<t.rs.length+1:=by simpa using hi
 by_cases e1:i=t.rs.length
 ·subst e1
  have x1:rG (t.rs.set r { rG t.rs r with h:=(t.hs.length:Int),v:=-1 }++[(⟨((t.hs.length+1:Nat):Int),-1,t.F⟩:Rg)]) (t.rs.length:Nat)=⟨((t.hs.length+1:Nat):Int),-1,t.F⟩:=nW (by simp)
  have y1:rG (t.rs++[(⟨-1,-1,t.F⟩:Rg)]) (t.rs.length:Nat)=⟨-1,-1,t.F⟩:=nW rfl
  simp only[x1,y1]
  refine⟨trivial,trivial,.inl ⟨⟨t.hs.length+1,by rw[k.len];omega,aR k.rb⟩,by omega,by decide⟩⟩
 ·have hil:i<t.rs.length:=by omega
  have x1:rG (t.rs.set r { rG t.rs r with h:=(t.hs.length:Int),v:=-1 }++[(⟨((t.hs.length+1:Nat):Int),-1,t.F⟩:Rg)]) i=if r=i then { rG t.rs r with h:=(t.hs.length:Int),v:=-1 } else rG t.rs i:=by
   rw[kA (by simpa using hil),jE hr]
  have y1:rG (t.rs++[(⟨-1,-1,t.F⟩:Rg)]) i=rG t.rs i:=kA hil
  simp only[x1,y1]
  by_cases e:r=i
  ·subst e
   simp only[eY]
   refine⟨trivial,hv.symm,.inl ⟨⟨t.hs.length,by rw[k.len];omega,aR k.ra⟩,by omega,by omega⟩⟩
  ·simp only[aA e]
   refine⟨trivial,trivial,?_⟩
   rcases k.ht.ew hil with⟨h1,h2,h3⟩ | ⟨h1,h2,_⟩
   ·obtain⟨j,a,b⟩:=(k.mem hil e).2 h1
    exact .inl ⟨⟨j,a,aR b⟩,h2,by omega⟩
   ·refine .inr ⟨fun j hj=>?_,h2,.inr h2⟩
    exact aW fun b=>h1 ((k.mem hil e).1 ⟨j,hj,b⟩)
theorem rg(k:Mf t h g r P Q):ei (CH t h g r P) (t.rs.length+1):=fun j hj=>by
 rw[k.len] at hj
 have hr:=k.hr
 by_cases e2:j<t.hs.length
 ·rw[k.rl e2]
  by_cases e:j∈P
  ·rw[aC e];omega
  ·rw[aA e];have:=k.ht.toHok.kg j e2;omega
 ·by_cases e4:j=t.hs.length
  ·subst e4;rw[k.ra];omega
  ·have e5:j=t.hs.length+1:=by omega
   subst e5;rw[k.rb];omega
end Mf
theorem Wj{t:Tp}{h g r:Nat}{P Q:List Nat}(k:Mf t h g r P Q)(hn:t.hs.length+2≤256)(hF:t.F+1≤257)(hR:t.rs.length+1≤257)(hrg:fC t r g=true):
 kU (t.V,t.F,t.hs.map tH,t.rs.map tR,(h:Int),(g:Int),())=some (yE (dn ⟨t.V,t.F+1,CH t h g r P,t.rs++[⟨-1,-1,t.F⟩]⟩) 0):=by
 have ht:=k.ht
 have hk:=ht.toHok
 have hz:=hk.toSz
 have hh:=k.hh
 have hg:=k.hg
 have hr:=k.hr
 have hV1:=ht.V1
 have hF0:=ht.F0
 have hp:=hk.aj hh
 have hq:=hk.aj hg
 have hro:gQ t 2 0 1 1=true:=by
  unfold gQ;simp only[cS,bE];omega
 have rr:dO (t.V,t.F,t.hs.map tH,t.rs.map tR,(2:Int),(0:Int),(1:Int),(1:Int),())=some (true,()):=by
  rw[←hro];exact FM hz (a:=2) (b:=0) (c:=1) (d:=1) (by decide) (by decide) (by decide) (by decide)
 have hi1:rD (h:Int) (t.hs.length:Int)=true:=bZ.2 ⟨by omega,by omega⟩
 have hi2:rD (g:Int) (t.hs.length:Int)=true:=bZ.2 ⟨by omega,by omega⟩
 have hr1:(hG t.hs h).r=(r:Int):=bI k.cn
 have hr2:(hG t.hs g).r=(r:Int):=bI hrg
 have hw:wr .i64 (t.F+1)=t.F+1:=fQ (by omega) (by omega)
 have hlR:aI ((t.rs.set r { rG t.rs r with h:=(t.hs.length:Int),v:=-1 }++[(⟨((t.hs.length+1:Nat):Int),-1,t.F⟩:Rg)]).map tR)=((t.rs.length+1:Nat):Int):=by rw[bL];simp
 have hwR:wr .i64 (((t.rs.length+1:Nat):Int)-1)=(t.rs.length:Int):=by rw[fQ (by omega) (by omega)];push_cast;omega
 obtain⟨L1,hL1⟩:∃L1,L1=t.hs++[Hf.mk (hG t.hs h).f 0 0 0,Hf.mk (hG t.hs g).f 0 0 0]:=⟨_,rfl⟩
 have hl1:L1.length=t.hs.length+2:=by rw[hL1];simp
 have g1:∀y,y<t.hs.length→hG L1 y=hG t.hs y:=fun y hy=>by rw[hL1];exact fV hy
 have lkr:∀(l:List Hf),l.length=t.hs.length+2→∀a b:Nat,a<t.hs.length+2→b<t.hs.length+2→aL (t.V,t.F,l.map tH,t.rs.map tR,(a:Int),(b:Int),())=some ((lk l a b).map tH,t.rs.map tR,()):=fun l h1 a b h2 h3=>wY (by omega) (by omega)
 have hrr:qE (t.rs.map tR) [tR ⟨((t.hs.length+1:Nat):Int),-1,t.F⟩] 24=some ((t.rs++[(⟨((t.hs.length+1:Nat):Int),-1,t.F⟩:Rg)]).map tR):=by
  rw[rJ (by simp only[dM,oA,wP];omega) (by decide),DY];rfl
 have hfold:T.agg [tI ((t.hs.length+1:Nat):Int),tI (-1),tI t.F]=tR ⟨((t.hs.length+1:Nat):Int),-1,t.F⟩:=rfl
 have hsm:=Mz hk hh hg 0 0 hn
 have s1:=wZ (V:=t.V) (F:=t.F+1) (hs:=AY t h g 0 0) (rs:=t.rs++[(⟨((t.hs.length+1:Nat):Int),-1,t.F⟩:Rg)]) (by rw[BE];omega) (r:=r) (k.ca _ _ _ _ _) (k.bQ 0 0) (fun y hy=>hsm.mf (k.bQ 0 0 y hy)) (by simp;omega)
 have e1:rG (t.rs++[(⟨((t.hs.length+1:Nat):Int),-1,t.F⟩:Rg)]) r=rG t.rs r:=kA hr
 have e2:(t.rs++[(⟨((t.hs.length+1:Nat):Int),-1,t.F⟩:Rg)]).set r { rG t.rs r with h:=(t.hs.length:Int),v:=-1 }=t.rs.set r { rG t.rs r with h:=(t.hs.length:Int),v:=-1 }++[(⟨((t.hs.length+1:Nat):Int),-1,t.F⟩:Rg)]:=by rw[JB,aC hr]
 unfold lC at s1
 simp only[e1,e2] at s1
 have hsm1:dr (au (AY t h g 0 0) (t.hs.length::Q) (r:Int)):=hsm.au (k.bQ 0 0) _
 have hcb:bz (nx ⟨t.V,t.F+1,au (AY t h g 0 0) (t.hs.length::Q) (r:Int),t.rs.set r { rG t.rs r with h:=(t.hs.length:Int),v:=-1 }++[(⟨((t.hs.length+1:Nat):Int),-1,t.F⟩:Rg)]⟩) (t.hs.length+1) P:=by
  refine(k.cb t.V (t.F+1) (t.rs.set r { rG t.rs r with h:=(t.hs.length:Int),v:=-1 }++[(⟨((t.hs.length+1:Nat):Int),-1,t.F⟩:Rg)]) 0 0).ext fun y hy=>?_
  show ((hG (AY t h g 0 0) y).n).toNat=((hG (au (AY t h g 0 0) (t.hs.length::Q) (r:Int)) y).n).toNat
  rw[By _ _ _ _ (k.bQ 0 0)]
 have hbP:∀y∈(t.hs.length+1)::P,y<(au (AY t h g 0 0) (t.hs.length::Q) (r:Int)).length:=fun y hy=>by rw[cO];exact k.bP 0 0 y hy
 have s2:=wZ (V:=t.V) (F:=t.F+1) (hs:=au (AY t h g 0 0) (t.hs.length::Q) (r:Int)) (rs:=t.rs.set r { rG t.rs r with h:=(t.hs.length:Int),v:=-1 }++[(⟨((t.hs.length+1:Nat):Int),-1,t.F⟩:Rg)]) (by rw[cO,BE];omega) (r:=t.rs.length) hcb hbP (fun y hy=>hsm1.mf (hbP y hy)) (by simp)
 have e3:rG (t.rs.set r { rG t.rs r with h:=(t.hs.length:Int),v:=-1 }++[(⟨((t.hs.length+1:Nat):Int),-1,t.F⟩:Rg)]) (t.rs.length:Nat)=⟨((t.hs.length+1:Nat):Int),-1,t.F⟩:=nW (by simp)
 have e4:(t.rs.set r { rG t.rs r with h:=(t.hs.length:Int),v:=-1 }++[(⟨((t.hs.length+1:Nat):Int),-1,t.F⟩:Rg)]).set t.rs.length ⟨((t.hs.length+1:Nat):Int),-1,t.F⟩=t.rs.set r { rG t.rs r with h:=(t.hs.length:Int),v:=-1 }++[(⟨((t.hs.length+1:Nat):Int),-1,t.F⟩:Rg)]:=by rw[JB];simp
 unfold lC at s2
 simp only[e3,e4,k.lv] at s2
 have hls:=FO (V:=t.V) (F:=t.F+1) (hs:=CH t h g r P) (rs:=t.rs.set r { rG t.rs r with h:=(t.hs.length:Int),v:=-1 }++[(⟨((t.hs.length+1:Nat):Int),-1,t.F⟩:Rg)]) (by rw[k.len];omega) (by simp;omega)
 rw[k.fin] at hls
 unfold kU
 by_cases e:h=g
 ·subst e
  have d1:decide ((h:Int)=(h:Int))=true:=aR rfl
  have hLL:lk (lk (lk L1 (pv t h) t.hs.length) t.hs.length h) (t.hs.length+1) (t.hs.length+1)=AY t h h 0 0:=by rw[hL1];unfold AY;rw[aC rfl]
  have g2:hG L1 h=hG t.hs h:=g1 h hh
  simp only[bM ht,fU,bT,hi1,rr,bD,bH,aK,aN,eS (l:=t.hs) (i:=(h:Int)) (by omega) (by omega),jV,sO,mG,hr1,aJ,aH,cK,mH hz,aF (n:=(t.hs.length:Int)) (i:=h) (by omega),aY,gJ hh,FL (hs:=t.hs) (by omega),←hL1,hl1,aF (n:=((t.hs.length+2:Nat):Int)) (i:=h) (by omega),gJ (l:=L1) (k:=h) (by omega),g2,hk.br hh,lkr L1 hl1 _ _ (by omega:pv t h<_) (by omega:t.hs.length<_),lkr (lk L1 (pv t h) t.hs.length) (by rw[aG,hl1]) _ _ (by omega:t.hs.length<_) (by omega:h<_),lkr (lk (lk L1 (pv t h) t.hs.length) t.hs.length h) (by rw[aG,aG,hl1]) _ _ (by omega:t.hs.length+1<_) (by omega:t.hs.length+1<_),hLL,bC,bY,hfold,hrr,aS,hw,s1,hlR,nI,hwR,s2,hls]
  rfl
 ·have d1:decide ((h:Int)=(g:Int))=false:=aW (by omega)
  have hLL:lk (lk (lk (lk L1 (pv t h) t.hs.length) t.hs.length g) (pv t g) (t.hs.length+1)) (t.hs.length+1) h=AY t h g 0 0:=by rw[hL1];unfold AY;rw[aA e]
  have g2:hG L1 h=hG t.hs h:=g1 h hh
  have g3:hG L1 g=hG t.hs g:=g1 g hg
  simp only[bM ht,fU,bT,hi1,hi2,rr,bD,bH,aK,eS (l:=t.hs) (i:=(h:Int)) (by omega) (by omega),eS (l:=t.hs) (i:=(g:Int)) (by omega) (by omega),jV,sO,mG,hr1,hr2,aJ,aH,d1,cK,mH hz,aF (n:=(t.hs.length:Int)) (i:=h) (by omega),aF (n:=(t.hs.length:Int)) (i:=g) (by omega),aY,gJ hh,gJ hg,FL (hs:=t.hs) (by omega),←hL1,hl1,aF (n:=((t.hs.length+2:Nat):Int)) (i:=h) (by omega),aF (n:=((t.hs.length+2:Nat):Int)) (i:=g) (by omega),gJ (l:=L1) (k:=h) (by omega),gJ (l:=L1) (k:=g) (by omega),g2,g3,hk.br hh,hk.br hg,lkr L1 hl1 _ _ (by omega:pv t h<_) (by omega:t.hs.length<_),lkr (lk L1 (pv t h) t.hs.length) (by rw[aG,hl1]) _ _ (by omega:t.hs.length<_) (by omega:g<_),lkr (lk (lk L1 (pv t h) t.hs.length) t.hs.length g) (by rw[aG,aG,hl1]) _ _ (by omega:pv t g<_) (by omega:t.hs.length+1<_),lkr (lk (lk (lk L1 (pv t h) t.hs.length) t.hs.length g) (pv t g) (t.hs.length+1)) (by rw[aG,aG,aG,hl1]) _ _ (by omega:t.hs.length+1<_) (by omega:h<_),hLL,bC,bY,hfold,hrr,aS,hw,s1,hlR,nI,hwR,s2,hls]
  rfl
theorem Rs{t:Tp}{h g r:Nat}{P Q:List Nat}(k:Mf t h g r P Q)(hn:t.hs.length+2≤256)(hF:t.F+1≤257)(hR:t.rs.length+1≤257)(hrg:fC t r g=true):
 fJ (t.V,t.F,t.hs.map tH,t.rs.map tR,(h:Int),(g:Int),())=some (yE (dn ⟨t.V,t.F+1,CH t h g r P,t.rs++[⟨-1,-1,t.F⟩]⟩) 0):=by
 have ht:=k.ht
 have hk:=ht.toHok
 have hz:=hk.toSz
 have hh:=k.hh
 have hg:=k.hg
 have hr:=k.hr
 have hV1:=ht.V1
 have hF0:=ht.F0
 have hp:=hk.aj hh
 have hq:=hk.aj hg
 have hro:gQ t 2 0 1 1=true:=by
  unfold gQ;simp only[cS,bE];omega
 have pr:cC (t.V,t.F,t.hs.map tH,t.rs.map tR,(2:Int),(0:Int),(1:Int),(1:Int),())=some (true,()):=by
  rw[←hro];exact FQ hz (a:=2) (b:=0) (c:=1) (d:=1) (by decide) (by decide) (by decide) (by decide)
 have hi1:rD (h:Int) (t.hs.length:Int)=true:=bZ.2 ⟨by omega,by omega⟩
 have hi2:rD (g:Int) (t.hs.length:Int)=true:=bZ.2 ⟨by omega,by omega⟩
 have hr1:(hG t.hs h).r=(r:Int):=bI k.cn
 have hr2:(hG t.hs g).r=(r:Int):=bI hrg
 have hw:wr .i64 (t.F+1)=t.F+1:=fQ (by omega) (by omega)
 obtain⟨L1,hL1⟩:∃L1,L1=t.hs++[Hf.mk (hG t.hs h).f 0 0 (r:Int),Hf.mk (hG t.hs g).f 0 0 (t.rs.length:Int)]:=⟨_,rfl⟩
 have hl1:L1.length=t.hs.length+2:=by rw[hL1];simp
 have lkp:∀(l:List Hf) (R:List T),l.length=t.hs.length+2→∀a b:Nat,a<t.hs.length+2→b<t.hs.length+2→aB ((),(a:Int),(b:Int),t.V,t.F+1,l.map tH,R,())=some (t.V,t.F+1,(lk l a b).map tH,R,()):=fun l R h1 a b h2 h3=>xA (by omega) (by omega)
 have hrr:qE (t.rs.map tR) [tR ⟨-1,-1,t.F⟩] 24=some ((t.rs++[(⟨-1,-1,t.F⟩:Rg)]).map tR):=by
  rw[rJ (by simp only[dM,oA,wP];omega) (by decide),DY];rfl
 have hfold:T.agg [tI (-1),tI (-1),tI t.F]=tR ⟨-1,-1,t.F⟩:=rfl
 have hsm:=Mz hk hh hg (r:Int) (t.rs.length:Int) hn
 have hd:=BD (V:=t.V) (F:=t.F+1) (hs:=CH t h g r P) (rs:=t.rs++[(⟨-1,-1,t.F⟩:Rg)]) (by rw[k.len];omega) (by simp;omega) (by
  have:(t.rs++[(⟨-1,-1,t.F⟩:Rg)]).length=t.rs.length+1:=by simp
  rw[this];exact k.rg)
 unfold fJ
 by_cases e:h=g
 ·subst e
  have d1:decide ((h:Int)=(h:Int))=true:=aR rfl
  have hP:=k.emp rfl
  have hid:CH t h h r P=AY t h h (r:Int) (t.rs.length:Int):=by
   unfold CH
   rw[hP]
   refine Er (fun x hx=>?_) (fun x hx=>?_)
   ·have:x=t.hs.length+1:=by simpa using hx
    rw[BE];omega
   ·have:x=t.hs.length+1:=by simpa using hx
    subst this
    rw[YX hk hh hg]
  have hLL:lk (lk (lk L1 (pv t h) t.hs.length) t.hs.length h) (t.hs.length+1) (t.hs.length+1)=CH t h h r P:=by rw[hid,hL1];unfold AY;rw[aC rfl]
  simp only[bN ht,cN,hi1,pr,bD,bH,aK,aN,eS (l:=t.hs) (i:=(h:Int)) (by omega) (by omega),jV,sO,mG,hr1,aJ,aH,cK,oV hz,bT,bL,aF (n:=(t.hs.length:Int)) (i:=h) (by omega),aY,gJ hh,bY,hfold,hrr,aS,hw,FP (hs:=t.hs) (by omega),←hL1,hk.br hh,lkp L1 _ hl1 _ _ (by omega:pv t h<_) (by omega:t.hs.length<_),lkp (lk L1 (pv t h) t.hs.length) _ (by rw[aG,hl1]) _ _ (by omega:t.hs.length<_) (by omega:h<_),lkp (lk (lk L1 (pv t h) t.hs.length) t.hs.length h) _ (by rw[aG,aG,hl1]) _ _ (by omega:t.hs.length+1<_) (by omega:t.hs.length+1<_),hLL,hd]
  rfl
 ·have d1:decide ((h:Int)=(g:Int))=false:=aW (by omega)
  obtain⟨A,hPA,hlast⟩:=k.mg e
  have hLL:lk (lk (lk (lk L1 (pv t h) t.hs.length) t.hs.length g) (pv t g) (t.hs.length+1)) (t.hs.length+1) h=AY t h g (r:Int) (t.rs.length:Int):=by rw[hL1];unfold AY;rw[aA e]
  have hcy:=k.cb t.V (t.F+1) (t.rs++[(⟨-1,-1,t.F⟩:Rg)]) (r:Int) (t.rs.length:Int)
  have hasg:=FT (V:=t.V) (F:=t.F+1) (hs:=AY t h g (r:Int) (t.rs.length:Int)) (rs:=(t.rs++[(⟨-1,-1,t.F⟩:Rg)]).map tR) (r:=(t.rs.length:Int)) (x:=t.hs.length+1) (m:=P) hcy.2 (k.bP _ _) (fun j hj=>by
   have hm:=k.bP (r:Int) (t.rs.length:Int) _ (lN (x:=t.hs.length+1) (m:=P) (k:=j) (by simp;omega))
   rw[hsm.mf (V:=t.V) (F:=t.F+1) (rs:=t.rs++[(⟨-1,-1,t.F⟩:Rg)]) hm,Na hcy hj]) (last:=pv t g) hlast
  have hH:au (AY t h g (r:Int) (t.rs.length:Int)) ((t.hs.length+1)::P) (t.rs.length:Int)=CH t h g r P:=rfl
  rw[hH] at hasg
  simp only[bN ht,cN,hi1,hi2,pr,bD,bH,aK,eS (l:=t.hs) (i:=(h:Int)) (by omega) (by omega),eS (l:=t.hs) (i:=(g:Int)) (by omega) (by omega),jV,sO,mG,hr1,hr2,aJ,aH,d1,cK,oV hz,bT,bL,aF (n:=(t.hs.length:Int)) (i:=h) (by omega),aF (n:=(t.hs.length:Int)) (i:=g) (by omega),aY,gJ hh,gJ hg,bY,hfold,hrr,aS,hw,FP (hs:=t.hs) (by omega),←hL1,hk.br hh,hk.br hg,lkp L1 _ hl1 _ _ (by omega:pv t h<_) (by omega:t.hs.length<_),lkp (lk L1 (pv t h) t.hs.length) _ (by rw[aG,hl1]) _ _ (by omega:t.hs.length<_) (by omega:g<_),lkp (lk (lk L1 (pv t h) t.hs.length) t.hs.length g) _ (by rw[aG,aG,hl1]) _ _ (by omega:pv t g<_) (by omega:t.hs.length+1<_),lkp (lk (lk (lk L1 (pv t h) t.hs.length) t.hs.length g) (pv t g) (t.hs.length+1)) _ (by rw[aG,aG,aG,hl1]) _ _ (by omega:t.hs.length+1<_) (by omega:h<_),hLL,hasg,hd]
  rfl
theorem Nb{l m:List Hf}(he:l.length%2=0)(hl:l.length=m.length){h:Nat}(hh:h<l.length)(hg:∀y:Nat,y<l.length→y/2≠h/2→hG l y=hG m y):dE l h=dE m h:=by
 refine AO (by rw[oW,oW,hl]) fun j hj=>?_
 rw[oW] at hj
 obtain⟨a,b⟩:=N8 he hh hj
 rw[DM he hh hj,DM (by omega) (by omega) (by omega),hg _ a b,hl]
theorem CI(a b:Int)(x:Hf):gR a b x=⟨x.f,x.n,x.p,if x.r=a then b else x.r⟩:=by
 unfold gR;by_cases e:x.r=a
 ·rw[aC e,aC e]
 ·rw[aA e,aA e]
theorem Wk(X:Tp)(f:Int){r:Nat}(hr:r<X.rs.length):dR (dF X f) r=dF (dR X r) f:=by
 unfold dR dF
 simp only[dM]
 congr 1
 have hl:X.rs.length-1<X.rs.length:=by omega
 rw[BY _ hl,K9,O0]
theorem Ch(X:Tp){r i:Nat}(hr:r<X.rs.length)(hi:i<X.rs.length-1):rG (dR X r).rs i=rG X.rs (if r=i then X.rs.length-1 else i:Nat):=by
 show rG ((X.rs.set r _).take _) i=_
 rw[Ql hi,jE hr]
 by_cases e:r=i
 ·rw[aC e,aC e]
 ·rw[aA e,aA e]
theorem Nc(X:Tp){r i:Nat}(hr:r<X.rs.length)(hi:i<X.rs.length-1)(hno:¬∃k,k<X.hs.length∧(hG X.hs (k:Nat)).r=(r:Int)):(∃k,k<(dR X r).hs.length∧(hG (dR X r).hs (k:Nat)).r=(i:Int))↔∃k,k<X.hs.length∧(hG X.hs (k:Nat)).r=((if r=i then X.rs.length-1 else i:Nat):Int):=by
 have e0:(dR X r).hs=X.hs.map (gR ((X.rs.length-1:Nat):Int) (r:Int)):=rfl
 rw[e0,dM]
 constructor
 ·rintro ⟨k,hk,h⟩
  rw[vU _ hk,CI] at h
  simp only[] at h
  refine⟨k,hk,?_⟩
  by_cases e1:(hG X.hs (k:Nat)).r=((X.rs.length-1:Nat):Int)
  ·rw[aC e1] at h
   rw[aC (by omega)];exact e1
  ·rw[aA e1] at h
   by_cases e2:r=i
   ·exact absurd ⟨k,hk,by rw[h,e2]⟩ hno
   ·rw[aA e2];exact h
 ·rintro ⟨k,hk,h⟩
  refine⟨k,hk,?_⟩
  rw[vU _ hk,CI]
  simp only[]
  by_cases e2:r=i
  ·rw[aC e2] at h
   rw[aC h,e2]
  ·rw[aA e2] at h
   rw[aA (by omega)];exact h
structure Ke (t:Tp) (h u w:Nat) (c:List Nat):Prop where
 ht:CKP t
 hh:h<t.hs.length
 hu:u<t.rs.length
 hw:w<t.rs.length
 ru:(hG t.hs h).r=(u:Int)
 rw:(hG t.hs (mt h:Nat)).r=(w:Int)
 ne:u≠w
 hc:bz (nx t) (mt h) c
 hm:∀y,y∈mt h::c↔y<t.hs.length∧fC t w y=true
 na:¬(nx t h=h∧c=[])
def G5(t:Tp)(h:Nat)(l:List Hf):List Hf:=if nx t (mt h)=mt h then lk l (pv t h) (nx t h) else if nx t h=h then lk l (pv t (mt h)) (nx t (mt h)) else lk (lk l (pv t h) (nx t (mt h))) (pv t (mt h)) (nx t h)
theorem rM(t:Tp)(h:Nat)(l:List Hf):(G5 t h l).length=l.length:=by
 unfold G5;split
 ·rw[aG]
 ·split
  ·rw[aG]
  ·rw[aG,aG]
namespace Ke
variable {t:Tp} {h u w:Nat} {c:List Nat}
theorem cj(k:Ke t h u w c):mt h<t.hs.length:=kQ k.ht.e k.hh
theorem jy(k:Ke t h u w c){y:Nat}(hy:y∈c):y<t.hs.length∧(hG t.hs y).r=(w:Int)∧y≠mt h∧y≠h:=by
 have h1:=(k.hm y).1 (dY _ hy)
 have h2:=bI h1.2
 refine⟨h1.1,h2,fun e=>(dC.1 k.hc.2).1 (e▸hy),fun e=>?_⟩
 rw[e,k.ru] at h2
 have:=k.ne;omega
theorem my(k:Ke t h u w c):nx t (mt h)=mt h↔c=[]:=by
 constructor
 ·intro e
  cases c with
  | nil=>rfl
  | cons a A=>exact absurd (k.hc.1.1.symm.trans e) (k.jy (by simp)).2.2.1
 ·intro e;subst e;exact k.hc.1
theorem ld(k:Ke t h u w c)(g:Hf→Hf)(hg:∀x,(g x).f=x.f∧(g x).n=x.n∧(g x).p=x.p){l l':List Hf}(h1:l.length=t.hs.length)(h2:l'.length=t.hs.length)(y:Nat)(hy:(hG l y).f=(hG l' y).f∧(hG l y).n=(hG l' y).n∧(hG l y).p=(hG l' y).p):(hG (G5 t h l) y).f=(hG (G5 t h l') y).f∧(hG (G5 t h l) y).n=(hG (G5 t h l') y).n∧(hG (G5 t h l) y).p=(hG (G5 t h l') y).p∧(hG (G5 t h l) y).r=(hG l y).r:=by
 have hk:=k.ht.toHok
 have p1:=hk.aj k.hh
 have p2:=hk.bf k.hh
 have p3:=hk.aj k.cj
 have p4:=hk.bf k.cj
 obtain⟨a,b,d⟩:=hy
 unfold G5
 by_cases e1:nx t (mt h)=mt h
 ·rw[aC e1,aC e1,bF (by omega) (by omega),bF (by omega) (by omega)]
  simp only[a,b,d,UL]
 ·rw[aA e1,aA e1]
  by_cases e2:nx t h=h
  ·rw[aC e2,aC e2,bF (by omega) (by omega),bF (by omega) (by omega)]
   simp only[a,b,d,UL]
  ·rw[aA e2,aA e2,bF (by simp only[aG];omega) (by simp only[aG];omega),bF (by omega) (by omega),bF (by simp only[aG];omega) (by simp only[aG];omega),bF (by omega) (by omega)]
   simp only[a,b,d,UL]
theorem gq(k:Ke t h u w c){l:List Hf}(h1:l.length=t.hs.length)(y:Nat):(hG (G5 t h l) y).r=(hG l y).r:=(k.ld id (fun _=>⟨rfl,rfl,rfl⟩) h1 h1 y ⟨rfl,rfl,rfl⟩).2.2.2
theorem jz(k:Ke t h u w c){l:List Hf}(h1:l.length=t.hs.length)(h2:dr l):dr (G5 t h l):=by
 have hk:=k.ht.toHok
 have hn:=k.ht.n
 have p1:=hk.aj k.hh
 have p2:=hk.bf k.hh
 have p3:=hk.aj k.cj
 have p4:=hk.bf k.cj
 unfold G5
 split
 ·exact h2.lk (by omega) (by omega) (by omega)
 ·split
  ·exact h2.lk (by omega) (by omega) (by omega)
  ·exact(h2.lk (by omega) (by omega) (by omega)).lk (by simp only[aG];omega) (by simp only[aG];omega) (by simp only[aG];omega)
end Ke
def vW(t:Tp)(h u w:Nat):List Hf:=(G5 t h t.hs).map (gR (w:Int) (u:Int))
def NH(t:Tp)(h u w:Nat):Tp:=dR (dF ⟨t.V,t.F,dE (vW t h u w) h,t.rs⟩ (rG t.rs w).c) w
namespace Ke
variable {t:Tp} {h u w:Nat} {c:List Nat}
theorem dk(k:Ke t h u w c):(vW t h u w).length=t.hs.length:=by unfold vW;rw[dM,rM]
theorem gu(k:Ke t h u w c){y:Nat}(hy:y<t.hs.length):(hG (vW t h u w) y).r=if (hG t.hs y).r=(w:Int) then (u:Int) else (hG t.hs y).r:=by
 unfold vW
 rw[vU _ (by rw[rM];exact hy),CI,k.gq rfl]
theorem pw(k:Ke t h u w c):dr (vW t h u w):=fun y hy=>by
 rw[k.dk] at hy
 have:=k.jz rfl k.ht.toHok.kz y (by rw[rM];exact hy)
 unfold vW
 rw[vU _ (by rw[rM];exact hy),CI]
 exact this
theorem mz(k:Ke t h u w c)(i:Int):(∃j,j<(dE (vW t h u w) h).length∧(hG (dE (vW t h u w) h) (j:Nat)).r=i)↔∃y,y<t.hs.length∧y/2≠h/2∧(if (hG t.hs (y:Nat)).r=(w:Int) then (u:Int) else (hG t.hs (y:Nat)).r)=i:=by
 have h1:=Ce (hs:=vW t h u w) (by rw[k.dk];exact k.ht.e) (h:=h) (by rw[k.dk];exact k.hh) i
 rw[k.dk] at h1
 rw[h1]
 constructor
 ·rintro ⟨y,a,b,d⟩;rw[k.gu a] at d;exact⟨y,a,b,d⟩
 ·rintro ⟨y,a,b,d⟩;exact⟨y,a,b,by rw[k.gu a];exact d⟩
theorem jd(k:Ke t h u w c):¬∃j,j<(dE (vW t h u w) h).length∧(hG (dE (vW t h u w) h) (j:Nat)).r=(w:Int):=by
 rw[k.mz]
 rintro ⟨y,_,_,d⟩
 by_cases e:(hG t.hs (y:Nat)).r=(w:Int)
 ·rw[aC e] at d;have:=k.ne;omega
 ·rw[aA e] at d;exact e d
theorem kp(k:Ke t h u w c){o:Nat}(ho:o<t.rs.length)(hne:o≠w):(∃j,j<(dE (vW t h u w) h).length∧(hG (dE (vW t h u w) h) (j:Nat)).r=(o:Int))↔∃j,j<t.hs.length∧(hG t.hs (j:Nat)).r=(o:Int):=by
 have hk:=k.ht.toHok
 rw[k.mz]
 constructor
 ·rintro ⟨y,a,b,d⟩
  by_cases e:(hG t.hs (y:Nat)).r=(w:Int)
  ·rw[aC e] at d
   exact⟨h,k.hh,by rw[k.ru];exact d⟩
  ·rw[aA e] at d;exact⟨y,a,d⟩
 ·rintro ⟨y,a,d⟩
  by_cases eu:o=u
  ·subst eu
   cases c with
   | nil=>
    have hx:nx t h≠h:=fun e=>k.na ⟨e,rfl⟩
    have hr:(hG t.hs (nx t h:Nat)).r=(o:Int):=by rw[hk.rg k.hh];exact k.ru
    refine⟨nx t h,hk.bf k.hh,fun e=>?_,by rw[aA (by rw[hr];omega)];exact hr⟩
    rcases sG e with e2 | e2
    ·exact hx e2
    ·rw[e2,k.rw] at hr;omega
   | cons a A=>
    obtain⟨q1,q2,q3,q4⟩:=k.jy (y:=a) (by simp)
    refine⟨a,q1,fun e=>?_,by rw[aC q2]⟩
    rcases sG e with e2 | e2
    ·exact q4 e2
    ·exact q3 e2
  ·refine⟨y,a,fun e=>?_,by rw[aA (by rw[d];omega)];exact d⟩
   rcases sG e with e2 | e2
   ·rw[e2,k.ru] at d;omega
   ·rw[e2,k.rw] at d;omega
theorem gv(k:Ke t h u w c):(NH t h u w).rs.length=t.rs.length-1∧(NH t h u w).hs.length=2*(t.hs.length/2-1):=by
 constructor
 ·have h0:(dF ⟨t.V,t.F,dE (vW t h u w) h,t.rs⟩ (rG t.rs w).c).rs.length=t.rs.length:=by show (t.rs.map _).length=_;simp
  show (((dF ⟨t.V,t.F,dE (vW t h u w) h,t.rs⟩ (rG t.rs w).c).rs.set _ _).take _).length=_
  rw[nM,dP,h0];omega
 ·show ((dE (vW t h u w) h).map _).length=_
  rw[dM,oW,k.dk]
theorem fin(k:Ke t h u w c):lz (NH t h u w)=dn (NH t h u w):=by
 have hw:=k.hw
 refine gn fun i hi=>?_
 rw[k.gv.1] at hi
 have hx:(dF ⟨t.V,t.F,dE (vW t h u w) h,t.rs⟩ (rG t.rs w).c).rs.length=t.rs.length:=by show (t.rs.map _).length=_;simp
 have hxh:(dF ⟨t.V,t.F,dE (vW t h u w) h,t.rs⟩ (rG t.rs w).c).hs=dE (vW t h u w) h:=rfl
 have hmem:=Nc (dF ⟨t.V,t.F,dE (vW t h u w) h,t.rs⟩ (rG t.rs w).c) (r:=w) (i:=i) (by rw[hx];exact hw) (by rw[hx];exact hi) (by rw[hxh];exact k.jd)
 have hrow:=Ch (dF ⟨t.V,t.F,dE (vW t h u w) h,t.rs⟩ (rG t.rs w).c) (r:=w) (i:=i) (by rw[hx];exact hw) (by rw[hx];exact hi)
 have e1:NH t h u w=dR (dF ⟨t.V,t.F,dE (vW t h u w) h,t.rs⟩ (rG t.rs w).c) w:=rfl
 rw[e1,hmem,hrow,hx,hxh]
 have ho:(if w=i then t.rs.length-1 else i)<t.rs.length:=by split <;> omega
 have hne:(if w=i then t.rs.length-1 else i)≠w:=by
  by_cases e:w=i
  ·rw[aC e];omega
  ·rw[aA e];omega
 generalize (if w=i then t.rs.length-1 else i)=o at ho hne
 have hr2:rG (dF ⟨t.V,t.F,dE (vW t h u w) h,t.rs⟩ (rG t.rs w).c).rs o=gC (t.F-1) (rG t.rs w).c (rG t.rs o):=BY _ ho
 rw[hr2,Cf,Cg,k.kp ho hne]
 rcases k.ht.ew ho with⟨a,b,d⟩ | ⟨a,b,_⟩
 ·exact .inl ⟨a,b,by omega⟩
 ·exact .inr ⟨a,b⟩
theorem rg(k:Ke t h u w c):ei (NH t h u w).hs (NH t h u w).rs.length:=fun j hj=>by
 have hw:=k.hw
 rw[k.gv.2] at hj
 rw[k.gv.1]
 have e:(NH t h u w).hs=(dE (vW t h u w) h).map (gR (((t.rs.map (gC (t.F-1) (rG t.rs w).c)).length-1:Nat):Int) (w:Int)):=rfl
 have hl:(dE (vW t h u w) h).length=2*(t.hs.length/2-1):=by rw[oW,k.dk]
 rw[e,vU _ (by omega),CI,dM]
 have h0:ei (vW t h u w) t.rs.length:=fun y hy=>by
  rw[k.dk] at hy
  rw[k.gu hy]
  by_cases e2:(hG t.hs y).r=(w:Int)
  ·rw[aC e2];have:=k.hu;omega
  ·rw[aA e2];exact k.ht.toHok.kg y hy
 have h1:=h0.dE (by rw[k.dk];exact k.ht.e) (h:=h) (by rw[k.dk];exact k.hh) j (by omega)
 have h2:(hG (dE (vW t h u w) h) (j:Nat)).r≠(w:Int):=fun e3=>k.jd ⟨j,by omega,e3⟩
 simp only[]
 split <;> omega
theorem prog(k:Ke t h u w c):dE (G5 t h (au t.hs c (u:Int))) h=dE (vW t h u w) h:=by
 have hb:∀y∈c,y<t.hs.length:=fun y hy=>(k.jy hy).1
 refine Nb (by rw[rM,cO];exact k.ht.e) (by rw[rM,cO,k.dk]) (by rw[rM,cO];exact k.hh) fun y hy hne=>?_
 rw[rM,cO] at hy
 have hs:(hG (au t.hs c (u:Int)) y).f=(hG t.hs y).f∧(hG (au t.hs c (u:Int)) y).n=(hG t.hs y).n∧(hG (au t.hs c (u:Int)) y).p=(hG t.hs y).p:=by
  rw[eM _ _ _ _ hb]
  by_cases e:y∈c
  ·rw[aC e];exact⟨rfl,rfl,rfl⟩
  ·rw[aA e];exact⟨rfl,rfl,rfl⟩
 obtain⟨a,b,d,e⟩:=k.ld id (fun _=>⟨rfl,rfl,rfl⟩) (cO _ _ _) rfl y hs
 have hr:(hG (au t.hs c (u:Int)) y).r=if (hG t.hs y).r=(w:Int) then (u:Int) else (hG t.hs y).r:=by
  rw[eM _ _ _ _ hb]
  by_cases e1:(hG t.hs y).r=(w:Int)
  ·rw[aC e1]
   have:y∈c:=by
    rcases cJ.1 ((k.hm y).2 ⟨hy,aR e1⟩) with e2 | e2
    ·exact absurd (by rw[e2,WB]) hne
    ·exact e2
   rw[aC this]
  ·rw[aA e1,aA fun e2=>e1 (k.jy e2).2.1]
 unfold vW
 rw[vU _ (by rw[rM];exact hy),CI,k.gq rfl,←a,←b,←d,←hr,←e]
end Ke
theorem Xx{t:Tp}{hs:List Hf}(hn:hs.length≤1000)(x0:Int)(u w:Int)(f:T)(a b:Int)(x y:T):bU pO (x0,(),tI u,tI w,f,(),0,a,b,x,y,t.V,t.F,hs.map tH,t.rs.map tR,())=some (.inl (x0,(),tI w,f,(),a,b,x,y,t.V,t.F,(hs.map (gR w u)).map tH,t.rs.map tR,())):=by
 have hl:=bX (F:=pO) hs.length (fun k=>(x0,(),tI u,tI w,f,(),(k:Int),a,b,x,y,t.V,t.F,(mk (gR w u) hs k).map tH,t.rs.map tR,())) (fun k hk=>by
  have hlt:decide ((k:Int)<(hs.length:Int))=true:=aR (by omega)
  have hx:=sD hs k hk
  have hlen:(mk (gR w u) hs k).length=hs.length:=AP _ _ _
  have hg:((mk (gR w u) hs k).map tH)[k]?=some (tH (hG hs k)):=by rw[fF,xC _ _ hk,hx];rfl
  unfold pO
  simp only[aP,bT,hlen,hlt,aN,aF (n:=(hs.length:Int)) (i:=k) (by omega),bD,aY,hg,jV,aJ,aH]
  by_cases e:(hG hs k).r=w
  ·have hgx:gR w u (hG hs k)={ hG hs k with r:=u }:=aC e
   rw[←yN (gR w u) hx,hgx]
   simp only[aR e,aN,bD,bY,Hw,BX,bC,aS,wk (k:=k) (by omega)]
  ·rw[xQ (gR w u) hx (aA e)]
   simp only[aW e,aK,bD,bC,aS,wk (k:=k) (by omega)])
 have e0:(x0,(),tI u,tI w,f,(),(0:Int),a,b,x,y,t.V,t.F,hs.map tH,t.rs.map tR,())=(x0,(),tI u,tI w,f,(),((0:Nat):Int),a,b,x,y,t.V,t.F,(mk (gR w u) hs 0).map tH,t.rs.map tR,()):=by rw[vT];rfl
 rw[e0,hl]
 refine bK ?_
 have hlt:decide ((hs.length:Int)<(hs.length:Int))=false:=aW (by omega)
 unfold pO
 simp only[aP,AQ,bT,dM,hlt,aK]
theorem YY{V F:Int}{hs:List Hf}{rs:List Rg}(hn:hs.length≤1000)(hR:rs.length≤1000){r:Nat}(hr:r<rs.length):bR ((),(r:Int),V,F,hs.map tH,rs.map tR,())=some (oF (dR ⟨V,F,hs,rs⟩ r)):=Q6 (t:=⟨V,F,hs,rs⟩) hn hR hr
theorem Wl{t:Tp}{h u w:Nat}{c:List Nat}(k:Ke t h u w c)(hf:(rG t.rs w).c≠(rG t.rs u).c)(hcnt:aw (vV t (rG t.rs w).c) t.rs.length≤1):
 kV (t.V,t.F,t.hs.map tH,t.rs.map tR,(h:Int),())=some (yE (lz (NH t h u w)) 0):=by
 have ht:=k.ht
 have hk:=ht.toHok
 have hz:=hk.toSz
 have hh:=k.hh
 have hm:=k.cj
 have hu:=k.hu
 have hw:=k.hw
 have hn:=ht.n
 have he:=ht.e
 have hF0:=ht.F0
 have hF1:=ht.F1
 have hR:=ht.R
 have hV1:=ht.V1
 have p1:=hk.aj hh
 have p2:=hk.bf hh
 have p3:=hk.aj hm
 have p4:=hk.bf hm
 have hi1:rD (h:Int) (t.hs.length:Int)=true:=bZ.2 ⟨by omega,by omega⟩
 have d1:decide ((rG t.rs w).c=(rG t.rs u).c)=false:=aW hf
 have d2:decide ((1:Int)<(aw (vV t (rG t.rs w).c) t.rs.length:Int))=false:=aW (by omega)
 have lkr:∀(l:List Hf) (R:List T),l.length=t.hs.length→∀a b:Nat,a<t.hs.length→b<t.hs.length→aL (t.V,t.F,l.map tH,R,(a:Int),(b:Int),())=some ((lk l a b).map tH,R,()):=fun l R h1 a b h2 h3=>wY (by omega) (by omega)
 have hL:=rM t h t.hs
 have hkl:=Xx (t:=t) (hs:=G5 t h t.hs) (by omega) (h:Int) (u:Int) (w:Int) (tI (rG t.rs w).c) 0 0 (T.v (.slice none 0 0)) (T.v (.slice none 0 0))
 have hA:(G5 t h t.hs).map (gR (w:Int) (u:Int))=vW t h u w:=rfl
 rw[hA] at hkl
 have hdr:=V9 (V:=t.V) (F:=t.F) (rs:=t.rs.map tR) (hs:=vW t h u w) (by rw[k.dk];omega) (by rw[k.dk];exact he) (h:=h) (by rw[k.dk];exact hh) k.pw
 have hdf:=M6 (V:=t.V) (F:=t.F) (hs:=dE (vW t h u w) h) (rs:=t.rs) (by omega) (by omega) (rG t.rs w).c
 obtain⟨X,hX⟩:∃X,X=dF ⟨t.V,t.F,dE (vW t h u w) h,t.rs⟩ (rG t.rs w).c:=⟨_,rfl⟩
 have hXr:X.rs.length=t.rs.length:=by rw[hX];show (t.rs.map _).length=_;simp
 have hXh:X.hs.length≤1000:=by rw[hX];show (dE _ _).length≤_;rw[oW,k.dk];omega
 rw[←hX] at hdf
 have hdR:=Q4 (t:=X) hXh (by omega) (r:=w) (by omega)
 have hXT:dR X w=NH t h u w:=by rw[hX];rfl
 rw[hXT] at hdR
 have hls:=J4 (X:=NH t h u w) (by rw[k.gv.2];omega) (by rw[k.gv.1];omega)
 unfold kV
 by_cases e1:nx t (mt h)=mt h
 ·have hne:nx t h≠h:=fun e=>k.na ⟨e,k.my.1 e1⟩
  have b1:decide ((nx t (mt h):Int)=(mt h:Int))=true:=aR (by omega)
  have b2:decide ((nx t h:Int)=(h:Int))=false:=aW (by omega)
  have hK:G5 t h t.hs=lk t.hs (pv t h) (nx t h):=aC e1
  rw[hK] at hkl
  simp only[bM ht,fU,bT,hi1,bD,bH,aK,aN,qK (k:=h) (by omega),eS (l:=t.hs) (i:=(h:Int)) (by omega) (by omega),eS (l:=t.hs) (i:=((mt h:Nat):Int)) (by omega) (by omega),jV,mY,mG,k.ru,k.rw,gA,aJ,iK (l:=t.rs) (i:=(w:Int)) (by omega) (by omega),iK (l:=t.rs) (i:=(u:Int)) (by omega) (by omega),fN,hk.bg hh,hk.bg hm,hk.br hh,aH,d1,zG (t:=t) (by omega),aP,d2,b1,b2,mH hz,aF (n:=(t.hs.length:Int)) (i:=h) (by omega),aY,gJ hh,lkr t.hs _ rfl _ _ p1 p2,bC,hkl,hdr,hdf,oF,hdR,hls]
  rfl
 ·have b1:decide ((nx t (mt h):Int)=(mt h:Int))=false:=aW (by omega)
  by_cases e2:nx t h=h
  ·have b2:decide ((nx t h:Int)=(h:Int))=true:=aR (by omega)
   have hK:G5 t h t.hs=lk t.hs (pv t (mt h)) (nx t (mt h)):=(aA e1).trans (aC e2)
   rw[hK] at hkl
   simp only[bM ht,fU,bT,hi1,bD,bH,aK,aN,qK (k:=h) (by omega),eS (l:=t.hs) (i:=(h:Int)) (by omega) (by omega),eS (l:=t.hs) (i:=((mt h:Nat):Int)) (by omega) (by omega),jV,mY,mG,k.ru,k.rw,gA,aJ,iK (l:=t.rs) (i:=(w:Int)) (by omega) (by omega),iK (l:=t.rs) (i:=(u:Int)) (by omega) (by omega),fN,hk.bg hh,hk.bg hm,hk.br hh,hk.br hm,aH,d1,zG (t:=t) (by omega),aP,d2,b1,b2,mH hz,aF (n:=(t.hs.length:Int)) (i:=h) (by omega),aF (n:=(t.hs.length:Int)) (i:=mt h) (by omega),aY,gJ hh,gJ hm,lkr t.hs _ rfl _ _ p3 p4,bC,hkl,hdr,hdf,oF,hdR,hls]
   rfl
  ·have b2:decide ((nx t h:Int)=(h:Int))=false:=aW (by omega)
   have hK:G5 t h t.hs=lk (lk t.hs (pv t h) (nx t (mt h))) (pv t (mt h)) (nx t h):=(aA e1).trans (aA e2)
   rw[hK] at hkl
   simp only[bM ht,fU,bT,hi1,bD,bH,aK,qK (k:=h) (by omega),eS (l:=t.hs) (i:=(h:Int)) (by omega) (by omega),eS (l:=t.hs) (i:=((mt h:Nat):Int)) (by omega) (by omega),jV,mY,mG,k.ru,k.rw,gA,aJ,iK (l:=t.rs) (i:=(w:Int)) (by omega) (by omega),iK (l:=t.rs) (i:=(u:Int)) (by omega) (by omega),fN,hk.bg hh,hk.bg hm,hk.br hh,hk.br hm,aH,d1,zG (t:=t) (by omega),aP,d2,b1,b2,mH hz,aF (n:=(t.hs.length:Int)) (i:=h) (by omega),aF (n:=(t.hs.length:Int)) (i:=mt h) (by omega),aY,gJ hh,gJ hm,lkr t.hs _ rfl _ _ p1 p4,lkr (lk t.hs (pv t h) (nx t (mt h))) _ (by rw[aG]) _ _ p3 p2,bC,hkl,hdr,hdf,oF,hdR,hls]
   rfl
theorem BG{l:List Hf}{xs:List Nat}{r:Int}{a b:Nat}(hb:∀x∈xs,x<l.length)(ha:a<l.length)(hbl:b<l.length):au (lk l a b) xs r=lk (au l xs r) a b:=by
 have hb2:∀x∈xs,x<(lk l a b).length:=fun x hx=>by rw[aG];exact hb x hx
 refine AO (by rw[cO,aG,aG,cO]) fun j hj=>?_
 rw[eM _ _ _ _ hb2,bF ha hbl,bF (by rw[cO];exact ha) (by rw[cO];exact hbl),eM _ _ _ _ hb]
 by_cases e:j∈xs
 ·rw[aC e,aC e]
 ·rw[aA e,aA e]
theorem Wm{t:Tp}{h u w:Nat}{c:List Nat}(k:Ke t h u w c)(hf:(rG t.rs w).c≠(rG t.rs u).c)(hcnt:aw (vV t (rG t.rs w).c) t.rs.length≤1):
 hZ (t.V,t.F,t.hs.map tH,t.rs.map tR,(h:Int),())=some (yE (lz (NH t h u w)) 0):=by
 have ht:=k.ht
 have hk:=ht.toHok
 have hz:=hk.toSz
 have hh:=k.hh
 have hm:=k.cj
 have hu:=k.hu
 have hw:=k.hw
 have hn:=ht.n
 have he:=ht.e
 have hF0:=ht.F0
 have hF1:=ht.F1
 have hR:=ht.R
 have hV1:=ht.V1
 have p1:=hk.aj hh
 have p2:=hk.bf hh
 have p3:=hk.aj hm
 have p4:=hk.bf hm
 have hi1:rD (h:Int) (t.hs.length:Int)=true:=bZ.2 ⟨by omega,by omega⟩
 have d1:decide ((rG t.rs u).c=(rG t.rs w).c)=false:=aW fun e=>hf e.symm
 have d2:decide ((0:Int)<(aw (vV t (rG t.rs w).c) t.rs.length:Int)-1)=false:=aW (by omega)
 have lkp:∀(l:List Hf) (R:List T),l.length=t.hs.length→∀a b:Nat,a<t.hs.length→b<t.hs.length→aB ((),(a:Int),(b:Int),t.V,t.F,l.map tH,R,())=some (t.V,t.F,(lk l a b).map tH,R,()):=fun l R h1 a b h2 h3=>xA (by omega) (by omega)
 have hbc:∀y∈c,y<t.hs.length:=fun y hy=>(k.jy hy).1
 have hl2:(au t.hs c (u:Int)).length=t.hs.length:=cO _ _ _
 have hsm2:dr (G5 t h (au t.hs c (u:Int))):=k.jz hl2 (hk.kz.au hbc _)
 have hdr:=DJ (V:=t.V) (F:=t.F) (rs:=t.rs.map tR) (hs:=G5 t h (au t.hs c (u:Int))) (by rw[rM,hl2];omega) (by rw[rM,hl2];exact he) (h:=h) (by rw[rM,hl2];exact hh) hsm2
 rw[k.prog] at hdr
 have hdR:=YY (V:=t.V) (F:=t.F) (hs:=dE (vW t h u w) h) (rs:=t.rs) (by rw[oW,k.dk];omega) (by omega) (r:=w) hw
 obtain⟨X,hX⟩:∃X,X=dR ⟨t.V,t.F,dE (vW t h u w) h,t.rs⟩ w:=⟨_,rfl⟩
 have hXr:X.rs.length≤1000:=by rw[hX];show ((t.rs.set _ _).take _).length≤_;simp;omega
 have hXF:0≤X.F∧X.F≤1000:=by rw[hX];show 0≤t.F∧t.F≤1000;omega
 rw[←hX] at hdR
 have hdf:=Q5 (t:=X) hXr hXF (rG t.rs w).c
 have hXT:dF X (rG t.rs w).c=NH t h u w:=by rw[hX];exact(Wk (⟨t.V,t.F,dE (vW t h u w) h,t.rs⟩:Tp) (rG t.rs w).c hw).symm
 rw[hXT] at hdf
 have hls:=BD (V:=(NH t h u w).V) (F:=(NH t h u w).F) (hs:=(NH t h u w).hs) (rs:=(NH t h u w).rs) (by rw[k.gv.2];omega) (by rw[k.gv.1];omega) k.rg
 have hgoal:dn ⟨(NH t h u w).V,(NH t h u w).F,(NH t h u w).hs,(NH t h u w).rs⟩=lz (NH t h u w):=k.fin.symm
 unfold hZ
 by_cases e1:nx t (mt h)=mt h
 ·have hne:nx t h≠h:=fun e=>k.na ⟨e,k.my.1 e1⟩
  have hcn:=k.my.1 e1
  have b1:decide ((nx t (mt h):Int)=(mt h:Int))=true:=aR (by omega)
  have b2:decide ((nx t h:Int)=(h:Int))=false:=aW (by omega)
  have hK:G5 t h (au t.hs c (u:Int))=lk t.hs (pv t h) (nx t h):=by rw[hcn];exact aC e1
  rw[hK] at hdr
  simp only[bN ht,cN,bT,hi1,bD,bH,aK,aN,rC (k:=h) (by omega),eS (l:=t.hs) (i:=(h:Int)) (by omega) (by omega),eS (l:=t.hs) (i:=((mt h:Nat):Int)) (by omega) (by omega),jV,mY,mG,k.ru,k.rw,gA,aJ,iK (l:=t.rs) (i:=(w:Int)) (by omega) (by omega),iK (l:=t.rs) (i:=(u:Int)) (by omega) (by omega),fN,hk.bg hh,hk.bg hm,hk.br hh,hk.br hm,aH,d1,AR (t:=t) (by omega) hw,aP,d2,b1,b2,oV hz,aF (n:=(t.hs.length:Int)) (i:=h) (by omega),aF (n:=(t.hs.length:Int)) (i:=mt h) (by omega),aY,gJ hh,gJ hm,lkp t.hs _ rfl _ _ p1 p2,bC,hdr,hdR,oF,hdf,hls,hgoal]
  rw[←hgoal];rfl
 ·have b1:decide ((nx t (mt h):Int)=(mt h:Int))=false:=aW (by omega)
  cases c with
  | nil=>exact absurd (k.my.2 rfl) e1
  | cons a A=>
   have hfa:nx t (mt h)=a:=k.hc.1.1
   have hlast:pv t (mt h)=rF a A A.length:=by
    have h5:=nU (f:=nx t) (x:=mt h) (a:=a) (m:=A) k.hc.1
    rw[←hk.pn (hbc _ (lN (by simp))),h5]
   have hndc:=(dC.1 k.hc.2).2
   by_cases e2:nx t h=h
   ·have b2:decide ((nx t h:Int)=(h:Int))=true:=aR (by omega)
    have hK:G5 t h (au t.hs (a::A) (u:Int))=au (lk t.hs (pv t (mt h)) (nx t (mt h))) (a::A) (u:Int):=by
     rw[BG hbc p3 p4]
     exact(aA e1).trans (aC e2)
    rw[hK] at hdr
    have hasg:=FT (V:=t.V) (F:=t.F) (hs:=lk t.hs (pv t (mt h)) (nx t (mt h))) (rs:=t.rs.map tR) (r:=(u:Int)) (x:=a) (m:=A) hndc (fun y hy=>by rw[aG];exact hbc y hy) (fun j hj=>by
     have hyl:=hbc _ (lN (x:=a) (m:=A) (k:=j) (by simp;omega))
     rw[bF p3 p4]
     have hne:pv t (mt h)≠rF a A j:=fun e=>by
      rw[hlast] at e
      have i1:(a::A)[A.length]?=some (rF a A A.length):=by rw[dH (by simp),FR]
      have i2:(a::A)[j]?=some (rF a A A.length):=by rw[dH (by simp;omega),FR,e]
      have:=GM hndc i1 i2
      omega
     simp only[aA hne]
     rw[hk.bg hyl,G3 k.hc.1 hj]) (last:=pv t (mt h)) hlast
    have hasg':aV ((),(nx t (mt h):Int),(pv t (mt h):Int),(u:Int),t.V,t.F,(lk t.hs (pv t (mt h)) (nx t (mt h))).map tH,t.rs.map tR,())=some (t.V,t.F,(au (lk t.hs (pv t (mt h)) (nx t (mt h))) (a::A) (u:Int)).map tH,t.rs.map tR,()):=by
     have h9:=hasg
     rw[←hfa] at h9 ⊢
     exact h9
    simp only[bN ht,cN,bT,hi1,bD,bH,aK,aN,rC (k:=h) (by omega),eS (l:=t.hs) (i:=(h:Int)) (by omega) (by omega),eS (l:=t.hs) (i:=((mt h:Nat):Int)) (by omega) (by omega),jV,mY,mG,k.ru,k.rw,gA,aJ,iK (l:=t.rs) (i:=(w:Int)) (by omega) (by omega),iK (l:=t.rs) (i:=(u:Int)) (by omega) (by omega),fN,hk.bg hh,hk.bg hm,hk.br hh,hk.br hm,aH,d1,AR (t:=t) (by omega) hw,aP,d2,b1,b2,oV hz,aF (n:=(t.hs.length:Int)) (i:=h) (by omega),aF (n:=(t.hs.length:Int)) (i:=mt h) (by omega),aY,gJ hh,gJ hm,lkp t.hs _ rfl _ _ p3 p4,hasg',bC,hdr,hdR,oF,hdf,hls]
    rw[←hgoal];rfl
   ·have b2:decide ((nx t h:Int)=(h:Int))=false:=aW (by omega)
    have hK:G5 t h (au t.hs (a::A) (u:Int))=lk (lk (au t.hs (a::A) (u:Int)) (pv t h) (nx t (mt h))) (pv t (mt h)) (nx t h):=(aA e1).trans (aA e2)
    rw[hK] at hdr
    have hasg:=FT (V:=t.V) (F:=t.F) (hs:=t.hs) (rs:=t.rs.map tR) (r:=(u:Int)) (x:=a) (m:=A) hndc hbc (fun j hj=>by
     have hyl:=hbc _ (lN (x:=a) (m:=A) (k:=j) (by simp;omega))
     rw[hk.bg hyl,G3 k.hc.1 hj]) (last:=pv t (mt h)) hlast
    have hasg':aV ((),(nx t (mt h):Int),(pv t (mt h):Int),(u:Int),t.V,t.F,t.hs.map tH,t.rs.map tR,())=some (t.V,t.F,(au t.hs (a::A) (u:Int)).map tH,t.rs.map tR,()):=by
     rw[hfa];exact hasg
    simp only[bN ht,cN,bT,hi1,bD,bH,aK,rC (k:=h) (by omega),eS (l:=t.hs) (i:=(h:Int)) (by omega) (by omega),eS (l:=t.hs) (i:=((mt h:Nat):Int)) (by omega) (by omega),jV,mY,mG,k.ru,k.rw,gA,aJ,iK (l:=t.rs) (i:=(w:Int)) (by omega) (by omega),iK (l:=t.rs) (i:=(u:Int)) (by omega) (by omega),fN,hk.bg hh,hk.bg hm,hk.br hh,hk.br hm,aH,d1,AR (t:=t) (by omega) hw,aP,d2,b1,b2,oV hz,aF (n:=(t.hs.length:Int)) (i:=h) (by omega),aF (n:=(t.hs.length:Int)) (i:=mt h) (by omega),aY,gJ hh,gJ hm,hasg',lkp (au t.hs (a::A) (u:Int)) _ hl2 _ _ p1 p4,lkp (lk (au t.hs (a::A) (u:Int)) (pv t h) (nx t (mt h))) _ (by rw[aG,hl2]) _ _ p3 p2,bC,hdr,hdR,oF,hdf,hls]
    rw[←hgoal];rfl
end Go.Eng.Tl
set_option linter.unusedSectionVars false
namespace Go.Eng.Tl
open Go.Eng
theorem KB{n h k:Nat}:dD n (B1 h) k↔k<n∧k/2≠h/2:=by
 rw[fY]
 have:=kP h
 have:=mZ h
 constructor
 ·rintro ⟨h1,h2,h3⟩;exact⟨h1,by omega⟩
 ·rintro ⟨h1,h2⟩;exact⟨h1,by omega,by omega⟩
theorem Nf{n h:Nat}(he:n%2=0)(hh:h<n):ie n (B1 h) (2*(n/2-1)) (fun _=>true) (Q7 n h) (Ml (h/2) (n/2-1)):=by
 refine⟨fun k hk=>?_,fun j hj=>?_,fun k hk=>?_,fun j hj=>?_⟩
 ·obtain⟨h1,h2⟩:=KB.1 hk
  refine⟨?_,rfl⟩
  unfold Ml;split <;> omega
 ·exact KB.2 (N8 he hh hj.1)
 ·obtain⟨h1,h2⟩:=KB.1 hk
  unfold Q7 Ml
  by_cases e:k/2=n/2-1
  ·rw[aC e,aC (by omega)];omega
  ·rw[aA e,aA h2]
 ·have:=hj.1
  unfold Q7 Ml
  by_cases e:j/2=h/2
  ·rw[aC e,aC (by omega)];omega
  ·rw[aA e,aA (by omega)]
theorem Uf{n h k:Nat}:Ml (h/2) (n/2-1) (mt k)=mt (Ml (h/2) (n/2-1) k):=by
 have h1:=kP k
 have h2:=mZ k
 unfold Ml
 by_cases e:k/2=n/2-1
 ·rw[aC e,aC (by omega)]
  have:=kP (2*(h/2)+k%2)
  have:=mZ (2*(h/2)+k%2)
  omega
 ·rw[aA e,aA (by omega)]
theorem Ng{X:Tp}{R V F:Nat→Bool}{h:Nat}(he:X.hs.length%2=0)(hh:h<X.hs.length)(hw:WV (bA X) ⟨B1 h,R,V,F⟩):WV (bA { X with hs:=dE X.hs h }) ⟨fun _=>true,R,V,F⟩:=by
 have e1:(bA { X with hs:=dE X.hs h }).n=2*(X.hs.length/2-1):=oW _ _
 have h1:=hw.nf (m:=bA X) (Nf he hh) (fun k _=>Uf) (f:=(bA { X with hs:=dE X.hs h }).f) (r:=(bA { X with hs:=dE X.hs h }).r) (nx:=(bA { X with hs:=dE X.hs h }).nx) (pv:=(bA { X with hs:=dE X.hs h }).pv)
  (fun j hj=>by show (hG (dE X.hs h) j).f.toNat=_;rw[DM he hh hj.1];rfl) (fun j hj=>by show (hG (dE X.hs h) j).r.toNat=_;rw[DM he hh hj.1];rfl)
  (fun j hj=>by show (hG (dE X.hs h) j).n.toNat=_;rw[DM he hh hj.1];rfl) (fun j hj=>by show (hG (dE X.hs h) j).p.toNat=_;rw[DM he hh hj.1];rfl)
 have e:bA { X with hs:=dE X.hs h }={ bA X with n:=2*(X.hs.length/2-1),f:=(bA { X with hs:=dE X.hs h }).f,r:=(bA { X with hs:=dE X.hs h }).r,nx:=(bA { X with hs:=dE X.hs h }).nx,pv:=(bA { X with hs:=dE X.hs h }).pv }:=by
  rw[←e1];rfl
 rw[e];exact h1
theorem Nh{X:Tp}{R V F:Nat→Bool}{h:Nat}(he:X.hs.length%2=0)(hh:h<X.hs.length)(hn:NN X ⟨B1 h,R,V,F⟩):NN { X with hs:=dE X.hs h } ⟨fun _=>true,R,V,F⟩:=
 ⟨fun k hk=>by
  have hk:k<2*(X.hs.length/2-1):=by have:=hk.1;rwa[show ({ X with hs:=dE X.hs h }:Tp).hs=dE X.hs h from rfl,oW] at this
  obtain⟨a,b,c,d⟩:=hn.h _ (KB.2 (N8 he hh hk))
  show 0≤(hG (dE X.hs h) k).f∧0≤(hG (dE X.hs h) k).n∧0≤(hG (dE X.hs h) k).p∧0≤(hG (dE X.hs h) k).r
  rw[DM he hh hk]
  exact⟨a,by show (0:Int)≤((_:Nat):Int);omega,by show (0:Int)≤((_:Nat):Int);omega,d⟩,hn.c⟩
theorem Y3(a b:Int)(x:Hf):gF a b x=⟨if x.f=a then b else x.f,x.n,x.p,x.r⟩:=by
 unfold gF;by_cases e:x.f=a
 ·rw[aC e,aC e]
 ·rw[aA e,aA e]
theorem Et(a b:Int)(x:Rg):gV a b x=⟨x.h,if x.v=a then b else x.v,x.c⟩:=by
 unfold gV;by_cases e:x.v=a
 ·rw[aC e,aC e]
 ·rw[aA e,aA e]
theorem Eu(a b:Int)(x:Rg):gC a b x=⟨x.h,x.v,if x.c=a then b else x.c⟩:=by
 unfold gC;by_cases e:x.c=a
 ·rw[aC e,aC e]
 ·rw[aA e,aA e]
theorem Wn{X:Tp}{R F:Nat→Bool}{v:Int}(hv:0≤v∧v<X.V)(hn:NN X ⟨fun _=>true,R,fun u=>decide (u≠v.toNat),F⟩)(hw:WV (bA X) ⟨fun _=>true,R,fun u=>decide (u≠v.toNat),F⟩):
 WV (bA (dV X v)) ⟨fun _=>true,R,fun _=>true,F⟩∧NN (dV X v) ⟨fun _=>true,R,fun _=>true,F⟩:=by
 have lh:(dV X v).hs.length=X.hs.length:=dM ..
 have lr:(dV X v).rs.length=X.rs.length:=dM ..
 have gh:∀k,k<X.hs.length→hG (dV X v).hs (k:Nat)=gF (X.V-1) v (hG X.hs k):=fun k hk=>vU _ hk
 have gr:∀q,q<X.rs.length→rG (dV X v).rs (q:Nat)=gV (X.V-1) v (rG X.rs q):=fun q hq=>BY _ hq
 refine⟨?_,⟨fun k hk=>?_,fun q hq=>?_⟩⟩
 ·have hren:=J8 (n:=X.V.toNat) (x:=v.toNat) (by omega) (P:=fun u=>decide (u≠v.toNat)) fun k hk=>by rw[bE]
  have h0:WV { bA X with f:=(bA X).f,r:=(bA (dV X v)).r,nx:=(bA (dV X v)).nx,pv:=(bA (dV X v)).pv,al:=(bA (dV X v)).al,rv:=(bA X).rv,rc:=(bA (dV X v)).rc } ⟨fun _=>true,R,fun u=>decide (u≠v.toNat),F⟩:=hw.congr (fun _ _=>rfl)
   (fun k hk=>by show (hG (dV X v).hs k).r.toNat=_;rw[gh k hk.1,Y3];rfl) (fun k hk=>by show (hG (dV X v).hs k).n.toNat=_;rw[gh k hk.1,Y3];rfl) (fun k hk=>by show (hG (dV X v).hs k).p.toNat=_;rw[gh k hk.1,Y3];rfl)
   (fun q hq=>by show decide ((rG (dV X v).rs q).h=-1)=_;rw[gr q hq.1,Et];rfl) (fun _ _ _=>rfl) (fun q hq=>by show (rG (dV X v).rs q).c.toNat=_;rw[gr q hq.1,Et];rfl)
  have h1:=h0.lx hren (f:=(bA (dV X v)).f) (rv:=(bA (dV X v)).rv) (fun k hk=>by
   have h3:=(hn.h k hk).1
   show (hG (dV X v).hs k).f.toNat=if (hG X.hs k).f.toNat=X.V.toNat-1 then v.toNat else (hG X.hs k).f.toNat
   rw[gh k hk.1,Y3]
   show (if (hG X.hs k).f=X.V-1 then v else (hG X.hs k).f).toNat=_
   by_cases e:(hG X.hs k).f=X.V-1
   ·rw[aC e,aC (by omega)]
   ·rw[aA e,aA (by omega)]) (fun q hq hl=>by
   have hl:decide ((rG (dV X v).rs q).h=-1)=true:=hl
   rw[gr q hq.1,Wf] at hl
   have h4:0≤(rG X.rs q).v:=by
    rcases(hn.c q hq).2 with h4 | h4
    ·exact h4.2
    ·exact absurd (bI hl) h4.1
   show (rG (dV X v).rs q).v.toNat=if (rG X.rs q).v.toNat=X.V.toNat-1 then v.toNat else (rG X.rs q).v.toNat
   rw[gr q hq.1,Et]
   show (if (rG X.rs q).v=X.V-1 then v else (rG X.rs q).v).toNat=_
   by_cases e:(rG X.rs q).v=X.V-1
   ·rw[aC e,aC (by omega)]
   ·rw[aA e,aA (by omega)])
  have e:bA (dV X v)={ bA X with V:=X.V.toNat-1,f:=(bA (dV X v)).f,r:=(bA (dV X v)).r,nx:=(bA (dV X v)).nx,pv:=(bA (dV X v)).pv,al:=(bA (dV X v)).al,rv:=(bA (dV X v)).rv,rc:=(bA (dV X v)).rc }:=by
   show Mp.mk _ _ _ _ _ _ _ _ _ _ _=Mp.mk _ _ _ _ _ _ _ _ _ _ _
   congr 1
   show (X.V-1).toNat=X.V.toNat-1
   omega
  rw[e];exact h1
 ·have hk':k<X.hs.length:=by rw[←lh];exact hk.1
  obtain⟨a,b,c,d⟩:=hn.h k ⟨hk',rfl⟩
  rw[gh k hk',Y3]
  refine⟨?_,b,c,d⟩
  show 0≤(if (hG X.hs k).f=X.V-1 then v else (hG X.hs k).f)
  split <;> omega
 ·have hq':q<X.rs.length:=by rw[←lr];exact hq.1
  obtain⟨a,b⟩:=hn.c q ⟨hq',hq.2⟩
  rw[gr q hq',Et]
  refine⟨a,?_⟩
  show ((rG X.rs q).h=-1∧0≤(if (rG X.rs q).v=X.V-1 then v else (rG X.rs q).v))∨((rG X.rs q).h≠-1∧(if (rG X.rs q).v=X.V-1 then v else (rG X.rs q).v)=-1)
  rcases b with⟨b1,b2⟩ | ⟨b1,b2⟩
  ·exact .inl ⟨b1,by split <;> omega⟩
  ·exact .inr ⟨b1,by rw[aA (by omega)];exact b2⟩
end Go.Eng.Tl
set_option linter.unusedSectionVars false
namespace Go.Eng.Tl
open Go.Eng
theorem Wo{X:Tp}{L R V:Nat→Bool}{c:Int}(hc:0≤c∧c<X.F)(hn:NN X ⟨L,R,V,fun u=>decide (u≠c.toNat)⟩)(hw:WV (bA X) ⟨L,R,V,fun u=>decide (u≠c.toNat)⟩):
 WV (bA (dF X c)) ⟨L,R,V,fun _=>true⟩∧NN (dF X c) ⟨L,R,V,fun _=>true⟩:=by
 have lr:(dF X c).rs.length=X.rs.length:=dM ..
 have gr:∀q,q<X.rs.length→rG (dF X c).rs (q:Nat)=gC (X.F-1) c (rG X.rs q):=fun q hq=>BY _ hq
 refine⟨?_,⟨fun k hk=>hn.h k hk,fun q hq=>?_⟩⟩
 ·have hren:=J8 (n:=X.F.toNat) (x:=c.toNat) (by omega) (P:=fun u=>decide (u≠c.toNat)) fun k hk=>by rw[bE]
  have h0:WV { bA X with f:=(bA X).f,r:=(bA X).r,nx:=(bA X).nx,pv:=(bA X).pv,al:=(bA (dF X c)).al,rv:=(bA (dF X c)).rv,rc:=(bA X).rc } ⟨L,R,V,fun u=>decide (u≠c.toNat)⟩:=hw.congr (fun _ _=>rfl) (fun _ _=>rfl) (fun _ _=>rfl) (fun _ _=>rfl)
   (fun q hq=>by show decide ((rG (dF X c).rs q).h=-1)=_;rw[gr q hq.1,Eu];rfl) (fun q hq _=>by show (rG (dF X c).rs q).v.toNat=_;rw[gr q hq.1,Eu];rfl) (fun _ _=>rfl)
  have h1:=h0.ly hren (rc:=(bA (dF X c)).rc) (fun q hq=>by
   have h3:=(hn.c q hq).1
   show (rG (dF X c).rs q).c.toNat=if (rG X.rs q).c.toNat=X.F.toNat-1 then c.toNat else (rG X.rs q).c.toNat
   rw[gr q hq.1,Eu]
   show (if (rG X.rs q).c=X.F-1 then c else (rG X.rs q).c).toNat=_
   by_cases e:(rG X.rs q).c=X.F-1
   ·rw[aC e,aC (by omega)]
   ·rw[aA e,aA (by omega)])
  have e:bA (dF X c)={ bA X with F:=X.F.toNat-1,al:=(bA (dF X c)).al,rv:=(bA (dF X c)).rv,rc:=(bA (dF X c)).rc }:=by
   show Mp.mk _ _ _ _ _ _ _ _ _ _ _=Mp.mk _ _ _ _ _ _ _ _ _ _ _
   congr 1
   show (X.F-1).toNat=X.F.toNat-1
   omega
  rw[e];exact h1
 ·have hq':q<X.rs.length:=by rw[←lr];exact hq.1
  obtain⟨a,b⟩:=hn.c q ⟨hq',hq.2⟩
  rw[gr q hq',Eu]
  refine⟨?_,b⟩
  show 0≤(if (rG X.rs q).c=X.F-1 then c else (rG X.rs q).c)
  split <;> omega
theorem Rt{X:Tp}{L V F:Nat→Bool}{w:Nat}(hr:w<X.rs.length)(hn:NN X ⟨L,fun q=>decide (q≠w),V,F⟩)(hw:WV (bA X) ⟨L,fun q=>decide (q≠w),V,F⟩):
 WV (bA (dR X w)) ⟨L,fun _=>true,V,F⟩∧NN (dR X w) ⟨L,fun _=>true,V,F⟩:=by
 have lh:(dR X w).hs.length=X.hs.length:=dM ..
 have lr:(dR X w).rs.length=X.rs.length-1:=by show ((X.rs.set w _).take _).length=_;rw[nM,dP];omega
 have gh:∀k,k<X.hs.length→hG (dR X w).hs (k:Nat)=gR ((X.rs.length-1:Nat):Int) (w:Int) (hG X.hs k):=fun k hk=>vU _ hk
 have gr:∀i,i<X.rs.length-1→rG (dR X w).rs (i:Nat)=rG X.rs (if i=w then X.rs.length-1 else i:Nat):=fun i hi=>by
  rw[Ch X hr hi]
  by_cases e:i=w
  ·rw[aC e.symm,aC e]
  ·rw[aA fun e2=>e e2.symm,aA e]
 have hren:=J8 (n:=X.rs.length) (x:=w) hr (P:=fun u=>decide (u≠w)) fun k hk=>by rw[bE]
 refine⟨?_,⟨fun k hk=>?_,fun q hq=>?_⟩⟩
 ·have h0:WV { bA X with f:=(bA (dR X w)).f,r:=(bA X).r,nx:=(bA (dR X w)).nx,pv:=(bA (dR X w)).pv,al:=(bA X).al,rv:=(bA X).rv,rc:=(bA X).rc } ⟨L,fun q=>decide (q≠w),V,F⟩:=hw.congr
   (fun k hk=>by show (hG (dR X w).hs k).f.toNat=_;rw[gh k hk.1,CI];rfl) (fun _ _=>rfl) (fun k hk=>by show (hG (dR X w).hs k).n.toNat=_;rw[gh k hk.1,CI];rfl) (fun k hk=>by show (hG (dR X w).hs k).p.toNat=_;rw[gh k hk.1,CI];rfl)
   (fun _ _=>rfl) (fun _ _ _=>rfl) (fun _ _=>rfl)
  have h1:=h0.ji hren (r:=(bA (dR X w)).r) (al:=(bA (dR X w)).al) (rv:=(bA (dR X w)).rv) (rc:=(bA (dR X w)).rc) (fun k hk=>by
   have h3:=(hn.h k hk).2.2.2
   show (hG (dR X w).hs k).r.toNat=if (hG X.hs k).r.toNat=X.rs.length-1 then w else (hG X.hs k).r.toNat
   rw[gh k hk.1,CI]
   show (if (hG X.hs k).r=((X.rs.length-1:Nat):Int) then (w:Int) else (hG X.hs k).r).toNat=_
   by_cases e:(hG X.hs k).r=((X.rs.length-1:Nat):Int)
   ·rw[aC e,aC (by omega)];rfl
   ·rw[aA e,aA (by omega)])
   (fun j hj=>by show decide ((rG (dR X w).rs j).h=-1)=_;rw[gr j hj.1];rfl) (fun j hj _=>by show (rG (dR X w).rs j).v.toNat=_;rw[gr j hj.1];rfl) (fun j hj=>by show (rG (dR X w).rs j).c.toNat=_;rw[gr j hj.1];rfl)
  have e:bA (dR X w)={ bA X with n:=(dR X w).hs.length,R:=X.rs.length-1,f:=(bA (dR X w)).f,r:=(bA (dR X w)).r,nx:=(bA (dR X w)).nx,pv:=(bA (dR X w)).pv,al:=(bA (dR X w)).al,rv:=(bA (dR X w)).rv,rc:=(bA (dR X w)).rc }:=by
   rw[←lr];rfl
  rw[e,lh];exact h1
 ·have hk':k<X.hs.length:=by rw[←lh];exact hk.1
  obtain⟨a,b,c,d⟩:=hn.h k ⟨hk',hk.2⟩
  rw[gh k hk',CI]
  refine⟨a,b,c,?_⟩
  show 0≤(if (hG X.hs k).r=((X.rs.length-1:Nat):Int) then (w:Int) else (hG X.hs k).r)
  split <;> omega
 ·have hq':q<X.rs.length-1:=by rw[←lr];exact hq.1
  rw[gr q hq']
  exact hn.c _ (hren.fr q ⟨hq',rfl⟩)
end Go.Eng.Tl
set_option linter.unusedSectionVars false
namespace Go.Eng.Tl
open Go.Eng
theorem WV.alive{m:Mp}{a:cy}(h:WV m a){R V F:Nat→Bool}(hR:∀q,q<m.R→a.R q=R q)(hV:∀q,q<m.V→a.V q=V q)(hF:∀q,q<m.F→a.F q=F q):WV m ⟨a.L,R,V,F⟩:=by
 have rn:∀(n:Nat) (P Q:Nat→Bool),(∀q,q<n→P q=Q q)→ie n P n Q id id:=fun n P Q hh=>⟨fun k hk=>⟨hk.1,by rw[show id k=k from rfl,←hh k hk.1];exact hk.2⟩,fun k hk=>⟨hk.1,by rw[show id k=k from rfl,hh k hk.1];exact hk.2⟩,fun _ _=>rfl,fun _ _=>rfl⟩
 have h1:=h.ji (rn m.R a.R R hR) (r:=m.r) (al:=m.al) (rv:=m.rv) (rc:=m.rc) (fun _ _=>rfl) (fun _ _=>rfl) (fun _ _ _=>rfl) (fun _ _=>rfl)
 have h2:=h1.lx (rn m.V a.V V hV) (f:=m.f) (rv:=m.rv) (fun _ _=>rfl) (fun _ _ _=>rfl)
 exact h2.ly (rn m.F a.F F hF) (rc:=m.rc) (fun _ _=>rfl)
theorem WV.nm{m:Mp}{a:cy}(h:WV m a){V':Nat}(hV:m.V≤V'):WV { m with V:=V' } { a with V:=fun u=>a.V u&&decide (u<m.V) }:=
 h.lx (s:=id) (i:=id) ⟨fun k hk=>⟨KX hk.1 hV,by show (a.V k&&decide (k<m.V))=true;rw[cS,bE];exact⟨hk.2,hk.1⟩⟩,fun k hk=>⟨bI (iC.1 hk.2).2,(iC.1 hk.2).1⟩,fun _ _=>rfl,fun _ _=>rfl⟩ (f:=m.f) (rv:=m.rv) (fun _ _=>rfl) (fun _ _ _=>rfl)
theorem Ni{t:Tp}(ht:CKP t){r:Nat}(hr:r<t.rs.length)(hs:(rG t.rs r).h=-1)(hn:t.hs.length+2≤256)(hV:t.V+1≤257):CKP (lz (iP t r)):=by
 obtain⟨hw,nn⟩:=ht.wv
 have hV0:=ht.V0
 have hv:=(FU ht hr hs).1
 have he:=ht.e
 have hset:∀q:Nat,rG (iP t r).rs q=if r=q then { rG t.rs r with h:=(t.hs.length:Int),v:=-1 } else rG t.rs q:=fun q=>jE hr
 have hlr:(iP t r).rs.length=t.rs.length:=dP ..
 refine WV.fp { n:=by rw[nB];exact hn,e:=by rw[nB];omega,V0:=by show (1:Int)≤t.V+1;omega,V1:=hV,F0:=ht.F0,F1:=ht.F1,R:=by rw[hlr];exact ht.R } ⟨fun k hk=>?_,fun q hq=>?_⟩ ?_
 ·have hk:k<t.hs.length+2:=by rw[←nB t r];exact hk.1
  by_cases e1:k<t.hs.length
  ·rw[uB e1];exact nn.h k ⟨e1,rfl⟩
  ·by_cases e2:k=t.hs.length
   ·rw[e2,vR];exact⟨hv,by show (0:Int)≤((_:Nat):Int);omega,by show (0:Int)≤((_:Nat):Int);omega,by show (0:Int)≤(r:Int);omega⟩
   ·have e3:k=t.hs.length+1:=by omega
    rw[e3,xB];exact⟨by show 0≤t.V;omega,by show (0:Int)≤((_:Nat):Int);omega,by show (0:Int)≤((_:Nat):Int);omega,by show (0:Int)≤(r:Int);omega⟩
 ·have hq':q<t.rs.length:=by rw[←hlr];exact hq.1
  obtain⟨n1,n2⟩:=nn.c q ⟨hq',rfl⟩
  rw[hset q]
  by_cases e:r=q
  ·rw[aC e]
   exact⟨by show 0≤(rG t.rs r).c;rw[e];exact n1,.inr ⟨by show (t.hs.length:Int)≠-1;omega,rfl⟩⟩
  ·rw[aA e];exact⟨n1,n2⟩
 ·have h1:=hw.nm (V':=t.V.toNat+1) (by show t.V.toNat≤_;omega)
  have h2:=h1.lj (m:={ bA t with V:=t.V.toNat+1 }) (R:=fun _=>true) (F:=fun _=>true) (q:=r) (w:=t.V.toNat) he ⟨hr,rfl⟩ (aR hs) (by show t.V.toNat<t.V.toNat+1;omega) (by show (true&&decide (t.V.toNat<t.V.toNat))=false;rw[fM];exact aW (by omega))
   (f:=(bA (iP t r)).f) (nx:=(bA (iP t r)).nx) (pv:=(bA (iP t r)).pv) (r:=(bA (iP t r)).r) (al:=(bA (iP t r)).al) (rv:=(bA (iP t r)).rv)
   {
    f0:=fun k hk=>by show (hG (iP t r).hs k).f.toNat=_;rw[uB hk];rfl,
    fx:=by show (hG (iP t r).hs (t.hs.length:Nat)).f.toNat=_;rw[vR];rfl,
    fy:=by show (hG (iP t r).hs ((t.hs.length+1:Nat):Int)).f.toNat=_;rw[xB],
    n0:=fun k hk=>by show (hG (iP t r).hs k).n.toNat=_;rw[uB hk];rfl,
    n1:=by show (hG (iP t r).hs (t.hs.length:Nat)).n.toNat=_;rw[vR];rfl,
    n2:=by show (hG (iP t r).hs ((t.hs.length+1:Nat):Int)).n.toNat=_;rw[xB];rfl,
    p0:=fun k hk=>by show (hG (iP t r).hs k).p.toNat=_;rw[uB hk];rfl,
    p1:=by show (hG (iP t r).hs (t.hs.length:Nat)).p.toNat=_;rw[vR];rfl,
    p2:=by show (hG (iP t r).hs ((t.hs.length+1:Nat):Int)).p.toNat=_;rw[xB];rfl,
    r0:=fun k hk=>by show (hG (iP t r).hs k).r.toNat=_;rw[uB hk];rfl,
    rx:=by show (hG (iP t r).hs (t.hs.length:Nat)).r.toNat=_;rw[vR];rfl,
    ry:=by show (hG (iP t r).hs ((t.hs.length+1:Nat):Int)).r.toNat=_;rw[xB];rfl,
    aq:=by show decide ((rG (iP t r).rs r).h=-1)=false;rw[hset r,aC rfl];exact aW (by show ¬(t.hs.length:Int)=-1;omega),
    a0:=fun p hp hne=>by show decide ((rG (iP t r).rs p).h=-1)=_;rw[hset p,aA (fun e=>hne e.symm)];rfl,
    v0:=fun p hp hne _=>by show (rG (iP t r).rs p).v.toNat=_;rw[hset p,aA (fun e=>hne e.symm)];rfl }
  have h3:=h2.alive (R:=fun _=>true) (V:=fun _=>true) (F:=fun _=>true) (fun _ _=>rfl) (fun u hu=>by
   have hu:u<t.V.toNat+1:=hu
   show ((true&&decide (u<t.V.toNat))||decide (u=t.V.toNat))=true
   rw[fM,oB,bE,bE];omega) (fun _ _=>rfl)
  have h4:=h3.gw (al:=(bA (iP t r)).al) (rv:=(bA (iP t r)).rv) (rc:=(bA (iP t r)).rc) (fun _ _=>rfl) (fun _ _ _=>rfl) (fun q hq=>by
   show (rG (iP t r).rs q).c.toNat=(rG t.rs q).c.toNat
   rw[hset q]
   by_cases e:r=q
   ·rw[aC e,←e]
   ·rw[aA e])
  have e:bA (iP t r)={ bA t with n:=t.hs.length+2,V:=t.V.toNat+1,f:=(bA (iP t r)).f,r:=(bA (iP t r)).r,nx:=(bA (iP t r)).nx,pv:=(bA (iP t r)).pv,al:=(bA (iP t r)).al,rv:=(bA (iP t r)).rv,rc:=(bA (iP t r)).rc }:=by
   show Mp.mk _ _ _ _ _ _ _ _ _ _ _=Mp.mk _ _ _ _ _ _ _ _ _ _ _
   congr 1
   ·exact nB t r
   ·show (t.V+1).toNat=t.V.toNat+1
    omega
  rw[e];exact h4
def fZ(n:Nat)(g:Nat→Int):List T:=(List.range n).map fun v=>tI (g v)
theorem L9(n:Nat)(g:Nat→Int):(fZ n g).length=n:=by simp[fZ]
theorem yP{n:Nat}{g:Nat→Int}{v:Nat}(h:v<n):(fZ n g)[v]?=some (tI (g v)):=by simp[fZ,h]
theorem Nx{n:Nat}{g:Nat→Int}{v:Nat}(h:v<n):dA (fZ n g) (v:Int)=some (tI (g v)):=by rw[AI,yP h]
theorem tF{n:Nat}{g g':Nat→Int}(h:∀v,v<n→g v=g' v):fZ n g=fZ n g':=by
 unfold fZ
 refine OJ fun v hv=>?_
 rw[h v (uM.1 hv)]
theorem MA{n:Nat}{g:Nat→Int}{v:Nat}{x:Int}:(fZ n g).set v (tI x)=fZ n (fun w=>if w=v then x else g w):=by
 refine EU fun i=>?_
 rw[qO]
 by_cases hi:i<n
 ·rw[yP (g:=fun w=>if w=v then x else g w) hi]
  by_cases e:v=i
  ·subst e
   rw[aC rfl,aC (by rw[L9];exact hi)]
   exact fG (fun z=>some (tI z)) (aC rfl).symm
  ·rw[aA e,yP hi]
   exact fG (fun z=>some (tI z)) (aA (fun h:i=v=>e h.symm)).symm
 ·have h1:(fZ n g)[i]?=none:=tJ (by rw[L9];omega)
  have h2:(fZ n (fun w=>if w=v then x else g w))[i]?=none:=tJ (by rw[L9];omega)
  rw[h1,h2]
  split
  ·split
   ·rename_i h3 h4;rw[L9] at h4;omega
   ·rfl
  ·rfl
theorem Ck(n:Nat)(c:Int):List.replicate n (tI c)=fZ n (fun _=>c):=by
 unfold fZ
 rw[List.map_const',O1]
theorem vX(n:Nat)(g:Nat→Int):aI (fZ n g)=(n:Int):=by rw[jK,L9]
theorem SH{n i:Nat}(h:i<n):aZ (n:Int) (i:Int)=some i:=aF (by omega)
theorem Yy(a b:Nat):R5 false (a:Int) (b:Int)=((min a b:Nat):Int):=by
 unfold R5;simp only[nL,iD];omega
def ff(t:Tp)(k:Nat):Nat:=(rG t.rs (hG t.hs k).r).c.toNat
def nF(t:Tp):Nat:=t.F.toNat
theorem CKP.ia{t:Tp}(h:CKP t){k:Nat}(hk:k<t.hs.length):(rG t.rs (hG t.hs k).r).c=(ff t k:Int)∧ff t k<nF t:=by
 obtain⟨_,_,_,h1,h2⟩:=iS.1 (h.b1 k hk)
 obtain⟨r,hr⟩:∃r:Nat,(hG t.hs k).r=(r:Int):=⟨(hG t.hs k).r.toNat,by omega⟩
 have:=h.rc r (by omega)
 unfold ff nF
 rw[hr]
 omega
theorem CKP.dy{t:Tp}(h:CKP t):((nF t:Nat):Int)=t.F∧nF t≤257:=by
 have:=h.F0;have:=h.F1
 unfold nF;omega
open Classical in
noncomputable def rl(t:Tp)(a b:Nat):Bool:=decide (∃k,k<t.hs.length∧ff t k=a∧ff t (mt k)=b)
theorem AU{t:Tp}{a b:Nat}:rl t a b=true↔∃k,k<t.hs.length∧ff t k=a∧ff t (mt k)=b:=by
 unfold rl;exact ZZ
theorem zM{t:Tp}(h:CKP t)(a b:Nat):rl t a b=rl t b a:=by
 have key:∀a b,rl t a b=true→rl t b a=true:=fun a b h1=>by
  obtain⟨k,hk,e1,e2⟩:=AU.1 h1
  exact AU.2 ⟨mt k,kQ h.e hk,e2,by rw[oZ];exact e1⟩
 cases h1:rl t a b with
 | true=>exact(key a b h1).symm
 | false=>
  cases h2:rl t b a with
  | false=>rfl
  | true=>rw[key b a h2] at h1;cases h1
theorem CKP.idx{t:Tp}(h:CKP t){k:Nat}(hk:k<t.hs.length):dA (t.hs.map tH) (k:Int)=some (tH (hG t.hs k))∧dA (t.rs.map tR) (hG t.hs k).r=some (tR (rG t.rs (hG t.hs k).r)):=by
 obtain⟨_,_,_,h1,h2⟩:=iS.1 (h.b1 k hk)
 exact⟨eS (by omega) (by omega),iK h1 h2⟩
def Rv(t:Tp)(i:Nat):Unit×List T×Int×Int×Int×List T×List T×Unit:=((),fZ (nF t) (fun v=>if v<i then (v:Int) else 0),(i:Int),t.V,t.F,t.hs.map tH,t.rs.map tR,())
theorem Yz{t:Tp}(h:CKP t){i:Nat}(hi:i<nF t):lJ (Rv t i)=some (.inl (Rv t (i+1))):=by
 have hN:=h.dy.2
 have hlt:decide ((i:Int)<(nF t:Int))=true:=aR (by omega)
 unfold lJ Rv
 simp only[aP,vX,hlt,aN,SH hi,bD,aY,yP hi,bY,DE,aS,wk (k:=i) (by omega),MA]
 have e:fZ (nF t) (fun w=>if w=i then (i:Int) else if w<i then (w:Int) else 0)=fZ (nF t) (fun v=>if v<i+1 then (v:Int) else 0):=tF fun v _=>by
  by_cases e1:v=i
  ·subst e1;rw[aC rfl,aC (by omega)]
  ·rw[aA e1]
   by_cases e2:v<i
   ·rw[aC e2,aC (by omega)]
   ·rw[aA e2,aA (by omega)]
 rw[e]
theorem Qy{t:Tp}:lJ (Rv t (nF t))=some (.inr (.inl ((),fZ (nF t) (fun v=>(v:Int)),t.V,t.F,t.hs.map tH,t.rs.map tR,()))):=by
 have hlt:decide ((nF t:Int)<(nF t:Int))=false:=aW (by omega)
 unfold lJ Rv
 simp only[aP,vX,hlt,aK]
 rw[tF (g:=fun v=>if v<nF t then (v:Int) else 0) (g':=fun v=>(v:Int)) fun v hv=>aC hv]
def Qz(t:Tp)(lb:Nat→Nat)(r k:Nat):Unit×List T×Int×Int×Int×Int×List T×List T×Unit:=((),fZ (nF t) (fun v=>(lb v:Int)),(r:Int),(k:Int),t.V,t.F,t.hs.map tH,t.rs.map tR,())
theorem WR{t:Tp}(h:CKP t){lb:Nat→Nat}{r k:Nat}(hk:k<t.hs.length):lK (Qz t lb r k)=some (.inl (Qz t (jn lb (ff t k) (ff t (mt k))) r (k+1))):=by
 have hn:=h.n
 have hm:=kQ h.e hk
 have hlt:decide ((k:Int)<(t.hs.length:Int))=true:=aR (by omega)
 obtain⟨i1,i2⟩:=h.idx hk
 obtain⟨j1,j2⟩:=h.idx hm
 obtain⟨a1,a2⟩:=h.ia hk
 obtain⟨c1,c2⟩:=h.ia hm
 unfold lK Qz
 simp only[aP,bT,hlt,aN,i1,i2,bD,jV,gA,qK (k:=k) (by omega),j1,j2,fN,a1,c1,vX,SH a2,SH c2,aY,yP a2,yP c2,oG,aJ,Yy,bY,DE,MA,aS,wk (k:=k) (by omega)]
 rw[tF (g':=fun v=>((jn lb (ff t k) (ff t (mt k)) v:Nat):Int)) fun v _=>by
  unfold jn
  by_cases e1:v=ff t (mt k)
  ·simp only[aC e1]
  ·by_cases e2:v=ff t k
   ·simp only[aA e1,aC e2]
   ·simp only[aA e1,aA e2]]
theorem Ny{t:Tp}(h:CKP t)(lb:Nat→Nat)(r:Nat):bU lK (Qz t lb r 0)=some (.inl ((),fZ (nF t) (fun v=>((Ir (fun k=>ff t k) (fun k=>ff t (mt k)) lb t.hs.length v:Nat):Int)),(r:Int),t.V,t.F,t.hs.map tH,t.rs.map tR,())):=by
 have hlt:decide ((t.hs.length:Int)<(t.hs.length:Int))=false:=aW (by omega)
 have h1:=bX (F:=lK) t.hs.length (fun k=>Qz t (Ir (fun k=>ff t k) (fun k=>ff t (mt k)) lb k) r k) (fun k hk=>WR h hk)
 have h0:Qz t (Ir (fun k=>ff t k) (fun k=>ff t (mt k)) lb 0) r 0=Qz t lb r 0:=rfl
 rw[←h0,h1]
 refine bK ?_
 unfold lK Qz
 simp only[aP,bT,hlt,aK]
def Up(t:Tp)(r:Nat):Unit×List T×Int×Int×Int×List T×List T×Unit:=((),fZ (nF t) (fun v=>((DO (fun k=>ff t k) (fun k=>ff t (mt k)) t.hs.length r v:Nat):Int)),(r:Int),t.V,t.F,t.hs.map tH,t.rs.map tR,())
theorem Ex{t:Tp}(h:CKP t){r:Nat}(hr:r<nF t):lL (Up t r)=some (.inl (Up t (r+1))):=by
 obtain⟨hN1,hN2⟩:=h.dy
 have hlt:decide ((r:Int)<t.F)=true:=aR (by omega)
 have hl:=Ny h (DO (fun k=>ff t k) (fun k=>ff t (mt k)) t.hs.length r) r
 unfold Qz at hl
 unfold lL Up
 simp only[aP,hlt,aN]
 have e0:((0:Nat):Int)=0:=rfl
 rw[e0] at hl
 rw[hl]
 simp only[bD,bC,aS,wk (k:=r) (by omega)]
 rfl
theorem Ra{t:Tp}(h:CKP t):lL (Up t (nF t))=some (.inr (.inl (fZ (nF t) (fun v=>((gT (nF t) (rl t) v:Nat):Int)),()))):=by
 obtain⟨hN1,hN2⟩:=h.dy
 have hlt:decide ((nF t:Int)<t.F)=false:=aW (by omega)
 unfold lL Up
 simp only[aP,hlt,aK]
 rw[tF (g':=fun v=>((gT (nF t) (rl t) v:Nat):Int)) fun v hv=>by
  rw[Nw (r:=rl t) (zM h) (fa:=fun k=>ff t k) (fb:=fun k=>ff t (mt k)) (n:=t.hs.length) (fun k hk=>⟨(h.ia hk).2,(h.ia (kQ h.e hk)).2,AU.2 ⟨k,hk,rfl,rfl⟩⟩) (fun a b _ hr=>AU.1 hr) hv]]
noncomputable def Rw(t:Tp)(i:Nat):List T×List T×Int×Int×Unit:=(fZ (nF t) (fun v=>((gT (nF t) (rl t) v:Nat):Int)),fZ (nF t) (fun v=>if v<i then ((OE (nF t) (rl t) v:Nat):Int) else 0),((mJ (nF t) (rl t) i:Nat):Int),(i:Int),())
theorem Za{t:Tp}(h:CKP t){i:Nat}(hi:i<nF t):lF (Rw t i)=some (.inl (Rw t (i+1))):=by
 obtain⟨hN1,hN2⟩:=h.dy
 have hlt:decide ((i:Int)<(nF t:Int))=true:=aR (by omega)
 have hle:=G7 (r:=rl t) hi
 have hll:=xD (r:=rl t) (zM h) hi
 have hrk:=OD (N:=nF t) (r:=rl t) i
 have hset:∀x:Int,x=((OE (nF t) (rl t) i:Nat):Int)→fZ (nF t) (fun w=>if w=i then x else if w<i then ((OE (nF t) (rl t) w:Nat):Int) else 0)=fZ (nF t) (fun v=>if v<i+1 then ((OE (nF t) (rl t) v:Nat):Int) else 0):=fun x hx=>tF fun v _=>by
  by_cases e1:v=i
  ·subst e1;rw[aC rfl,aC (by omega),hx]
  ·rw[aA e1]
   by_cases e2:v<i
   ·rw[aC e2,aC (by omega)]
   ·rw[aA e2,aA (by omega)]
 unfold lF Rw
 simp only[aP,vX,hlt,aN,Nx hi,bD,oG,aJ,aH]
 by_cases hc:gT (nF t) (rl t) i=i
 ·have hd:decide (((gT (nF t) (rl t) i:Nat):Int)=(i:Int))=true:=aR (by omega)
  simp only[hd,aN,SH hi,bD,aY,yP hi,bY,DE,MA,bC,aS,wk (k:=i) (by omega),wk (k:=mJ (nF t) (rl t) i) (by omega)]
  rw[hset _ (by unfold OE;rw[hc])]
  have:mJ (nF t) (rl t) (i+1)=mJ (nF t) (rl t) i+1:=by
   show mJ _ _ i+(if _ then 1 else 0)=_
   rw[aC hc]
  rw[this]
 ·have hd:decide (((gT (nF t) (rl t) i:Nat):Int)=(i:Int))=false:=aW (by omega)
  have hl2:gT (nF t) (rl t) i<nF t:=by omega
  simp only[hd,aK,SH hi,SH hl2,bD,aY,yP hi,yP hl2,oG,gA,aJ,bY,DE,MA,bC,aS,wk (k:=i) (by omega)]
  rw[hset _ (by rw[aC (by omega)];unfold OE;rw[hll])]
  have:mJ (nF t) (rl t) (i+1)=mJ (nF t) (rl t) i:=by
   show mJ _ _ i+(if _ then 1 else 0)=_
   rw[aA hc];rfl
  rw[this]
noncomputable def shl(t:Tp):List T:=fZ (nF t) (fun v=>((OE (nF t) (rl t) v:Nat):Int))
theorem Nz{t:Tp}(h:CKP t):AV (fZ (nF t) (fun v=>((gT (nF t) (rl t) v:Nat):Int)),())=some (shl t,()):=by
 obtain⟨hN1,hN2⟩:=h.dy
 have hlt:decide ((nF t:Int)<(nF t:Int))=false:=aW (by omega)
 have l0:=bX (F:=lF) (nF t) (Rw t) (fun k hk=>Za h hk)
 have l1:bU lF (Rw t (nF t))=some (.inl (shl t,())):=by
  refine bK ?_
  unfold lF Rw
  simp only[aP,vX,hlt,aK]
  unfold shl
  rw[tF (g:=fun v=>if v<nF t then ((OE (nF t) (rl t) v:Nat):Int) else 0) (g':=fun v=>((OE (nF t) (rl t) v:Nat):Int)) fun v hv=>aC hv]
 unfold AV
 have hmk:vA ((nF t:Nat):Int) ((nF t:Nat):Int) 8=some (nF t,nF t):=AJ (by omega) (by omega) (by omega) (by omega)
 simp only[vX,hmk,bD,GP,bY,Ck]
 have e0:(fZ (nF t) (fun v=>((gT (nF t) (rl t) v:Nat):Int)),fZ (nF t) (fun _=>0),(0:Int),(0:Int),())=Rw t 0:=by
  unfold Rw
  rw[tF (g:=fun v=>if v<0 then ((OE (nF t) (rl t) v:Nat):Int) else 0) (g':=fun _=>0) fun v _=>aA (by omega)]
  rfl
 rw[e0,l0,l1]
 rfl
theorem Ux{t:Tp}(h:CKP t):F3 (oF t)=some (shl t,()):=by
 obtain⟨hN1,hN2⟩:=h.dy
 have l0:=bX (F:=lJ) (nF t) (Rv t) (fun k hk=>Yz h hk)
 have l0':=bK (Qy (t:=t))
 have l1:=bX (F:=lL) (nF t) (Up t) (fun k hk=>Ex h hk)
 have l1':=bK (Ra h)
 have hck:eX (t.V,t.F,t.hs.map tH,t.rs.map tR,())=some (true,()):=by
  have:=QZ t
  rw[G1.2 h] at this
  exact this
 have hmk:vA t.F t.F 8=some (nF t,nF t):=AJ (by omega) (by omega) (by omega) (by omega)
 unfold F3 oF
 simp only[hck,bD,bH,aK,hmk,GP,bY,Ck]
 have e0:((),fZ (nF t) (fun _=>0),(0:Int),t.V,t.F,t.hs.map tH,t.rs.map tR,())=Rv t 0:=by
  unfold Rv
  rw[tF (g:=fun v=>if v<0 then (v:Int) else 0) (g':=fun _=>0) fun v _=>aA (by omega)]
  rfl
 rw[e0,l0,l0']
 simp only[bD,bC]
 have e1:((),fZ (nF t) (fun v=>(v:Int)),(0:Int),t.V,t.F,t.hs.map tH,t.rs.map tR,())=Up t 0:=rfl
 rw[e1,l1,l1']
 simp only[bD,bC,Nz h]
def G8(t:Tp)(v:Nat):Nat→List Nat
 | 0=>[]
 | k+1=>if ff t k=v then G8 t v k++[ff t (mt k)] else G8 t v k
theorem Ey{t:Tp}{v w:Nat}:∀{k:Nat},w∈G8 t v k↔∃j,j<k∧ff t j=v∧ff t (mt j)=w
 | 0=>by simp[G8]
 | k+1=>by
  have ih:=Ey (t:=t) (v:=v) (w:=w) (k:=k)
  unfold G8
  by_cases e:ff t k=v
  ·rw[aC e,fL,ih]
   constructor
   ·rintro (⟨j,a,b,c⟩ | h)
    ·exact⟨j,by omega,b,c⟩
    ·exact⟨k,by omega,e,(by simpa using h:w=ff t (mt k)).symm⟩
   ·rintro ⟨j,a,b,c⟩
    by_cases ej:j=k
    ·subst ej;right;simp[c]
    ·left;exact⟨j,by omega,b,c⟩
  ·rw[aA e,ih]
   constructor
   ·rintro ⟨j,a,b,c⟩;exact⟨j,by omega,b,c⟩
   ·rintro ⟨j,a,b,c⟩
    by_cases ej:j=k
    ·subst ej;exact absurd b e
    ·exact⟨j,by omega,b,c⟩
theorem OF(t:Tp)(v:Nat):∀k,(G8 t v k).length≤k
 | 0=>by simp[G8]
 | k+1=>by
  have ih:=OF t v k
  unfold G8
  split
  ·simp;omega
  ·omega
def fR(n:Nat)(g:Nat→List Nat):List (List T):=(List.range n).map fun v=>tN (g v)
theorem MB(n:Nat)(g:Nat→List Nat):(fR n g).length=n:=by simp[fR]
theorem RE{n:Nat}{g:Nat→List Nat}{v:Nat}(h:v<n):(fR n g)[v]?=some (tN (g v)):=by simp[fR,h]
theorem Uq{n:Nat}{g g':Nat→List Nat}{v:Nat}{l:List Nat}(h:∀w,w<n→g' w=if w=v then l else g w):(fR n g).set v (tN l)=fR n g':=by
 refine EU fun i=>?_
 rw[qO]
 by_cases hi:i<n
 ·rw[RE hi,RE hi,h i hi]
  by_cases e:v=i
  ·subst e
   rw[aC rfl,aC (by rw[MB];exact hi),aC rfl]
  ·rw[aA e,aA (fun h:i=v=>e h.symm)]
 ·have h1:(fR n g)[i]?=none:=tJ (by rw[MB];omega)
  have h2:(fR n g')[i]?=none:=tJ (by rw[MB];omega)
  rw[h1,h2]
  split
  ·split
   ·rename_i h3 h4;rw[MB] at h4;omega
   ·rfl
  ·rfl
def Rx(t:Tp)(k:Nat):Unit×List (List T)×List T×Int×Int×Int×Int×List T×List T×Unit:=((),fR (nF t) (fun v=>G8 t v k),t.hs.map tH,(t.hs.length:Int),(k:Int),t.V,t.F,t.hs.map tH,t.rs.map tR,())
theorem Zb{t:Tp}(h:CKP t){k:Nat}(hk:k<t.hs.length):iV (Rx t k)=some (.inl (Rx t (k+1))):=by
 have hn:=h.n
 have hm:=kQ h.e hk
 have hlt:decide ((k:Int)<(t.hs.length:Int))=true:=aR (by omega)
 obtain⟨i1,i2⟩:=h.idx hk
 obtain⟨j1,j2⟩:=h.idx hm
 obtain⟨a1,a2⟩:=h.ia hk
 obtain⟨c1,c2⟩:=h.ia hm
 have hlen:=OF t (ff t k) k
 have eN:∀a:Nat,Rh a a=some ():=fun a=>by unfold Rh;exact aC rfl
 have hl1:∀l:List (List T),aI (List.set (fR (nF t) fun v=>G8 t v k) (ff t k) l.flatten)=(nF t:Int):=fun l=>by rw[jK,dP,MB]
 have hrm:qE (tN (G8 t (ff t k) k)) [tI ((ff t (mt k):Nat):Int)] 8=some (tN (G8 t (ff t k) k++[ff t (mt k)])):=by
  rw[rJ (by rw[vO];simp;omega) (by omega)]
  rw[VO];rfl
 have hset:(fR (nF t) fun v=>G8 t v k).set (ff t k) (tN (G8 t (ff t k) k++[ff t (mt k)]))=fR (nF t) fun v=>G8 t v (k+1):=Uq fun w _=>by
  show (if ff t k=w then _ else _)=_
  by_cases e:ff t k=w
  ·rw[aC e,aC e.symm,e]
  ·rw[aA e,aA (fun e'=>e e'.symm)]
 have hget:(fR (nF t) fun v=>G8 t v (k+1))[ff t k]?=some (tN (G8 t (ff t k) (k+1))):=RE a2
 unfold iV Rx
 simp only[aP,hlt,aN,i1,i2,bD,jV,gA,rC (k:=k) (by omega),j1,j2,fN,a1,c1,jK,MB,SH a2,aY,RE a2,aJ,bY,hrm,hset,eN,aS,wk (k:=k) (by omega)]
theorem Rb{t:Tp}:iV (Rx t t.hs.length)=some (.inr (.inl ((),vH 1 (fR (nF t) (fun v=>G8 t v t.hs.length)),t.V,t.F,t.hs.map tH,t.rs.map tR,()))):=by
 have hlt:decide ((t.hs.length:Int)<(t.hs.length:Int))=false:=aW (by omega)
 unfold iV Rx
 simp only[aP,hlt,aK]
def KF(t:Tp):List T:=vH 1 (fR (nF t) (fun v=>G8 t v t.hs.length))
theorem Io{t:Tp}{v:Nat}(h:v<nF t):dA (KF t) (v:Int)=some (T.sl 1 (tN (G8 t v t.hs.length))):=by
 rw[AI]
 unfold KF vH
 rw[fF,RE h]
 rfl
def Ry(t:Tp)(i:Nat):List T×List T×Int×Int×Unit:=(KF t,fZ (nF t) (fun v=>if v<i then -1 else 0),(nF t:Int),(i:Int),())
theorem Zc{t:Tp}(h:CKP t){i:Nat}(hi:i<nF t):iW (Ry t i)=some (.inl (Ry t (i+1))):=by
 have hN:=h.dy.2
 have hlt:decide ((i:Int)<(nF t:Int))=true:=aR (by omega)
 unfold iW Ry
 simp only[aP,vX,hlt,aN,SH hi,bD,aY,yP hi,bY,DE,aS,wk (k:=i) (by omega),MA]
 have e:fZ (nF t) (fun w=>if w=i then (-1:Int) else if w<i then -1 else 0)=fZ (nF t) (fun v=>if v<i+1 then (-1:Int) else 0):=tF fun v _=>by
  by_cases e1:v=i
  ·subst e1;rw[aC rfl,aC (by omega)]
  ·rw[aA e1]
   by_cases e2:v<i
   ·rw[aC e2,aC (by omega)]
   ·rw[aA e2,aA (by omega)]
 rw[e]
theorem Rc{t:Tp}:iW (Ry t (nF t))=some (.inr (.inl (KF t,fZ (nF t) (fun _=>-1),()))):=by
 have hlt:decide ((nF t:Int)<(nF t:Int))=false:=aW (by omega)
 unfold iW Ry
 simp only[aP,hlt,aK]
 rw[tF (g:=fun v=>if v<nF t then (-1:Int) else 0) (g':=fun _=>-1) fun v hv=>aC hv]
def Rz(t:Tp)(out:Nat→Int)(sh:Nat)(todo:List Nat)(i:Nat):List T×List T×Int×List T×Int×Int×Unit:=(KF t,fZ (nF t) out,(sh:Int),tN todo,(nF t:Int),(i:Int),())
theorem Sc{nb:Nat→List Nat}{B:Nat}(h:∀v,(nb v).length≤B)(out:Nat→Int):∀n,wt nb out n≤n*B
 | 0=>by simp[wt]
 | n+1=>by
  have ih:=Sc h out n
  have:=h n
  simp only[wt,tM,ZR]
  split <;> omega
theorem Ez{t:Tp}{out:Nat→Int}{sh i:Nat}:iX (Rz t out sh [] i)=some (.inr (.inl (KF t,fZ (nF t) out,(sh:Int),(nF t:Int),(i:Int),()))):=by
 unfold iX Rz
 simp only[aP,jK,vO,wP]
 rfl
theorem Zd{t:Tp}{out:Nat→Int}{sh i g:Nat}{todo:List Nat}(hg:g<nF t)(hl:todo.length≤1000000)(hh:t.hs.length≤256):iX (Rz t out sh (g::todo) i)=some (.inl (bif decide (out g<0) then Rz t (fun v=>if v=g then (sh:Int) else out v) sh (todo++G8 t g t.hs.length) i else Rz t out sh todo i)):=by
 have hlen:=OF t g t.hs.length
 have hlt:decide ((0:Int)<((g::todo).length:Int))=true:=aR (by simp only[oA];omega)
 have hc:aZ ((g::todo).length:Int) (0:Int)=some 0:=aF (i:=0) (by simp only[oA];omega)
 have hcut:JH ((g::todo).length:Int) (1:Int) ((g::todo).length:Int)=some (1,todo.length):=by
  unfold JH
  rw[aC ⟨by omega,by simp only[oA];omega,by omega⟩]
  have:(((g::todo).length:Int)-1).toNat=todo.length:=by simp only[oA];omega
  rw[this];rfl
 have hcn:oC (tN (g::todo)) 1 todo.length=tN todo:=by
  have h1:(tN (g::todo)).drop 1=tN todo:=rfl
  have h2:todo.length=(tN todo).length:=by rw[vO]
  unfold oC
  rw[h1,h2,ZY]
 have h0:(tN (g::todo))[0]?=some (tI (g:Int)):=rfl
 have hrm:qE (tN todo) (tN (G8 t g t.hs.length)) 8=some (tN (todo++G8 t g t.hs.length)):=by
  rw[rJ (by rw[vO,vO];omega) (by omega),VO]
 have Xd:T.kf 1 (T.sl 1 (tN (G8 t g t.hs.length)))=some (tN (G8 t g t.hs.length)):=Pa _ _ (by omega)
 unfold iX Rz
 simp only[aP,jK,vO,hlt,aN,hc,bD,aY,h0,hcut,oG,gA,L9,SH hg,yP hg,aJ,Io hg,Gc,Xd,hcn,hrm,bY,DE,MA]
 cases decide (out g<0) <;> rfl
theorem Oa{t:Tp}(h:CKP t){i:Nat}(hi:i<nF t)(hl:gT (nF t) (rl t) i=i):∀(m:Nat) (out:Nat→Int) (todo:List Nat),iu (nF t) (rl t) i out todo→todo.length+wt (fun v=>G8 t v t.hs.length) out (nF t)≤m→m≤1000000→bU iX (Rz t out (mJ (nF t) (rl t) i) todo i)=some (.inl (KF t,fZ (nF t) (zK (nF t) (rl t) (i+1)),((mJ (nF t) (rl t) i:Nat):Int),(nF t:Int),(i:Int),())):=by
 intro m
 induction m with
 | zero=>
  intro out todo hs hm _
  have:todo=[]:=List.length_eq_zero_iff.1 (by omega)
  subst this
  rw[bK Ez,tF (Y6 (zM h) hi hl hs)]
 | succ m ih=>
  intro out todo hs hm hB
  cases todo with
  | nil=>rw[bK Ez,tF (Y6 (zM h) hi hl hs)]
  | cons g todo=>
   obtain⟨hgN,hgl⟩:=hs.td g (by simp)
   simp only[oA] at hm
   rw[xY (Zd hgN (by omega) h.n)]
   by_cases hg:out g<0
   ·have hd:decide (out g<0)=true:=aR hg
    rw[hd,aN]
    have hnb:∀w,w∈G8 t g t.hs.length↔w<nF t∧rl t g w=true:=fun w=>by
     rw[Ey,AU]
     constructor
     ·rintro ⟨j,a,b,c⟩
      exact⟨by rw[←c];exact(h.ia (kQ h.e a)).2,j,a,b,c⟩
     ·rintro ⟨_,j,a,b,c⟩;exact⟨j,a,b,c⟩
    have hw:=Un (nb:=fun v=>G8 t v t.hs.length) (out:=out) (g:=g) (x:=((mJ (nF t) (rl t) i:Nat):Int)) (by omega) hg (nF t)
    rw[aC hgN] at hw
    refine ih _ _ (Nv (zM h) hs hnb) ?_ (by omega)
    rw[tL]
    have:(G8 t g t.hs.length).length=((fun v=>G8 t v t.hs.length) g).length:=rfl
    omega
   ·have hd:decide (out g<0)=false:=aW hg
    rw[hd,aK]
    exact ih _ _ (Nu (zM h) hs hg) (by omega) (by omega)
def Sd(t:Tp)(out:Nat→Int)(sh i:Nat):List T×List T×Int×Int×Int×Unit:=(KF t,fZ (nF t) out,(sh:Int),(nF t:Int),(i:Int),())
theorem Ze{t:Tp}(h:CKP t){i:Nat}(hi:i<nF t):iY (Sd t (zK (nF t) (rl t) i) (mJ (nF t) (rl t) i) i)=some (.inl (Sd t (zK (nF t) (rl t) (i+1)) (mJ (nF t) (rl t) (i+1)) (i+1))):=by
 obtain⟨hN1,hN2⟩:=h.dy
 have hlt:decide ((i:Int)<(nF t:Int))=true:=aR (by omega)
 have hle:=G7 (r:=rl t) hi
 have hll:=xD (r:=rl t) (zM h) hi
 have hrk:=OD (N:=nF t) (r:=rl t) i
 unfold iY Sd
 simp only[aP,gI,hlt,aN,vX,SH hi,bD,aY,yP hi,oG,aJ]
 by_cases hc:gT (nF t) (rl t) i=i
 ·have hd:decide ((0:Int)≤zK (nF t) (rl t) i i)=false:=aW (by unfold zK;rw[aA (by omega)];omega)
  have hs:=Oa h hi hc 1000000 _ _ (Ci hi hc) (by
   have hB:=Sc (nb:=fun v=>G8 t v t.hs.length) (B:=256) (fun v=>H7 (OF t v _) h.n) (zK (nF t) (rl t) i) (nF t)
   have:nF t*256≤257*256:=EV _ hN2
   simp only[T7];omega) (gB _)
  unfold Rz at hs
  have e1:tN [i]=[tI (i:Int)]:=rfl
  rw[e1] at hs
  simp only[hd,aK,bY,hs,bD,bC,aS,wk (k:=i) (by omega),wk (k:=mJ (nF t) (rl t) i) (by omega)]
  have:mJ (nF t) (rl t) (i+1)=mJ (nF t) (rl t) i+1:=by
   show mJ _ _ i+(if _ then 1 else 0)=_
   rw[aC hc]
  rw[this]
 ·have hd:decide ((0:Int)≤zK (nF t) (rl t) i i)=true:=aR (by unfold zK;rw[aC (by omega)];omega)
  have hr:mJ (nF t) (rl t) (i+1)=mJ (nF t) (rl t) i:=by
   show mJ _ _ i+(if _ then 1 else 0)=_
   rw[aA hc];rfl
  simp only[hd,aN,bC,bD,aS,wk (k:=i) (by omega),hr]
  rw[tF (g:=zK (nF t) (rl t) i) (g':=zK (nF t) (rl t) (i+1)) fun v hv=>by
   unfold zK
   have:gT (nF t) (rl t) v≠i:=fun e=>hc (by rw[←e];exact xD (zM h) hv)
   by_cases e1:gT (nF t) (rl t) v<i
   ·rw[aC e1,aC (by omega)]
   ·rw[aA e1,aA (by omega)]]
theorem Ip{t:Tp}(h:CKP t):lM (oF t)=some (shl t,()):=by
 obtain⟨hN1,hN2⟩:=h.dy
 have hlt:decide ((nF t:Int)<(nF t:Int))=false:=aW (by omega)
 have l0:=bX (F:=iV) t.hs.length (Rx t) (fun k hk=>Zb h hk)
 have l0':=bK (Rb (t:=t))
 have l1:=bX (F:=iW) (nF t) (Ry t) (fun k hk=>Zc h hk)
 have l1':=bK (Rc (t:=t))
 have l2:=bX (F:=iY) (nF t) (fun i=>Sd t (zK (nF t) (rl t) i) (mJ (nF t) (rl t) i) i) (fun k hk=>Ze h hk)
 have l2':bU iY (Sd t (zK (nF t) (rl t) (nF t)) (mJ (nF t) (rl t) (nF t)) (nF t))=some (.inl (shl t,())):=by
  refine bK ?_
  unfold iY Sd
  simp only[aP,hlt,aK]
  unfold shl
  rw[tF (g:=zK (nF t) (rl t) (nF t)) (g':=fun v=>((OE (nF t) (rl t) v:Nat):Int)) fun v hv=>by
   unfold zK
   have:=G7 (r:=rl t) hv
   rw[aC (by omega)]]
 have hck:cE (t.V,t.F,t.hs.map tH,t.rs.map tR,())=some (true,()):=by
  have:=J3 t
  rw[G1.2 h] at this
  exact this
 have hmk:vA t.F t.F 24=some (nF t,nF t):=AJ (by omega) (by omega) (by omega) (by omega)
 have hmk8:vA t.F t.F 8=some (nF t,nF t):=AJ (by omega) (by omega) (by omega) (by omega)
 unfold lM oF
 simp only[hck,bD,bH,aK,hmk,GP,bT]
 have e0:((),List.replicate (nF t) ([]:List T),t.hs.map tH,(t.hs.length:Int),(0:Int),t.V,t.F,t.hs.map tH,t.rs.map tR,())=Rx t 0:=by
  unfold Rx fR
  have:(List.range (nF t)).map (fun v=>tN (G8 t v 0))=List.replicate (nF t) []:=by
   have e:(fun v=>tN (G8 t v 0))=fun _=>([]:List T):=rfl
   rw[e,List.map_const',O1]
  rw[this];rfl
 rw[e0,l0,l0']
 simp only[bD,bC,hmk8,bY,Ck,vX]
 have e1:(vH 1 (fR (nF t) fun v=>G8 t v t.hs.length),fZ (nF t) (fun _=>0),(nF t:Int),(0:Int),())=Ry t 0:=by
  unfold Ry
  rw[tF (g:=fun v=>if v<0 then (-1:Int) else 0) (g':=fun _=>0) fun v _=>aA (by omega)]
  rfl
 rw[e1,l1,l1']
 simp only[bD,bC,vX]
 have e2:(KF t,fZ (nF t) (fun _=>-1),(0:Int),(nF t:Int),(0:Int),())=Sd t (zK (nF t) (rl t) 0) (mJ (nF t) (rl t) 0) 0:=by
  unfold Sd
  rw[tF (g:=zK (nF t) (rl t) 0) (g':=fun _=>-1) fun v _=>by unfold zK;exact aA (by omega)]
  rfl
 rw[e2,l2,l2']
 rfl
noncomputable def mx(t:Tp):Nat→Int
 | 0=>0
 | k+1=>max (mx t k) (((OE (nF t) (rl t) k:Nat):Int)+1)
theorem WH{t:Tp}{k:Nat}(hk:k<nF t):OE (nF t) (rl t) k≤k:=by
 have h1:=OD (N:=nF t) (r:=rl t) (gT (nF t) (rl t) k)
 have h2:=G7 (r:=rl t) hk
 unfold OE;omega
theorem Ob(t:Tp):∀k,k≤nF t→0≤mx t k∧mx t k≤k
 | 0,_=>⟨Z1 _,Z1 _⟩
 | k+1,h=>by
  have ih:=Ob t k (by omega)
  have:=WH (t:=t) (k:=k) (by omega)
  simp only[mx];omega
theorem Yb(a b:Int):R5 true a b=max a b:=by unfold R5;simp only[eY]
noncomputable def Wv(t:Tp)(k:Nat)(E I:Int):Unit×Unit×List T×Int×Int×Int×Int×Int×Int×Int×Int×Int×Int×Int×Int×Int×Unit:=((),(),shl t,(k:Int),0,0,0,0,0,0,t.V,E,t.F,I,mx t k,0,())
noncomputable def Ur(t:Tp)(k:Nat)(E I:Int):Unit×Unit×List T×Int×Int×Int×Int×Int×Int×Int×Int×Int×Int×Int×Int×Int×Int×Unit:=((),(),shl t,(nF t:Int),(k:Int),0,0,0,0,0,0,t.V,E,t.F,I,mx t k,0,())
theorem Fa{t:Tp}{v:Nat}(h:v<nF t):dA (shl t) (v:Int)=some (tI ((OE (nF t) (rl t) v:Nat):Int)):=by unfold shl;rw[Nx h]
theorem WI(t:Tp):aI (shl t)=(nF t:Int):=by unfold shl;rw[vX]
theorem Yi{t:Tp}(h:CKP t){k:Nat}(hk:k<nF t)(E I:Int):sV (Wv t k E I)=some (.inl (Wv t (k+1) E I)):=by
 have hN:=h.dy.2
 have hlt:decide ((k:Int)<(nF t:Int))=true:=aR (by omega)
 have hc:=WH hk
 unfold sV Wv
 simp only[aP,WI,hlt,aN,Fa hk,bD,oG,aJ,aS,wk (k:=k) (by omega),Yb,fQ (n:=((OE (nF t) (rl t) k:Nat):Int)+1) (by omega) (by omega)]
 rfl
theorem Yc{t:Tp}(E I:Int):sV (Wv t (nF t) E I)=some (.inr (.inl ((),(),0,0,0,0,0,0,t.V,E,t.F,I,mx t (nF t),0,()))):=by
 have hlt:decide ((nF t:Int)<(nF t:Int))=false:=aW (by omega)
 unfold sV Wv
 simp only[aP,WI,hlt,aK]
theorem Ww{t:Tp}(h:CKP t){k:Nat}(hk:k<nF t)(E I:Int):jU (Ur t k E I)=some (.inl (Ur t (k+1) E I)):=by
 have hN:=h.dy.2
 have hlt:decide ((k:Int)<(nF t:Int))=true:=aR (by omega)
 have hc:=WH hk
 unfold jU Ur
 simp only[aP,hlt,aN,Fa hk,bD,oG,aJ,aS,wk (k:=k) (by omega),Yb,fQ (n:=((OE (nF t) (rl t) k:Nat):Int)+1) (by omega) (by omega)]
 rfl
theorem Us{t:Tp}(E I:Int):jU (Ur t (nF t) E I)=some (.inr (.inl ((),(),0,0,0,0,0,0,t.V,E,t.F,I,mx t (nF t),0,()))):=by
 have hlt:decide ((nF t:Int)<(nF t:Int))=false:=aW (by omega)
 unfold jU Ur
 simp only[aP,hlt,aK]
noncomputable def Oc(t:Tp):Int×Int×Int×Int×Int×Int×Bool×Unit:=(t.V,((t.hs.length/2:Nat):Int),t.F,(t.rs.length:Int)-t.F,mx t (nF t),mx t (nF t)-(t.V-((t.hs.length/2:Nat):Int)+t.F-((t.rs.length:Int)-t.F)).tdiv 2,true,())
theorem Ut(x:Int):∃y,x.tdiv 2=y∧(0≤x→y=x/2)∧(x<0→y=-((-x)/2)):=by
 refine⟨_,rfl,fun h=>Z2 h,fun h=>?_⟩
 have:x=-(-x):=by omega
 rw[this,Int.neg_tdiv,Z2 (by omega)]
 simp
theorem Re{t:Tp}(h:CKP t):wr .i64 ((t.hs.length:Int).tdiv 2)=((t.hs.length/2:Nat):Int)∧wr .i64 ((t.rs.length:Int)-t.F)=(t.rs.length:Int)-t.F∧wr .i64 (t.V-((t.hs.length/2:Nat):Int))=t.V-((t.hs.length/2:Nat):Int)∧wr .i64 (t.V-((t.hs.length/2:Nat):Int)+t.F)=t.V-((t.hs.length/2:Nat):Int)+t.F∧wr .i64 (t.V-((t.hs.length/2:Nat):Int)+t.F-((t.rs.length:Int)-t.F))=t.V-((t.hs.length/2:Nat):Int)+t.F-((t.rs.length:Int)-t.F)∧wr .i64 ((t.V-((t.hs.length/2:Nat):Int)+t.F-((t.rs.length:Int)-t.F)).tdiv 2)=(t.V-((t.hs.length/2:Nat):Int)+t.F-((t.rs.length:Int)-t.F)).tdiv 2∧wr .i64 (mx t (nF t)-(t.V-((t.hs.length/2:Nat):Int)+t.F-((t.rs.length:Int)-t.F)).tdiv 2)=mx t (nF t)-(t.V-((t.hs.length/2:Nat):Int)+t.F-((t.rs.length:Int)-t.F)).tdiv 2:=by
 have hn:=h.n
 have hV0:=h.V0
 have hV1:=h.V1
 have hF0:=h.F0
 have hF1:=h.F1
 have hR:=h.R
 have hm:=Ob t (nF t) (gB _)
 have hN:=h.dy
 have h2:(t.hs.length:Int).tdiv 2=((t.hs.length/2:Nat):Int):=by
  rw[Z2 (by omega)];omega
 obtain⟨y,hy,y1,y2⟩:=Ut (t.V-((t.hs.length/2:Nat):Int)+t.F-((t.rs.length:Int)-t.F))
 rw[hy]
 refine⟨by rw[h2];exact fQ (by omega) (by omega),fQ (by omega) (by omega),fQ (by omega) (by omega),fQ (by omega) (by omega),fQ (by omega) (by omega),fQ (by omega) (by omega),fQ (by omega) (by omega)⟩
theorem RG{t:Tp}(h:CKP t):eC (oF t)=some (Oc t):=by
 have hck:cE (t.V,t.F,t.hs.map tH,t.rs.map tR,())=some (true,()):=by
  have:=J3 t
  rw[G1.2 h] at this
  exact this
 have hs:lM (t.V,t.F,t.hs.map tH,t.rs.map tR,())=some (shl t,()):=Ip h
 obtain⟨w1,w2,w3,w4,w5,w6,w7⟩:=Re h
 have l0:=fun E I=>bX (F:=jU) (nF t) (fun k=>Ur t k E I) (fun k hk=>Ww h hk E I)
 have l1:=fun E I=>bK (Us (t:=t) E I)
 have l2:=fun E I=>(l0 E I).trans (l1 E I)
 unfold Ur at l2
 have e0:mx t 0=0:=rfl
 have e1:((0:Nat):Int)=0:=rfl
 simp only[e0,e1] at l2
 unfold eC oF
 simp only[hck,bD,bH,aK,hs,bT,bL,WI,vJ,nI,aS,w1,w2,l2,bC,w3,w4,w5,w6,w7]
 rfl
end Go.Eng.Tl
set_option linter.unusedSectionVars false
namespace Go.Eng.Tl
open Go.Eng
theorem N3{P Q:Nat→Bool}{n m:Nat}{g:Nat→Nat}(h:∀k,k<n→P k=true→g k<m∧Q (g k)=true)(hi:∀j k,j<n→k<n→P j=true→P k=true→g j=g k→j=k):aw P n≤aw Q m:=by
 rw[N2 P n]
 have hm:∀x,x∈(List.range n).filter P→x<n∧P x=true:=fun x hx=>⟨uM.1 (B8.1 hx).1,(B8.1 hx).2⟩
 have hl:((List.range n).filter P).length=(((List.range n).filter P).map g).length:=(dM ..).symm
 rw[hl]
 refine Bm (L8 (fun x hx y hy e=>hi x y (hm x hx).1 (hm y hy).1 (hm x hx).2 (hm y hy).2 e) (List.nodup_range.sublist List.filter_sublist)) fun x hx=>?_
 obtain⟨y,hy,e⟩:=kZ.1 hx
 rw[←e]
 exact h y (hm y hy).1 (hm y hy).2
theorem Lr{N:Nat}{r:Nat→Nat→Bool}(l:Nat):mJ N r l=aw (fun k=>decide (gT N r k=k)) l:=by
 induction l with
 | zero=>rfl
 | succ l ih=>
  simp only[mJ,aw]
  rw[ih]
  by_cases e:gT N r l=l
  ·rw[aC e,aC (aR e)]
  ·rw[aA e,aA (fun x=>e (bI x))]
open Classical in
theorem Ee{n M:Nat}{r:Nat→Nat→Bool}(hs:∀i j,r i j=r j i){lab:Nat→Nat}{Q:Nat→Bool}(h1:∀k,k<n→lab k<M∧Q (lab k)=true)(h2:∀i j,i<n→j<n→(ar n r i j↔lab i=lab j))(h3:∀q,q<M→Q q=true→∃k,k<n∧lab k=q):EO n r=aw Q M:=by
 have hld:∀k,k<n→gT n r k<n∧lab (gT n r k)=lab k:=fun k hk=>by
  have:=(jR (r:=r) hk).1
  exact⟨this.lt.2,((h2 _ _ hk this.lt.2).1 this).symm⟩
 unfold EO
 rw[Lr]
 refine UG (N3 (g:=lab) (fun k hk _=>h1 k hk) fun j k hj hk pj pk e=>?_) ?_
 ·have e1:gT n r j=j:=bI pj
  have e2:gT n r k=k:=bI pk
  rw[←e1,←e2]
  exact BH hs ((h2 j k hj hk).2 e)
 ·refine N3 (g:=fun q=>if h:∃k,k<n∧lab k=q then gT n r (Classical.choose h) else 0) (fun q hq pq=>?_) fun p q hp hq pp pq e=>?_
  ·have h:=h3 q hq pq
   have hc:=I9 h
   simp only[I8 h]
   obtain⟨a,b⟩:=hld _ hc.1
   exact⟨a,aR (xD hs hc.1)⟩
  ·have ha:=h3 p hp pp
   have hb:=h3 q hq pq
   simp only[I8 ha,I8 hb] at e
   have hc:=I9 ha
   have hd:=I9 hb
   rw[←hc.2,←hd.2,←(hld _ hc.1).2,←(hld _ hd.1).2,e]
theorem Ls(i:Nat):mt (2*i)=2*i+1∧mt (2*i+1)=2*i:=by
 have:=kP (2*i)
 have:=mZ (2*i)
 have:=kP (2*i+1)
 have:=mZ (2*i+1)
 omega
section
variable (N:Nat→Nat) (ff:Nat→Nat)
def L4(i k:Nat):Nat:=N (if k/2<i then mt k else k)
open Classical in
noncomputable def dw(i a b:Nat):Bool:=decide (∃j,j<2*i∧ff j=a∧ff (mt j)=b)
end
section
variable {N:Nat→Nat} {ff:Nat→Nat}
theorem GX{i a b:Nat}:dw ff i a b=true↔∃j,j<2*i∧ff j=a∧ff (mt j)=b:=by
 unfold dw;exact ZZ
theorem QV(i a b:Nat):dw ff i a b=dw ff i b a:=by
 have key:∀a b,dw ff i a b=true→dw ff i b a=true:=fun a b h1=>by
  obtain⟨k,hk,e1,e2⟩:=GX.1 h1
  exact GX.2 ⟨mt k,by have:=kP k;omega,e2,by rw[oZ];exact e1⟩
 cases h1:dw ff i a b with
 | true=>exact(key a b h1).symm
 | false=>
  cases h2:dw ff i b a with
  | false=>rfl
  | true=>rw[key b a h2] at h1;cases h1
theorem QW{i a b:Nat}:dw ff (i+1) a b=true↔dw ff i a b=true∨(a=ff (2*i)∧b=ff (2*i+1))∨(a=ff (2*i+1)∧b=ff (2*i)):=by
 obtain⟨m1,m2⟩:=Ls i
 rw[GX,GX]
 constructor
 ·rintro ⟨j,hj,e1,e2⟩
  by_cases h:j<2*i
  ·exact .inl ⟨j,h,e1,e2⟩
  ·by_cases h2:j=2*i
   ·rw[h2] at e1;rw[h2,m1] at e2;exact .inr (.inl ⟨e1.symm,e2.symm⟩)
   ·have h3:j=2*i+1:=by omega
    rw[h3] at e1;rw[h3,m2] at e2;exact .inr (.inr ⟨e1.symm,e2.symm⟩)
 ·rintro (⟨j,hj,e1,e2⟩ | ⟨e1,e2⟩ | ⟨e1,e2⟩)
  ·exact⟨j,by omega,e1,e2⟩
  ·exact⟨2*i,by omega,e1.symm,by rw[m1];exact e2.symm⟩
  ·exact⟨2*i+1,by omega,e1.symm,by rw[m2];exact e2.symm⟩
theorem CG(i:Nat):L4 N (i+1)=fun k=>L4 N i (CF (2*i) (2*i+1) k):=funext fun k=>by
 obtain⟨m1,m2⟩:=Ls i
 unfold L4
 by_cases e1:k=2*i
 ·rw[e1,QT,aC (by omega),aA (by omega),m1]
 ·by_cases e2:k=2*i+1
  ·rw[e2,M4,aC (by omega),aA (by omega),m2]
  ·rw[FI e1 e2]
   by_cases e3:k/2<i
   ·rw[aC e3,aC (by omega)]
   ·rw[aA e3,aA (by omega)]
variable {n F:Nat} (he:n%2=0) (hN:∀k,k<n→N k<n) (hi:∀x y,x<n→y<n→N x=N y→x=y) (hF:∀k,k<n→ff k<F) (hff:∀k,k<n→ff (N k)=ff k)
include he hN hi hF hff
theorem Tq(i:Nat):(∀x,x<n→L4 N i x<n)∧∀x y,x<n→y<n→L4 N i x=L4 N i y→x=y:=by
 have hm:∀k,k<n→(if k/2<i then mt k else k)<n:=fun k hk=>by
  split
  ·exact kQ he hk
  ·exact hk
 refine⟨fun x hx=>hN _ (hm x hx),fun x y hx hy e=>?_⟩
 have h1:=hi _ _ (hm x hx) (hm y hy) e
 have:=kP x
 have:=kP y
 have:=mZ x
 have:=mZ y
 by_cases q1:x/2<i
 ·by_cases q2:y/2<i
  ·rw[aC q1,aC q2] at h1;exact QQ h1
  ·rw[aC q1,aA q2] at h1;omega
 ·by_cases q2:y/2<i
  ·rw[aA q1,aC q2] at h1;omega
  ·rw[aA q1,aA q2] at h1;exact h1
theorem Ht:∀i,i≤n/2→EO n (rf (L4 N i))+2*F≤EO n (rf (L4 N 0))+i+2*EO F (dw ff i)∧(EO n (rf (L4 N i))+EO n (rf (L4 N 0))+i)%2=0∧∀x y,ar n (rf (L4 N i)) x y→ar F (dw ff i) (ff x) (ff y):=by
 intro i
 induction i with
 | zero=>
  intro _
  refine⟨?_,by omega,fun x y h=>?_⟩
  ·have:EO F (dw ff 0)=F:=Lp fun a b=>by
    cases h:dw ff 0 a b with
    | false=>rfl
    | true=>obtain⟨j,hj,_⟩:=GX.1 h;omega
   rw[this];omega
  ·have key:ff x=ff y:=by
    have one:∀k,k<n→ff (L4 N 0 k)=ff k:=fun k hk=>by
     unfold L4;rw[aA (by omega)];exact hff k hk
    induction h with
    | refl _=>rfl
    | @step j k h1 hr hk ih=>
     rcases tD.1 hr with e | e
     ·rw[ih,←e,one j h1.lt.2]
     ·rw[ih,←e,one k hk]
   rw[key];exact .refl (hF y h.lt.2)
 | succ i ih=>
  intro hle
  obtain⟨i1,i2,i3⟩:=ih (by omega)
  obtain⟨g1,g2⟩:=Tq he hN hi hF hff i
  have ha:2*i<n:=by omega
  have hb:2*i+1<n:=by omega
  have hfa:=hF _ ha
  have hfb:=hF _ hb
  have hj:=Lo (r:=dw ff i) (r':=dw ff (i+1)) (QV i) hfa hfb (fun a b=>QW)
  have up:∀a b,ar F (dw ff i) a b→ar F (dw ff (i+1)) a b:=fun a b=>ar.mono fun a b ha hb h=>.one ha hb (QW.2 (.inl h))
  have ab:ar F (dw ff (i+1)) (ff (2*i)) (ff (2*i+1)):=.one hfa hfb (QW.2 (.inr (.inl ⟨rfl,rfl⟩)))
  have c3:∀x y,ar n (rf (L4 N (i+1))) x y→ar F (dw ff (i+1)) (ff x) (ff y):=fun x y h=>by
   have one:∀k,k<n→ar F (dw ff (i+1)) (ff k) (ff (L4 N (i+1) k)):=fun k hk=>by
    rw[CG]
    show ar F _ (ff k) (ff (L4 N i (CF (2*i) (2*i+1) k)))
    have st:∀z,z<n→ar F (dw ff (i+1)) (ff z) (ff (L4 N i z)):=fun z hz=>up _ _ (i3 _ _ (Bu g1 g2 hz))
    by_cases e1:k=2*i
    ·rw[e1,QT];exact ab.trans (st _ hb)
    ·by_cases e2:k=2*i+1
     ·rw[e2,M4];exact(ab.symm (QV _)).trans (st _ ha)
     ·rw[FI e1 e2];exact st k hk
   induction h with
   | refl h1=>exact .refl (hF _ h1)
   | @step j k h1 hr hk ih2=>
    rcases tD.1 hr with e | e
    ·rw[←e];exact ih2.trans (one j h1.lt.2)
    ·have:=one k hk
     rw[e] at this
     exact ih2.trans (this.symm (QV _))
  refine⟨?_,?_,c3⟩
  ·by_cases hc:ar F (dw ff i) (ff (2*i)) (ff (2*i+1))
   ·rw[hj.1 hc]
    by_cases hd:ar n (rf (L4 N i)) (2*i) (2*i+1)
    ·have:=QU g1 g2 ha hb (by omega) hd
     rw[←CG] at this;omega
    ·have:=DF g1 g2 ha hb hd
     rw[←CG] at this;omega
   ·have h2:=hj.2 hc
    have:=DF g1 g2 ha hb (fun hd=>hc (i3 _ _ hd))
    rw[←CG] at this;omega
  ·by_cases hd:ar n (rf (L4 N i)) (2*i) (2*i+1)
   ·have:=QU g1 g2 ha hb (by omega) hd
    rw[←CG] at this;omega
   ·have:=DF g1 g2 ha hb hd
    rw[←CG] at this;omega
end
theorem Ef(P:Nat→Bool)(n:Nat):aw (fun k=>!P k) n+aw P n=n:=by
 induction n with
 | zero=>rfl
 | succ n ih=>
  simp only[aw]
  by_cases h:P n=true
  ·rw[aC h,aA (by rw[h];decide)];omega
  ·rw[aA h,aC (by rw[Bool.not_eq_true] at h;rw[h];rfl)];omega
theorem Tr{t:Tp}(h:CKP t):mx t (nF t)=(EO (nF t) (rl t):Int):=by
 have key:∀k,k≤nF t→mx t k=(mJ (nF t) (rl t) k:Int):=fun k=>by
  induction k with
  | zero=>intro _;rfl
  | succ k ih=>
   intro hk
   simp only[mx,mJ]
   rw[ih (by omega)]
   unfold OE
   have hl:=G7 (r:=rl t) (N:=nF t) (i:=k) (by omega)
   by_cases e:gT (nF t) (rl t) k=k
   ·rw[aC e,e];omega
   ·rw[aA e]
    have h1:mJ (nF t) (rl t) (gT (nF t) (rl t) k+1)≤mJ (nF t) (rl t) k:=Hq (by omega)
    simp only[mJ] at h1
    rw[aC (xD (zM h) (by omega))] at h1
    omega
 exact key _ (gB _)
theorem euler{t:Tp}(ht:CKP t):(t.V-((t.hs.length/2:Nat):Int)+t.F-((t.rs.length:Int)-t.F))%2=0∧t.V-((t.hs.length/2:Nat):Int)+t.F-((t.rs.length:Int)-t.F)≤2*(EO (nF t) (rl t):Int):=by
 obtain⟨hw,nn⟩:=ht.wv
 have hk:=ht.toHok
 have he:=ht.e
 have hV0:=ht.V0
 have hF0:=ht.F0
 have hnF:(nF t:Int)=t.F:=ht.dy.1
 have hring:∀k,k<t.hs.length→(bA t).r (nx t k)=(bA t).r k:=fun k h=>hw.rn k ⟨h,rfl⟩
 have main:=Ht (N:=nx t) (ff:=ff t) (n:=t.hs.length) (F:=nF t) he (fun k=>hk.bf) (fun x y=>hk.fl) (fun k h=>(ht.ia h).2) (fun k h=>by
  unfold ff;rw[hk.rg h]) (t.hs.length/2) (gB _)
 have hrho:EO (nF t) (dw (ff t) (t.hs.length/2))=EO (nF t) (rl t):=by
  have e:dw (ff t) (t.hs.length/2)=rl t:=funext fun a=>funext fun b=>by
   have e1:=@GX (ff t) (t.hs.length/2) a b
   have e2:=@AU t a b
   rw[show 2*(t.hs.length/2)=t.hs.length by omega] at e1
   have e3:=e1.trans e2.symm
   cases h1:dw (ff t) (t.hs.length/2) a b <;> cases h2:rl t a b
   ·rfl
   ·rw[h1,h2] at e3;exact absurd (e3.2 rfl) (by decide)
   ·rw[h1,h2] at e3;exact absurd (e3.1 rfl) (by decide)
   ·rfl
  rw[e]
 rw[hrho] at main
 have mOf:∀q y,dD (bA t).n ((bA t).ki tE.L q) y↔y<t.hs.length∧(bA t).r y=q:=fun q y=>by
  show (y<t.hs.length∧(true&&decide ((bA t).r y=q))=true)↔_
  rw[fM,bE]
 have mOv:∀u y,dD (bA t).n ((bA t).lf tE.L u) y↔y<t.hs.length∧(bA t).f y=u:=fun q y=>by
  show (y<t.hs.length∧(true&&decide ((bA t).f y=q))=true)↔_
  rw[fM,bE]
 have orbC:∀{f:Nat→Nat} {P:Nat→Bool},(∀x,x<t.hs.length→f x<t.hs.length)→bu f t.hs.length P→∀i j,dD t.hs.length P i→dD t.hs.length P j→ar t.hs.length (rf f) i j:=fun {f P} _ ho i j hi hj=>by
  obtain⟨m,hm,cj⟩:=ho.at hi.1 hi.2
  rcases cJ.1 ((cj j).2 hj) with e | e
  ·rw[e];exact .refl hi.1
  ·obtain⟨A,B,e2⟩:=HG e
   have h2:=hm.1
   rw[e2] at h2
   exact GW (hJ.1 h2).1 (fun w hw=>((cj w).1 (by
    rcases cJ.1 hw with e3 | e3
    ·rw[e3];simp
    ·exact dY _ (by rw[e2];exact yU _ e3))).1) hj.1
 have f0:L4 (nx t) 0=nx t:=funext fun k=>by unfold L4;rw[aA (by omega)]
 have cR:EO t.hs.length (rf (L4 (nx t) 0))=aw (fun q=>!(bA t).al q) t.rs.length:=by
  rw[f0]
  refine Ee (xP _) (lab:=(bA t).r) (fun k h=>⟨(hw.hr k ⟨h,rfl⟩).1,?_⟩) (fun i j hi hj=>⟨fun h=>?_,fun e=>?_⟩) (fun q hq hl=>?_)
  ·cases hx:(bA t).al ((bA t).r k) with
   | false=>rfl
   | true=>exact absurd rfl ((hw.ra _ (hw.hr k ⟨h,rfl⟩) hx).2 k ⟨h,rfl⟩)
  ·induction h with
   | refl _=>rfl
   | @step j k h1 hr hk2 ih=>
    rcases tD.1 hr with e | e
    ·rw[ih h1.lt.2,←e,hring j h1.lt.2]
    ·rw[ih h1.lt.2,←e,hring k hk2]
  ·cases hx:(bA t).al ((bA t).r i) with
   | true=>exact absurd rfl ((hw.ra _ (hw.hr i ⟨hi,rfl⟩) hx).2 i ⟨hi,rfl⟩)
   | false=>exact orbC (fun _=>hk.bf) (hw.ro _ (hw.hr i ⟨hi,rfl⟩) hx) i j ((mOf _ _).2 ⟨hi,rfl⟩) ((mOf _ _).2 ⟨hj,e.symm⟩)
  ·have hx:(bA t).al q=false:=by cases h:(bA t).al q with
    | false=>rfl
    | true=>rw[h] at hl;cases hl
   obtain⟨x,m,hc,hm⟩:=hw.ro q ⟨hq,rfl⟩ hx
   exact⟨x,(mOf q x).1 ((hm x).1 (by simp))⟩
 have cV:EO t.hs.length (rf (L4 (nx t) (t.hs.length/2)))=aw (fun u=>!decide (∃q,q<t.rs.length∧(bA t).al q=true∧(bA t).rv q=u)) t.V.toNat:=by
  have fE:∀k,k<t.hs.length→L4 (nx t) (t.hs.length/2) k=nx t (mt k):=fun k h=>by unfold L4;rw[aC (by omega)]
  have fv:∀k,k<t.hs.length→(bA t).f (L4 (nx t) (t.hs.length/2) k)=(bA t).f k:=fun k h=>by
   rw[fE k h]
   have:=hw.ff (mt k) ⟨kQ he h,rfl⟩
   rw[oZ] at this
   exact this
  have vorb:∀k,k<t.hs.length→(∀q,q<t.rs.length→(bA t).al q=true→(bA t).rv q≠(bA t).f k)∧bu (bA t).sg t.hs.length ((bA t).lf tE.L ((bA t).f k)):=fun k h=>by
   rcases hw.va ((bA t).f k) (hw.hf k ⟨h,rfl⟩) with⟨_,h2⟩ | ⟨h2,h3⟩
   ·exact absurd rfl (h2 k ⟨h,rfl⟩)
   ·exact⟨fun q hq=>h2 q ⟨hq,rfl⟩,h3⟩
  refine Ee (xP _) (lab:=(bA t).f) (fun k h=>⟨(hw.hf k ⟨h,rfl⟩).1,?_⟩) (fun i j hi hj=>⟨fun h=>?_,fun e=>?_⟩) (fun u hu hl=>?_)
  ·rw[OY]
   exact aW fun⟨q,hq,h2,h3⟩=>(vorb k h).1 q hq h2 h3
  ·induction h with
   | refl _=>rfl
   | @step j k h1 hr hk2 ih=>
    rcases tD.1 hr with e | e
    ·rw[ih h1.lt.2,←e,fv j h1.lt.2]
    ·rw[ih h1.lt.2,←e,fv k hk2]
  ·have sl:∀x,x<t.hs.length→(bA t).sg x<t.hs.length:=fun x hx=>kQ he (hk.aj hx)
   have h1:=orbC sl (vorb i hi).2 i j ((mOv _ _).2 ⟨hi,rfl⟩) ((mOv _ _).2 ⟨hj,e.symm⟩)
   have back:∀x,x<t.hs.length→L4 (nx t) (t.hs.length/2) ((bA t).sg x)=x:=fun x hx=>by
    rw[fE _ (sl x hx)]
    show nx t (mt (mt (pv t x)))=x
    rw[oZ,hk.np hx]
   refine h1.mono fun x y hx hy hr=>?_
   rcases tD.1 hr with e2 | e2
   ·exact .one hx hy (tD.2 (.inr (by rw[←e2];exact back x hx)))
   ·exact .one hx hy (tD.2 (.inl (by rw[←e2];exact back y hy)))
  ·have hx:¬∃q,q<t.rs.length∧(bA t).al q=true∧(bA t).rv q=u:=by
    rw[OY] at hl
    exact rS hl
   rcases hw.va u ⟨hu,rfl⟩ with⟨⟨q,⟨h1,h2,h3⟩,_⟩,_⟩ | ⟨_,h3⟩
   ·exact absurd ⟨q,h1.1,h2,h3⟩ hx
   ·obtain⟨x,m,hc,hm⟩:=h3
    exact⟨x,(mOv u x).1 ((hm x).1 (by simp))⟩
 have cL:aw (fun u=>decide (∃q,q<t.rs.length∧(bA t).al q=true∧(bA t).rv q=u)) t.V.toNat=aw (bA t).al t.rs.length:=by
  have uni:∀p q,p<t.rs.length→q<t.rs.length→(bA t).al p=true→(bA t).al q=true→(bA t).rv p=(bA t).rv q→p=q:=fun p q hp hq ap aq e=>by
   rcases hw.va ((bA t).rv p) (hw.ra p ⟨hp,rfl⟩ ap).1 with⟨⟨z,_,h2⟩,_⟩ | ⟨h2,_⟩
   ·rw[h2 p ⟨hp,rfl⟩ ap rfl,h2 q ⟨hq,rfl⟩ aq e.symm]
   ·exact absurd rfl (h2 p ⟨hp,rfl⟩ ap)
  refine UG (N3 (g:=fun u=>if h:∃q,q<t.rs.length∧(bA t).al q=true∧(bA t).rv q=u then Classical.choose h else 0) (fun u hu pu=>?_) fun a b ha hb pa pb e=>?_) (N3 (g:=(bA t).rv) (fun q hq pq=>⟨(hw.ra q ⟨hq,rfl⟩ pq).1.1,aR ⟨q,hq,pq,rfl⟩⟩) uni)
  ·have h:=bI pu
   have hc:=I9 h
   simp only[I8 h]
   exact⟨hc.1,hc.2.1⟩
  ·have h:=bI pa
   have h':=bI pb
   simp only[I8 h,I8 h'] at e
   have hc:=(I9 h).2.2
   have hd:=(I9 h').2.2
   rw[←hc,←hd,e]
 have nR:=Ef (bA t).al t.rs.length
 have nV:=Ef (fun u=>decide (∃q,q<t.rs.length∧(bA t).al q=true∧(bA t).rv q=u)) t.V.toNat
 obtain⟨m1,m2,_⟩:=main
 rw[cR,cV] at m1 m2
 rw[cL] at nV
 constructor <;> omega
end Go.Eng.Tl
set_option linter.unusedSectionVars false
namespace Go.Eng.Tl
open Go.Eng
section
variable {N P:Nat→Nat} {n a b:Nat} (hN:∀k,k<n→N k<n) (hP:∀k,k<n→P k<n) (PN:∀k,k<n→P (N k)=k) (NP:∀k,k<n→N (P k)=k) (ha:a<n) (hb:b<n) (hab:a≠b)
include hN hP PN NP ha hb hab
theorem Y4{k:Nat}(hk:k<n)(e:N a=b)(ka:k≠a)(kb:k≠b):skip N a b k=if N b=a then N k else if P a=k then N b else N k:=by
 have i1:N k=a→k=P a:=fun e=>by rw[←e,PN k hk]
 have i2:N k=b→k=a:=fun e2=>by rw[←PN k hk,e2,←e,PN a ha]
 have i3:N b=b→b=a:=fun e2=>by rw[←PN b hb,e2,←e,PN a ha]
 have i4:P a=k→N k=a:=fun e=>by rw[←e,NP a ha]
 unfold skip
 have h2:N k≠b:=fun e=>ka (i2 e)
 have h3:N b≠b:=fun e=>hab (i3 e).symm
 by_cases e1:N k=a
 ·have h5:N b≠a:=fun e6=>kb (by rw[←PN k hk,e1,←e6,PN b hb])
  simp only[aC e1,aA h3,aA h5,aC (i1 e1).symm]
 ·have h5:P a≠k:=fun e=>e1 (i4 e)
  simp only[aA e1,aA h2,aA h5,ite_self]
theorem RB{k:Nat}(hk:k<n)(bo:¬(N a=a∧N b=b))(ka:k≠a)(kb:k≠b):skip N a b k=skip N b a k:=by
 have inj:∀y z,y<n→z<n→N y=N z→y=z:=fun y z hy hz e=>by rw[←PN y hy,e,PN z hz]
 have i1:N k=a→N a≠a:=fun e e2=>ka (inj k a hk ha (e.trans e2.symm))
 have i2:N k=b→N b≠b:=fun e e2=>kb (inj k b hk hb (e.trans e2.symm))
 have i3:N k=a→N b≠a:=fun e e2=>kb (inj k b hk hb (e.trans e2.symm))
 have i4:N k=b→N a≠b:=fun e e2=>ka (inj k a hk ha (e.trans e2.symm))
 unfold skip
 by_cases e1:N k=a
 ·have h1:N k≠b:=fun e=>hab (e1.symm.trans e)
  by_cases e2:N b=b
  ·simp only[aC e1,aC e2,aA (i1 e1),aA h1]
  ·simp only[aC e1,aA e2,aA h1,aA hab]
 ·by_cases e2:N k=b
  ·by_cases e3:N a=a
   ·simp only[aA e1,aC e2,aC e3,aA (i2 e2)]
   ·simp only[aA e1,aC e2,aA e3]
  ·simp only[aA e1,aA e2]
theorem TV{k:Nat}(hk:k<n)(e1:N a≠a)(e2:N b≠b)(ka:k≠a)(kb:k≠b):skip N a b k=if P b=k then N a else if P a=k then N b else N k:=by
 have q1:N k=a↔P a=k:=⟨fun e=>by rw[←e,PN k hk],fun e=>by rw[←e,NP a ha]⟩
 have q2:N k=b↔P b=k:=⟨fun e=>by rw[←e,PN k hk],fun e=>by rw[←e,NP b hb]⟩
 unfold skip
 by_cases h1:N k=a
 ·have h2:P b≠k:=fun e=>hab (h1.symm.trans (q2.2 e))
  simp only[aC h1,aA e2,aA h2,aC (q1.1 h1)]
 ·by_cases h2:N k=b
  ·simp only[aA h1,aC h2,aA e1,aC (q2.1 h2)]
  ·simp only[aA h1,aA h2,aA (fun e=>h2 (q2.2 e)),aA (fun e=>h1 (q1.2 e))]
theorem TW{k:Nat}(hk:k<n)(e1:N a≠a)(e2:N b=b)(ka:k≠a)(kb:k≠b):skip N a b k=if P a=k then N a else N k:=by
 have q1:N k=a↔P a=k:=⟨fun e=>by rw[←e,PN k hk],fun e=>by rw[←e,NP a ha]⟩
 have h2:N k≠b:=fun e=>kb (by have h3:=PN k hk;rw[e] at h3;have h4:=PN b hb;rw[e2] at h4;exact h3.symm.trans h4)
 unfold skip
 by_cases h1:N k=a
 ·simp only[aC h1,aC e2,aA e1,aC (q1.1 h1)]
 ·simp only[aA h1,aA h2,aA (fun e=>h1 (q1.2 e))]
end
theorem Hok.fu{t:Tp}(ht:Hok t):(∀k,k<t.hs.length→nx t k<t.hs.length)∧(∀k,k<t.hs.length→pv t k<t.hs.length)∧(∀k,k<t.hs.length→pv t (nx t k)=k)∧∀k,k<t.hs.length→nx t (pv t k)=k:=
 ⟨fun _=>ht.bf,fun _=>ht.aj,fun _=>ht.pn,fun _=>ht.np⟩
theorem RC{t:Tp}(ht:Hok t){a:Nat}(ha:a<t.hs.length)(e:nx t a=mt a){hs:List Hf}
 (h1:∀k,k<t.hs.length→(hG hs k).n=if nx t (mt a)≠a∧pv t a=k then (nx t (mt a):Int) else (hG t.hs k).n)
 (h2:∀k,k<t.hs.length→(hG hs k).p=if nx t (mt a)≠a∧nx t (mt a)=k then (pv t a:Int) else (hG t.hs k).p):bd (bA t) a (fun k=>(hG hs k).n.toNat) (fun k=>(hG hs k).p.toNat):=by
 obtain⟨hN,hP,PN,NP⟩:=ht.fu
 have hb:=kQ ht.e ha
 have hab:a≠mt a:=(rL a).symm
 have hp:pv t (mt a)=a:=by rw[←e,PN a ha]
 refine⟨fun k hk ka kb=>?_,fun k hk ka kb=>?_⟩
 ·show (hG hs k).n.toNat=skip (nx t) a (mt a) k
  rw[Y4 hN hP PN NP ha hb hab hk e ka kb,h1 k hk]
  by_cases e1:nx t (mt a)=a
  ·rw[aC e1,aA (fun x=>x.1 e1)];rfl
  ·rw[aA e1]
   by_cases e2:pv t a=k
   ·rw[aC ⟨e1,e2⟩,aC e2];rfl
   ·rw[aA (fun x=>e2 x.2),aA e2];rfl
 ·show (hG hs k).p.toNat=skip (pv t) a (mt a) k
  have q:¬(pv t a=a∧pv t (mt a)=mt a):=fun x=>hab (hp.symm.trans x.2)
  rw[RB hP hN NP PN ha hb hab hk q ka kb,Y4 hP hN NP PN hb ha hab.symm hk hp kb ka,h2 k hk]
  have e0:pv t a=mt a↔nx t (mt a)=a:=⟨fun e=>by rw[←e,NP a ha],fun e=>by rw[←PN _ hb,e]⟩
  by_cases e1:nx t (mt a)=a
  ·rw[aC (e0.2 e1),aA (fun x=>x.1 e1)];rfl
  ·rw[aA (fun x=>e1 (e0.1 x))]
   by_cases e2:nx t (mt a)=k
   ·rw[aC ⟨e1,e2⟩,aC e2];rfl
   ·rw[aA (fun x=>e2 x.2),aA e2];rfl
theorem N9{t:Tp}(ht:Hok t){h:Nat}(hh:h<t.hs.length)(k:Nat):hG (HU t h) k=⟨(hG t.hs k).f,if nx t (mt h)≠h∧pv t h=k then (nx t (mt h):Int) else (hG t.hs k).n,if nx t (mt h)≠h∧nx t (mt h)=k then (pv t h:Int) else (hG t.hs k).p,(hG t.hs k).r⟩:=by
 unfold HU
 by_cases e:nx t (mt h)=h
 ·rw[aC e,aA (fun x=>x.1 e),aA (fun x=>x.1 e)]
 ·rw[aA e,bF (ht.aj hh) (ht.bf (kQ ht.e hh))]
  simp only[uW,e,ZK,OI]
theorem Qu{t:Tp}(ht:CKP t){h:Nat}(hh:h<t.hs.length)(e:nx t h=mt h):(hG t.hs (mt h:Nat)).f≠(hG t.hs h).f∧(∀k,k<t.hs.length→(hG t.hs k).f=(hG t.hs (mt h:Nat)).f→k=mt h):=by
 have hk:=ht.toHok
 have hb:=kQ ht.e hh
 obtain⟨⟨v0,v1⟩,_⟩:=iS.1 (hk.b1 (mt h) hb)
 obtain⟨v,hv⟩:∃v:Nat,(hG t.hs (mt h:Nat)).f=v:=⟨(hG t.hs (mt h:Nat)).f.toNat,by omega⟩
 have only:∀k,k<t.hs.length→(hG t.hs k).f=(hG t.hs (mt h:Nat)).f→k=mt h:=fun k hkl ef=>by
  rcases ht.vv v (by omega) with⟨_,h2⟩ | ⟨_,ho⟩
  ·have h3:=h2 _ hb
   unfold nJ at h3
   rw[aR hv] at h3;cases h3
  ·exact WD ho ⟨hb,aR hv⟩ (by show mt (pv t (mt h))=mt h;have h5:=hk.pn hh;rw[e] at h5;rw[h5]) k ⟨hkl,aR (ef.trans hv)⟩
 exact⟨fun e2=>rL h (only h hh e2.symm).symm,only⟩
theorem Qv{t:Tp}(ht:CKP t){h r:Nat}(hh:h<t.hs.length)(hr:r<t.rs.length)(cn:fC t r h=true)(hnx:nx t h=mt h):CKP (lz (I3 t h r)):=by
 obtain⟨hw,nn⟩:=ht.wv
 have hk:=ht.toHok
 have he:=ht.e
 have hb:=kQ he hh
 have hr1:(hG t.hs h).r=(r:Int):=bI cn
 obtain⟨⟨v0,v1⟩,_⟩:=iS.1 (hk.b1 (mt h) hb)
 obtain⟨⟨u0,u1⟩,_⟩:=iS.1 (hk.b1 h hh)
 obtain⟨hne,only⟩:=Qu ht hh hnx
 let X:Tp:=⟨t.V,t.F,HU t h,Q8 t h r⟩
 have lh:X.hs.length=t.hs.length:=jB t h
 have lr:X.rs.length=t.rs.length:=J5 t h r
 have gh:∀k:Nat,hG X.hs k=_:=fun k=>N9 hk hh k
 have gr:∀q:Nat,q<t.rs.length→rG X.rs q=if nx t (mt h)=h∧q=r then { rG t.rs r with h:=-1,v:=(hG t.hs h).f } else rG t.rs q:=fun q hq=>by
  show rG (Q8 t h r) q=_
  unfold Q8
  by_cases e:nx t (mt h)=h
  ·rw[aC e,jE hr]
   by_cases e2:r=q
   ·rw[aC e2,aC ⟨e,e2.symm⟩]
   ·rw[aA e2,aA (fun x=>e2 x.2.symm)]
  ·rw[aA e,aA (fun x=>e x.1)]
 have hrr:(bA t).r h=r:=by show (hG t.hs h).r.toNat=r;rw[hr1];rfl
 have hg:bd (bA t) h (bA X).nx (bA X).pv:=RC hk hh hnx (fun k _=>by rw[gh k]) (fun k _=>by rw[gh k])
 have hl:¬((bA t).nx h=h∧(bA t).nx (mt h)=mt h):=fun x=>rL h (hnx.symm.trans x.1)
 have w1:=hw.ot (al:=(bA X).al) (rv:=(bA X).rv) hg hh hnx (fun q hq=>by
  show decide ((rG X.rs q).h=-1)=if nx t (mt h)=h∧q=(bA t).r h then true else decide ((rG t.rs q).h=-1)
  rw[gr q hq,hrr]
  by_cases e:nx t (mt h)=h∧q=r
  ·rw[aC e,aC e];exact aR rfl
  ·rw[aA e,aA e]) (fun q hq _=>by
  show (rG X.rs q).v.toNat=if nx t (mt h)=h∧q=(bA t).r h then (hG t.hs h).f.toNat else (rG t.rs q).v.toNat
  rw[gr q hq,hrr]
  by_cases e:nx t (mt h)=h∧q=r
  ·rw[aC e,aC e]
  ·rw[aA e,aA e])
 have w2:=w1.congr (f:=(bA X).f) (r:=(bA X).r) (nx:=(bA X).nx) (pv:=(bA X).pv) (al:=(bA X).al) (rv:=(bA X).rv) (rc:=(bA X).rc)
  (fun j _=>by show (hG X.hs j).f.toNat=_;rw[gh j];rfl) (fun j _=>by show (hG X.hs j).r.toNat=_;rw[gh j];rfl) (fun _ _=>rfl) (fun _ _=>rfl) (fun _ _=>rfl) (fun _ _ _=>rfl) (fun q hq=>by
   show (rG X.rs q).c.toNat=(rG t.rs q).c.toNat
   rw[gr q hq.1]
   by_cases e:nx t (mt h)=h∧q=r
   ·rw[aC e,e.2]
   ·rw[aA e])
 have e1:bA X={ bA t with f:=(bA X).f,r:=(bA X).r,nx:=(bA X).nx,pv:=(bA X).pv,al:=(bA X).al,rv:=(bA X).rv,rc:=(bA X).rc }:=by
  show Mp.mk _ _ _ _ _ _ _ _ _ _ _=Mp.mk _ _ _ _ _ _ _ _ _ _ _
  rw[lh,lr]
  rfl
 have w3:WV (bA X) ⟨B1 h,fun _=>true,fun v=>decide (v≠(hG t.hs (mt h:Nat)).f.toNat),fun _=>true⟩:=by
  rw[e1];exact w2
 have n3:NN X ⟨B1 h,fun _=>true,fun v=>decide (v≠(hG t.hs (mt h:Nat)).f.toNat),fun _=>true⟩:=by
  refine⟨fun k hkk=>?_,fun q hq=>?_⟩
  ·have hk1:k<t.hs.length:=by rw[←lh];exact hkk.1
   obtain⟨a,b,c,d⟩:=nn.h k ⟨hk1,rfl⟩
   rw[gh k]
   refine⟨a,?_,?_,d⟩
   ·show 0≤(if nx t (mt h)≠h∧pv t h=k then (nx t (mt h):Int) else (hG t.hs k).n)
    split <;> omega
   ·show 0≤(if nx t (mt h)≠h∧nx t (mt h)=k then (pv t h:Int) else (hG t.hs k).p)
    split <;> omega
  ·have hq1:q<t.rs.length:=by rw[←lr];exact hq.1
   obtain⟨a,b⟩:=nn.c q ⟨hq1,rfl⟩
   rw[gr q hq1]
   by_cases e:nx t (mt h)=h∧q=r
   ·rw[aC e]
    exact⟨by show 0≤(rG t.rs r).c;rw[←e.2];exact a,.inl ⟨rfl,u0⟩⟩
   ·rw[aA e];exact⟨a,b⟩
 have w4:=Ng (X:=X) (by rw[lh];exact he) (by rw[lh];exact hh) w3
 have n4:=Nh (X:=X) (by rw[lh];exact he) (by rw[lh];exact hh) n3
 obtain⟨w5,n5⟩:=Wn (X:={ X with hs:=dE X.hs h }) (v:=(hG t.hs (mt h:Nat)).f) ⟨v0,v1⟩ n4 w4
 have hl2:=WC t h r
 have hn:=ht.n
 have hV:=ht.V1
 refine WV.fp (t:=I3 t h r) { n:=by rw[hl2.1];omega,e:=by rw[hl2.1];omega,V0:=by show 1≤t.V-1;omega,V1:=by show t.V-1≤257;omega,F0:=ht.F0,F1:=ht.F1,R:=by rw[hl2.2];exact ht.R } n5 w5
end Go.Eng.Tl
set_option linter.unusedSectionVars false
namespace Go.Eng.Tl
open Go.Eng
namespace Mf
variable {t:Tp} {h g r:Nat} {P Q:List Nat}
def X(t:Tp)(h g r:Nat)(P:List Nat):Tp:=⟨t.V,t.F+1,CH t h g r P,t.rs.set r { rG t.rs r with h:=(t.hs.length:Int),v:=-1 }++[⟨((t.hs.length+1:Nat):Int),-1,t.F⟩]⟩
theorem get(k:Mf t h g r P Q)(j:Nat):hG (CH t h g r P) j=⟨(hG (AY t h g (r:Int) (t.rs.length:Int)) j).f,(hG (AY t h g (r:Int) (t.rs.length:Int)) j).n,(hG (AY t h g (r:Int) (t.rs.length:Int)) j).p,(hG (CH t h g r P) j).r⟩:=by
 unfold CH
 rw[eM _ _ _ _ (k.bP _ _)]
 by_cases e:j∈(t.hs.length+1)::P
 ·rw[aC e]
 ·rw[aA e]
theorem fp(k:Mf t h g r P Q)(hn:t.hs.length+2≤256)(hF:t.F+1≤257)(hR:t.rs.length+1≤257):CKP (lz (X t h g r P)):=by
 have ht:=k.ht
 obtain⟨hw,nn⟩:=ht.wv
 have hk:=ht.toHok
 have he:=ht.e
 have hh:=k.hh
 have hg:=k.hg
 have hr:=k.hr
 have hr1:(hG t.hs h).r=(r:Int):=bI k.cn
 have hF0:=ht.F0
 have lh:(X t h g r P).hs.length=t.hs.length+2:=k.len
 have lr:(X t h g r P).rs.length=t.rs.length+1:=by show (t.rs.set r _++[_]).length=_;simp
 have gr:∀q:Nat,q<t.rs.length→rG (X t h g r P).rs q=if r=q then { rG t.rs r with h:=(t.hs.length:Int),v:=-1 } else rG t.rs q:=fun q hq=>by
  show rG (t.rs.set r _++[_]) q=_
  rw[kA (by simpa using hq),jE hr]
 have grR:rG (X t h g r P).rs (t.rs.length:Nat)=⟨((t.hs.length+1:Nat):Int),-1,t.F⟩:=nW (by simp)
 have g0:∀j:Nat,j<t.hs.length→(hG (X t h g r P).hs j).f=(hG t.hs j).f∧(hG (X t h g r P).hs j).n=(if h≠g∧pv t g=j then ((t.hs.length+1:Nat):Int) else if pv t h=j then (t.hs.length:Int) else (hG t.hs j).n)∧(hG (X t h g r P).hs j).p=(if h≠g∧h=j then ((t.hs.length+1:Nat):Int) else if g=j then (t.hs.length:Int) else (hG t.hs j).p):=fun j hj=>by
  show (hG (CH t h g r P) j).f=_∧(hG (CH t h g r P) j).n=_∧(hG (CH t h g r P) j).p=_
  rw[k.get j,AT hk hh hg _ _ hj]
  exact⟨rfl,rfl,rfl⟩
 have ga:(hG (X t h g r P).hs (t.hs.length:Nat)).f=(hG t.hs h).f∧(hG (X t h g r P).hs (t.hs.length:Nat)).n=(g:Int)∧(hG (X t h g r P).hs (t.hs.length:Nat)).p=(pv t h:Int):=by
  show (hG (CH t h g r P) (t.hs.length:Nat)).f=_∧(hG (CH t h g r P) (t.hs.length:Nat)).n=_∧(hG (CH t h g r P) (t.hs.length:Nat)).p=_
  rw[k.get _,Q9 hk hh hg]
  exact⟨rfl,rfl,rfl⟩
 have gb:(hG (X t h g r P).hs ((t.hs.length+1:Nat):Int)).f=(hG t.hs g).f∧(hG (X t h g r P).hs ((t.hs.length+1:Nat):Int)).n=(if h=g then ((t.hs.length+1:Nat):Int) else (h:Int))∧(hG (X t h g r P).hs ((t.hs.length+1:Nat):Int)).p=(if h=g then ((t.hs.length+1:Nat):Int) else (pv t g:Int)):=by
  show (hG (CH t h g r P) ((t.hs.length+1:Nat):Int)).f=_∧(hG (CH t h g r P) ((t.hs.length+1:Nat):Int)).n=_∧(hG (CH t h g r P) ((t.hs.length+1:Nat):Int)).p=_
  rw[k.get _,YX hk hh hg]
  exact⟨rfl,rfl,rfl⟩
 have hp:=hk.aj hh
 have hq:=hk.aj hg
 have pne:h≠g→pv t h≠pv t g:=fun e e2=>e (by rw[←hk.np hh,e2,hk.np hg])
 have ends:Ends (bA t) h g (bA (X t h g r P)).f (bA (X t h g r P)).nx (bA (X t h g r P)).pv:=
  {
   f0:=fun j hj=>by show (hG (X t h g r P).hs j).f.toNat=_;rw[(g0 j hj).1];rfl,
   fx:=by show (hG (X t h g r P).hs (t.hs.length:Nat)).f.toNat=_;rw[ga.1];rfl,
   fy:=by show (hG (X t h g r P).hs ((t.hs.length+1:Nat):Int)).f.toNat=_;rw[gb.1];rfl,
   n0:=fun j hj e1 e2=>by
    show (hG (X t h g r P).hs j).n.toNat=_
    rw[(g0 j hj).2.1,aA (fun x=>e2 x.2.symm),aA (fun x=>e1 x.symm)];rfl,
   n1:=fun e=>by
    refine⟨?_,?_,?_,?_⟩
    ·show (hG (X t h g r P).hs (pv t h)).n.toNat=_
     rw[(g0 _ hp).2.1,aA (fun x=>pne e x.2.symm),aC rfl];rfl
    ·show (hG (X t h g r P).hs (t.hs.length:Nat)).n.toNat=_
     rw[ga.2.1];rfl
    ·show (hG (X t h g r P).hs (pv t g)).n.toNat=_
     rw[(g0 _ hq).2.1,aC ⟨e,rfl⟩];rfl
    ·show (hG (X t h g r P).hs ((t.hs.length+1:Nat):Int)).n.toNat=_
     rw[gb.2.1,aA e];rfl,
   n2:=fun e=>by
    refine⟨?_,?_,?_⟩
    ·show (hG (X t h g r P).hs (pv t h)).n.toNat=_
     rw[(g0 _ hp).2.1,aA (fun x=>x.1 e),aC rfl];rfl
    ·show (hG (X t h g r P).hs (t.hs.length:Nat)).n.toNat=_
     rw[ga.2.1,e];rfl
    ·show (hG (X t h g r P).hs ((t.hs.length+1:Nat):Int)).n.toNat=_
     rw[gb.2.1,aC e];rfl,
   p0:=fun j hj e1 e2=>by
    show (hG (X t h g r P).hs j).p.toNat=_
    rw[(g0 j hj).2.2,aA (fun x=>e1 x.2.symm),aA (fun x=>e2 x.symm)];rfl,
   p1:=fun e=>by
    refine⟨?_,?_,?_,?_⟩
    ·show (hG (X t h g r P).hs h).p.toNat=_
     rw[(g0 _ hh).2.2,aC ⟨e,rfl⟩];rfl
    ·show (hG (X t h g r P).hs g).p.toNat=_
     rw[(g0 _ hg).2.2,aA (fun x=>e x.2),aC rfl];rfl
    ·show (hG (X t h g r P).hs (t.hs.length:Nat)).p.toNat=_
     rw[ga.2.2];rfl
    ·show (hG (X t h g r P).hs ((t.hs.length+1:Nat):Int)).p.toNat=_
     rw[gb.2.2,aA e];rfl,
   p2:=fun e=>by
    refine⟨?_,?_,?_⟩
    ·show (hG (X t h g r P).hs h).p.toNat=_
     rw[(g0 _ hh).2.2,aA (fun x=>x.1 e),aC e.symm];rfl
    ·show (hG (X t h g r P).hs (t.hs.length:Nat)).p.toNat=_
     rw[ga.2.2];rfl
    ·show (hG (X t h g r P).hs ((t.hs.length+1:Nat):Int)).p.toNat=_
     rw[gb.2.2,aC e];rfl }
 have nxE:(bA (X t h g r P)).nx=nx ⟨0,0,AY t h g (r:Int) (t.rs.length:Int),[]⟩:=funext fun j=>by
  show (hG (CH t h g r P) j).n.toNat=(hG (AY t h g (r:Int) (t.rs.length:Int)) j).n.toNat
  rw[k.get j]
 have hrg:(bA t).r h=(bA t).r g:=by
  have h2:fC t r g=true:=by
   by_cases e:h=g
   ·rw[←e];exact k.cn
   ·-- g is the end of the walk of the new ring
    have c1:=k.ca 0 0 [] (r:Int) (t.rs.length:Int)
    cases hQ:Q with
    | nil=>
     rw[hQ] at c1
     have e1:(hG (AY t h g (r:Int) (t.rs.length:Int)) (t.hs.length:Nat)).n.toNat=t.hs.length:=c1.1
     rw[Q9 hk hh hg] at e1
     have e2:g=t.hs.length:=e1
     omega
    | cons q Q'=>
     rw[hQ] at c1
     have e1:(hG (AY t h g (r:Int) (t.rs.length:Int)) (t.hs.length:Nat)).n.toNat=q:=c1.1.1
     rw[Q9 hk hh hg] at e1
     have e2:g=q:=e1
     exact((k.m1 g).1 (.inr (by rw[hQ,e2];simp))).2
  show (hG t.hs h).r.toNat=(hG t.hs g).r.toNat
  rw[hr1,bI h2]
 have w1:=hw.qf (m:=bA t) (a:=h) (b:=g) (f:=(bA (X t h g r P)).f) (nx:=(bA (X t h g r P)).nx) (pv:=(bA (X t h g r P)).pv) (r:=(bA (X t h g r P)).r) (al:=(bA (X t h g r P)).al) (rv:=(bA (X t h g r P)).rv) (rc:=(bA (X t h g r P)).rc) ends he hh hg hrg
  (fun A hA j hj=>by
   have hj:j<t.hs.length+2:=hj
   rw[nxE] at hA
   have hAP:A=P:=hA.uniq (k.cb 0 0 [] (r:Int) (t.rs.length:Int))
   subst hAP
   show (hG (CH t h g r A) j).r.toNat=if j∈(t.hs.length+1)::A then t.rs.length else if j=t.hs.length then (hG t.hs h).r.toNat else (hG t.hs j).r.toNat
   by_cases e1:j<t.hs.length
   ·rw[k.rl e1]
    by_cases e2:j∈A
    ·rw[aC e2,aC (dY _ e2)];rfl
    ·rw[aA e2,aA (fun e3=>by
      rcases cJ.1 e3 with e4 | e4
      ·omega
      ·exact e2 e4),aA (by omega)]
   ·by_cases e2:j=t.hs.length
    ·have e3:j∉(t.hs.length+1)::A:=fun e3=>by
      rcases cJ.1 e3 with e4 | e4
      ·omega
      ·have:=((k.m1 _).1 (.inl e4)).1;omega
     rw[aA e3,aC e2,e2,k.ra,hr1]
    ·have e3:j=t.hs.length+1:=by omega
     rw[e3,aC (by simp),k.rb];rfl)
  (fun q hq=>by
   have hq:q<t.rs.length:=hq
   show decide ((rG (X t h g r P).rs q).h=-1)=decide ((rG t.rs q).h=-1)
   rw[gr q hq]
   by_cases e:r=q
   ·rw[aC e]
    show decide ((t.hs.length:Int)=-1)=_
    rcases ht.ew hq with⟨_,h2,_⟩ | ⟨h2,_⟩
    ·rw[aW h2];exact aW (by omega)
    ·exact absurd ⟨h,hh,by rw[hr1,e]⟩ h2
   ·rw[aA e])
  (by show decide ((rG (X t h g r P).rs (t.rs.length:Nat)).h=-1)=false
      rw[grR];exact aW (by show ¬((t.hs.length+1:Nat):Int)=-1;omega))
  (fun q hq bo=>by
   have hq:q<t.rs.length:=hq
   have bo:decide ((rG (X t h g r P).rs q).h=-1)=true:=bo
   show (rG (X t h g r P).rs q).v.toNat=(rG t.rs q).v.toNat
   rw[gr q hq] at bo ⊢
   by_cases e:r=q
   ·rw[aC e] at bo
    have h2:(t.hs.length:Int)=-1:=bI bo
    omega
   ·rw[aA e])
  (fun q hq=>by
   have hq:q<t.rs.length:=hq
   show (rG (X t h g r P).rs q).c.toNat=(rG t.rs q).c.toNat
   rw[gr q hq]
   by_cases e:r=q
   ·rw[aC e,e]
   ·rw[aA e])
  (by show (rG (X t h g r P).rs (t.rs.length:Nat)).c.toNat=t.F.toNat
      rw[grR])
 refine WV.fp { n:=by rw[lh];exact hn,e:=by rw[lh];omega,V0:=ht.V0,V1:=ht.V1,F0:=by show 1≤t.F+1;omega,F1:=hF,R:=by rw[lr];exact hR } ⟨fun j hj=>?_,fun q hq=>?_⟩ ?_
 ·have hj:j<t.hs.length+2:=by rw[←lh];exact hj.1
  have hrj:=k.rg j (by rw[k.len];exact hj)
  show 0≤(hG (X t h g r P).hs j).f∧0≤(hG (X t h g r P).hs j).n∧0≤(hG (X t h g r P).hs j).p∧0≤(hG (CH t h g r P) j).r
  by_cases e1:j<t.hs.length
  ·obtain⟨a,b,c,d⟩:=nn.h j ⟨e1,rfl⟩
   obtain⟨q1,q2,q3⟩:=g0 j e1
   rw[q1,q2,q3]
   refine⟨a,?_,?_,hrj.1⟩
   ·split
    ·omega
    ·split <;> omega
   ·split
    ·omega
    ·split <;> omega
  ·by_cases e2:j=t.hs.length
   ·obtain⟨q1,q2,q3⟩:=ga
    rw[e2] at hrj ⊢
    rw[q1,q2,q3]
    exact⟨(nn.h h ⟨hh,rfl⟩).1,by omega,by omega,hrj.1⟩
   ·have e3:j=t.hs.length+1:=by omega
    obtain⟨q1,q2,q3⟩:=gb
    rw[e3] at hrj ⊢
    rw[q1,q2,q3]
    refine⟨(nn.h g ⟨hg,rfl⟩).1,?_,?_,hrj.1⟩
    ·split <;> omega
    ·split <;> omega
 ·have hq1:q<t.rs.length+1:=by rw[←lr];exact hq.1
  by_cases e1:q=t.rs.length
  ·rw[e1,grR];exact⟨by show 0≤t.F;omega,.inr ⟨by show ((t.hs.length+1:Nat):Int)≠-1;omega,rfl⟩⟩
  ·have hq2:q<t.rs.length:=by omega
   obtain⟨a,b⟩:=nn.c q ⟨hq2,rfl⟩
   rw[gr q hq2]
   by_cases e:r=q
   ·rw[aC e]
    exact⟨by show 0≤(rG t.rs r).c;rw[e];exact a,.inr ⟨by show (t.hs.length:Int)≠-1;omega,rfl⟩⟩
   ·rw[aA e];exact⟨a,b⟩
 ·have e:bA (X t h g r P)={ n:=t.hs.length+2,R:=t.rs.length+1,V:=t.V.toNat,F:=t.F.toNat+1,f:=(bA (X t h g r P)).f,r:=(bA (X t h g r P)).r,nx:=(bA (X t h g r P)).nx,pv:=(bA (X t h g r P)).pv,al:=(bA (X t h g r P)).al,rv:=(bA (X t h g r P)).rv,rc:=(bA (X t h g r P)).rc }:=by
   show Mp.mk _ _ _ _ _ _ _ _ _ _ _=Mp.mk _ _ _ _ _ _ _ _ _ _ _
   rw[lh,lr]
   congr 1
   show (t.F+1).toNat=t.F.toNat+1
   omega
  rw[e];exact w1
end Mf
end Go.Eng.Tl
set_option linter.unusedSectionVars false
namespace Go.Eng.Tl
open Go.Eng
theorem WV.ll{m:Mp}{a:cy}(h:WV m a){R':Nat}(hR:m.R≤R'){al:Nat→Bool}{rv rc:Nat→Nat}(ha:∀j,j<m.R→al j=m.al j)(hv:∀j,j<m.R→al j=true→rv j=m.rv j)(hc:∀j,j<m.R→rc j=m.rc j):
 WV { m with R:=R',al:=al,rv:=rv,rc:=rc } { a with R:=fun q=>a.R q&&decide (q<m.R) }:=
 h.ji (s:=id) (i:=id) ⟨fun k hk=>⟨KX hk.1 hR,by show (a.R k&&decide (k<m.R))=true;rw[cS,bE];exact⟨hk.2,hk.1⟩⟩,fun k hk=>⟨bI (iC.1 hk.2).2,(iC.1 hk.2).1⟩,fun _ _=>rfl,fun _ _=>rfl⟩ (r:=m.r)
  (fun _ _=>rfl) (fun j hj=>ha j (bI (iC.1 hj.2).2)) (fun j hj=>hv j (bI (iC.1 hj.2).2)) (fun j hj=>hc j (bI (iC.1 hj.2).2))
theorem TX{t:Tp}(ht:Hok t){a:Nat}(ha:a<t.hs.length)(e1:nx t a≠a)(e2:nx t (mt a)≠mt a){hs:List Hf}
 (h1:∀k,k<t.hs.length→(pv t a=k∧(hG hs k).n=(nx t (mt a):Int))∨(pv t (mt a)=k∧(hG hs k).n=(nx t a:Int))∨(pv t a≠k∧pv t (mt a)≠k∧(hG hs k).n=(hG t.hs k).n))
 (h2:∀k,k<t.hs.length→(nx t (mt a)=k∧(hG hs k).p=(pv t a:Int))∨(nx t a=k∧(hG hs k).p=(pv t (mt a):Int))∨(nx t (mt a)≠k∧nx t a≠k∧(hG hs k).p=(hG t.hs k).p)):
 bd (bA t) a (fun k=>(hG hs k).n.toNat) (fun k=>(hG hs k).p.toNat):=by
 obtain⟨hN,hP,PN,NP⟩:=ht.fu
 have hb:=kQ ht.e ha
 have hab:a≠mt a:=(rL a).symm
 have np:pv t a≠pv t (mt a):=fun e=>hab ((NP a ha).symm.trans (by rw[e];exact NP _ hb))
 have nn:nx t a≠nx t (mt a):=fun e=>hab ((PN a ha).symm.trans (by rw[e];exact PN _ hb))
 refine⟨fun k hk ka kb=>?_,fun k hk ka kb=>?_⟩
 ·show (hG hs k).n.toNat=skip (nx t) a (mt a) k
  rw[TV hN hP PN NP ha hb hab hk e1 e2 ka kb]
  rcases h1 k hk with⟨q1,q2⟩ | ⟨q1,q2⟩ | ⟨q1,q3,q2⟩
  ·rw[q2,aA (fun e=>np (q1.trans e.symm)),aC q1];rfl
  ·rw[q2,aC q1];rfl
  ·rw[q2,aA q3,aA q1];rfl
 ·show (hG hs k).p.toNat=skip (pv t) a (mt a) k
  rw[TV hP hN NP PN ha hb hab hk (fun e=>e1 (by have:=NP a ha;rwa[e] at this)) (fun e=>e2 (by have:=NP _ hb;rwa[e] at this)) ka kb]
  rcases h2 k hk with⟨q1,q2⟩ | ⟨q1,q2⟩ | ⟨q1,q3,q2⟩
  ·rw[q2,aC q1];rfl
  ·rw[q2,aA (fun e=>nn (q1.trans e.symm)),aC q1];rfl
  ·rw[q2,aA q1,aA q3];rfl
theorem Ug(a:Nat):B1 (mt a)=B1 a:=funext fun k=>by
 unfold B1;rw[oZ,Bool.and_comm]
theorem Ev(t:Tp)(h:Nat)(B:List Nat)(hB:nx t (mt h)=h↔B=[]):CU t h [] B=HU t h:=by
 unfold HU
 cases B with
 | nil=>rw[aC (hB.2 rfl)];rfl
 | cons b B'=>rw[aA (fun e=>by cases hB.1 e)];rfl
def CJ(a b k:Nat):Nat:=if k=a then b else if k=b then a else k
theorem G6(a b k:Nat):CJ a b (CJ a b k)=k:=by
 unfold CJ
 by_cases e1:k=a
 ·rw[aC e1]
  by_cases e2:b=a
  ·rw[aC e2];omega
  ·rw[aA e2,aC rfl];exact e1.symm
 ·rw[aA e1]
  by_cases e2:k=b
  ·rw[aC e2,aC rfl];exact e2.symm
  ·rw[aA e2,aA e1,aA e2]
theorem WF{a b n k:Nat}(ha:a<n)(hb:b<n)(hk:k<n):CJ a b k<n:=by
 unfold CJ;split
 ·exact hb
 ·split <;> assumption
theorem Qw{a b n:Nat}(ha:a<n)(hb:b<n):ie n (fun _=>true) n (fun _=>true) (CJ a b) (CJ a b):=
 ⟨fun _ hk=>⟨WF ha hb hk.1,rfl⟩,fun _ hk=>⟨WF ha hb hk.1,rfl⟩,fun _ _=>G6 _ _ _,fun _ _=>G6 _ _ _⟩
namespace Km
variable {t:Tp} {h r:Nat} {A B:List Nat}
theorem nq(k:Km t h r A B):nx t h=mt h↔A=[]:=by
 constructor
 ·intro e
  cases hA:A with
  | nil=>rfl
  | cons a A'=>
   have h1:nx t h=a:=by have:=k.p1;rw[hA] at this;exact this.1
   exact absurd (h1.symm.trans e) (k.am (by rw[hA];simp))
 ·intro e;have:=k.p1;rw[e] at this;exact this
theorem jl(k:Km t h r A B):nx t (mt h)=h↔B=[]:=by
 constructor
 ·intro e
  cases hB:B with
  | nil=>rfl
  | cons b B'=>
   have h1:nx t (mt h)=b:=by have:=k.p2;rw[hB] at this;exact this.1
   exact absurd (h1.symm.trans e) (k.bh (by rw[hB];simp))
 ·intro e;have:=k.p2;rw[e] at this;exact this
def Yw(t:Tp)(h r:Nat):List Nat→Rg
 | []=>{ rG t.rs r with h:=-1,v:=(hG t.hs h).f }
 | b::_=>{ rG t.rs r with h:=(b:Int),v:=-1 }
def Yx(t:Tp)(h r:Nat):List Nat→Rg
 | []=>⟨-1,(hG t.hs (mt h:Nat)).f,(rG t.rs r).c⟩
 | a::_=>⟨(a:Int),-1,(rG t.rs r).c⟩
theorem rows(k:Km t h r A B):(∀q:Nat,q<t.rs.length→r≠q→rG (uT t h r A B) q=rG t.rs q)∧(rG (uT t h r A B) r).c=(rG t.rs r).c∧(rG (uT t h r A B) (t.rs.length:Nat)).c=(rG t.rs r).c ∧
 (B=[]→rG (uT t h r A B) r={ rG t.rs r with h:=-1,v:=(hG t.hs h).f })∧(B≠[]→0≤(rG (uT t h r A B) r).h∧(rG (uT t h r A B) r).v=-1) ∧
 (A=[]→rG (uT t h r A B) (t.rs.length:Nat)=⟨-1,(hG t.hs (mt h:Nat)).f,(rG t.rs r).c⟩)∧(A≠[]→0≤(rG (uT t h r A B) (t.rs.length:Nat)).h∧(rG (uT t h r A B) (t.rs.length:Nat)).v=-1):=by
 have hr:=k.hr
 have e1:∀q:Nat,q<t.rs.length→r≠q→rG (uT t h r A B) q=rG t.rs q:=fun q hq hne=>by
  unfold uT;rw[kA (by simpa using hq),jE hr,aA hne]
 have e2:rG (uT t h r A B) r=Yw t h r B:=by
  unfold uT;rw[kA (by simpa using hr),jE hr,aC rfl];rfl
 have e3:rG (uT t h r A B) (t.rs.length:Nat)=Yx t h r A:=by
  unfold uT;exact nW (by rw[dP])
 refine⟨e1,?_,?_,?_,?_,?_,?_⟩
 ·rw[e2];cases B <;> rfl
 ·rw[e3];cases A <;> rfl
 ·intro e;subst e;exact e2
 ·intro e
  cases B with
  | nil=>exact absurd rfl e
  | cons b B'=>rw[e2];exact⟨by show (0:Int)≤(b:Int);omega,rfl⟩
 ·intro e;subst e;exact e3
 ·intro e
  cases A with
  | nil=>exact absurd rfl e
  | cons a A'=>rw[e3];exact⟨by show (0:Int)≤(a:Int);omega,rfl⟩
theorem nu(k:Km t h r A B)(y:Nat):(hG (CU t h A B) y).f=(hG t.hs y).f:=by
 have hk:=k.ht.toHok
 have hm:=k.fo.1
 have hpm:=hk.aj hm
 have hph:=hk.aj k.hh
 have hnm:=hk.bf hm
 have hnh:=hk.bf k.hh
 have hb:∀a A',A=a::A'→∀x∈a::A',x<(lk t.hs (pv t (mt h)) (nx t h)).length:=fun a A' e x hx=>by rw[aG];exact(k.fm (e▸hx)).1
 unfold CU
 split
 ·rfl
 ·rw[bF hph hnm]
 ·rw[eM _ _ _ _ (hb _ _ rfl),bF hpm hnh]
  split <;> rfl
 ·rw[bF (by rw[cO,aG];exact hph) (by rw[cO,aG];exact hnm),eM _ _ _ _ (hb _ _ rfl),bF hpm hnh]
  split <;> rfl
theorem dv{a:Nat}{A':List Nat}(k:Km t h r (a::A') B)(y:Nat):(hG (CU t h (a::A') B) y).n=(if B≠[]∧pv t h=y then (nx t (mt h):Int) else if pv t (mt h)=y then (nx t h:Int) else (hG t.hs y).n) ∧
 (hG (CU t h (a::A') B) y).p=(if B≠[]∧nx t (mt h)=y then (pv t h:Int) else if nx t h=y then (pv t (mt h):Int) else (hG t.hs y).p):=by
 have hk:=k.ht.toHok
 have hm:=k.fo.1
 have hpm:=hk.aj hm
 have hph:=hk.aj k.hh
 have hnm:=hk.bf hm
 have hnh:=hk.bf k.hh
 have hb:∀x∈a::A',x<(lk t.hs (pv t (mt h)) (nx t h)).length:=fun x hx=>by rw[aG];exact(k.fm hx).1
 cases B with
 | nil=>
  show (hG (au (lk t.hs (pv t (mt h)) (nx t h)) (a::A') t.rs.length) y).n=_∧(hG (au (lk t.hs (pv t (mt h)) (nx t h)) (a::A') t.rs.length) y).p=_
  rw[eM _ _ _ _ hb,bF hpm hnh]
  rw[aA (fun x:(([]:List Nat)≠[])∧pv t h=y=>x.1 rfl),aA (fun x:(([]:List Nat)≠[])∧nx t (mt h)=y=>x.1 rfl)]
  by_cases e:y∈a::A'
  ·rw[aC e];exact⟨rfl,rfl⟩
  ·rw[aA e];exact⟨rfl,rfl⟩
 | cons b B'=>
  show (hG (lk (au (lk t.hs (pv t (mt h)) (nx t h)) (a::A') t.rs.length) (pv t h) (nx t (mt h))) y).n=_∧(hG (lk (au (lk t.hs (pv t (mt h)) (nx t h)) (a::A') t.rs.length) (pv t h) (nx t (mt h))) y).p=_
  rw[bF (by rw[cO,aG];exact hph) (by rw[cO,aG];exact hnm),eM _ _ _ _ hb,bF hpm hnh]
  have e0:(b::B'≠[])=True:=eq_true (by simp)
  simp only[e0,OI]
  by_cases e:y∈a::A'
  ·rw[aC e];exact⟨rfl,rfl⟩
  ·rw[aA e];exact⟨rfl,rfl⟩
def X(t:Tp)(h r:Nat)(A B:List Nat):Tp:=⟨t.V,t.F,CU t h A B,uT t h r A B⟩
theorem hv(k:Km t h r A B):(rG t.rs r).v=-1∧(rG t.rs r).h≠-1:=by
 rcases k.ht.ew k.hr with⟨_,h2,h3⟩ | ⟨h1,_⟩
 ·exact⟨h3,h2⟩
 ·exact absurd ⟨h,k.hh,k.r1⟩ h1
theorem kc(k:Km t h r A B){y:Nat}:(bA (X t h r A B)).r y=if y∈A then t.rs.length else (bA t).r y:=by
 show (hG (CU t h A B) y).r.toNat=_
 rw[k.ring]
 by_cases e:y∈A
 ·rw[aC e,aC e];rfl
 ·rw[aA e,aA e];rfl
theorem wv(k:Km t h r A B):WV (bA (X t h r A B)) ⟨B1 h,fun _=>true,fun _=>true,fun _=>true⟩:=by
 have ht:=k.ht
 obtain⟨hw,nn⟩:=ht.wv
 have hk:=ht.toHok
 have he:=ht.e
 have hh:=k.hh
 have hb:=k.fo.1
 have hr:=k.hr
 have lh:(X t h r A B).hs.length=t.hs.length:=BC t h A B
 have lr:(X t h r A B).rs.length=t.rs.length+1:=J7 t h r A B
 obtain⟨q1,q2,q3,q4,q5,q6,q7⟩:=k.rows
 have hrr:(bA t).r h=r:=by show (hG t.hs h).r.toNat=r;rw[k.r1];rfl
 have hrb:(bA t).r (mt h)=r:=by show (hG t.hs (mt h:Nat)).r.toNat=r;rw[k.r2];rfl
 have hlr:(rG t.rs r).h≠-1:=k.hv.2
 obtain⟨⟨v0,v1⟩,_⟩:=iS.1 (hk.b1 (mt h) hb)
 obtain⟨⟨u0,u1⟩,_⟩:=iS.1 (hk.b1 h hh)
 obtain⟨c0,c1⟩:=ht.rc r hr
 have mk:∀(m:Mp),m=bA (X t h r A B)→WV m ⟨B1 h,fun _=>true,fun _=>true,fun _=>true⟩→WV (bA (X t h r A B)) ⟨B1 h,fun _=>true,fun _=>true,fun _=>true⟩:=fun m e w=>e▸w
 have meq:∀f r',f=(bA (X t h r A B)).f→r'=(bA (X t h r A B)).r→{ bA t with R:=t.rs.length+1,f:=f,r:=r',nx:=(bA (X t h r A B)).nx,pv:=(bA (X t h r A B)).pv,al:=(bA (X t h r A B)).al,rv:=(bA (X t h r A B)).rv,rc:=(bA (X t h r A B)).rc }=bA (X t h r A B):=fun f r' e1 e2=>by
  rw[e1,e2]
  show Mp.mk _ _ _ _ _ _ _ _ _ _ _=Mp.mk _ _ _ _ _ _ _ _ _ _ _
  rw[lh,lr]
  rfl
 have fE:(bA t).f=(bA (X t h r A B)).f:=funext fun y=>by
  show (hG t.hs y).f.toNat=(hG (CU t h A B) y).f.toNat
  rw[k.nu]
 have alX:∀q,q<t.rs.length→r≠q→(bA (X t h r A B)).al q=(bA t).al q∧(bA (X t h r A B)).rv q=(bA t).rv q∧(bA (X t h r A B)).rc q=(bA t).rc q:=fun q hq e=>by
  show decide ((rG (uT t h r A B) q).h=-1)=_∧(rG (uT t h r A B) q).v.toNat=_∧(rG (uT t h r A B) q).c.toNat=_
  rw[q1 q hq e];exact⟨rfl,rfl,rfl⟩
 have rcr:(bA (X t h r A B)).rc r=(bA t).rc r:=by show (rG (uT t h r A B) r).c.toNat=_;rw[q2];rfl
 have rcR:(bA (X t h r A B)).rc t.rs.length=(bA t).rc r:=by show (rG (uT t h r A B) (t.rs.length:Nat)).c.toNat=_;rw[q3];rfl
 have alr:(bA t).al r=false:=aW hlr
 have rcA:∀q,q<t.rs.length→(bA (X t h r A B)).rc q=(bA t).rc q:=fun q hq=>by
  by_cases e:r=q
  ·rw[←e];exact rcr
  ·exact(alX q hq e).2.2
 by_cases hA:A=[]
 ·-- the new ring is a FU vertex
  have hnx:=k.nq.2 hA
  have kvE:CU t h A B=HU t h:=by rw[hA];exact Ev t h B k.jl
  have hg:bd (bA t) h (bA (X t h r A B)).nx (bA (X t h r A B)).pv:=by
   have e1:(bA (X t h r A B)).nx=fun j:Nat=>(hG (HU t h) j).n.toNat:=by rw[←kvE];rfl
   have e2:(bA (X t h r A B)).pv=fun j:Nat=>(hG (HU t h) j).p.toNat:=by rw[←kvE];rfl
   rw[e1,e2]
   exact RC hk hh hnx (fun j _=>by rw[N9 hk hh j]) (fun j _=>by rw[N9 hk hh j])
  have w1:=hw.ot (al:=(bA (X t h r A B)).al) (rv:=(bA (X t h r A B)).rv) hg hh hnx (fun q hq=>by
   have hq:q<t.rs.length:=hq
   rw[hrr]
   show _=if nx t (mt h)=h∧q=r then true else _
   by_cases e:r=q
   ·subst e
    by_cases hB:B=[]
    ·rw[aC ⟨k.jl.2 hB,rfl⟩]
     show decide ((rG (uT t h r A B) r).h=-1)=true
     rw[q4 hB];exact aR rfl
    ·rw[aA (fun x=>hB (k.jl.1 x.1)),alr]
     exact aW (by have:=(q5 hB).1;show ¬(rG (uT t h r A B) r).h=-1;omega)
   ·rw[aA (fun x=>e x.2.symm)];exact(alX q hq e).1) (fun q hq bo=>by
   have hq:q<t.rs.length:=hq
   rw[hrr]
   show _=if nx t (mt h)=h∧q=r then (hG t.hs h).f.toNat else _
   by_cases e:r=q
   ·subst e
    by_cases hB:B=[]
    ·rw[aC ⟨k.jl.2 hB,rfl⟩]
     show (rG (uT t h r A B) r).v.toNat=_
     rw[q4 hB]
    ·have h4:decide ((rG (uT t h r A B) r).h=-1)=true:=bo
     have h5:=bI h4
     have:=(q5 hB).1
     omega
   ·rw[aA (fun x=>e x.2.symm)];exact(alX q hq e).2.1)
  have w2:=w1.ll (R':=t.rs.length+1) (al:=(bA (X t h r A B)).al) (rv:=(bA (X t h r A B)).rv) (rc:=(bA (X t h r A B)).rc) (by show t.rs.length≤_;omega) (fun _ _=>rfl) (fun _ _ _=>rfl) (fun q hq=>rcA q hq)
  have w3:=w2.iy (q:=t.rs.length) (w:=(hG t.hs (mt h:Nat)).f.toNat) (by show t.rs.length<t.rs.length+1;omega)
   (by show (true&&decide (t.rs.length<t.rs.length))=false;rw[fM];exact aW (by omega))
   (by show decide ((rG (uT t h r A B) (t.rs.length:Nat)).h=-1)=true;rw[q6 hA];exact aR rfl)
   (by show (hG t.hs (mt h:Nat)).f.toNat<t.V.toNat;omega)
   (by show decide ((hG t.hs (mt h:Nat)).f.toNat≠(hG t.hs (mt h:Nat)).f.toNat)=false;exact aW (fun x=>x rfl))
   (by show (rG (uT t h r A B) (t.rs.length:Nat)).v.toNat=_;rw[q6 hA])
   (by refine⟨?_,rfl⟩;show (bA (X t h r A B)).rc t.rs.length<t.F.toNat;rw[rcR];show (rG t.rs r).c.toNat<_;omega)
  have w4:=w3.alive (R:=fun _=>true) (V:=fun _=>true) (F:=fun _=>true) (fun q hq=>by
   have hq:q<t.rs.length+1:=hq
   show ((true&&decide (q<t.rs.length))||decide (q=t.rs.length))=true
   rw[fM,oB,bE,bE];omega) (fun u _=>by
   show (decide (u≠(hG t.hs (mt h:Nat)).f.toNat)||decide (u=(hG t.hs (mt h:Nat)).f.toNat))=true
   rw[oB,bE,bE];omega) (fun _ _=>rfl)
  refine mk _ (meq _ _ fE (funext fun y=>?_)) w4
  rw[k.kc,hA,aA (by simp)]
 ·by_cases hB:B=[]
  ·-- the old ring becomes a FU vertex
   have hnx:nx t (mt h)=mt (mt h):=by rw[oZ];exact k.jl.2 hB
   have hn2:nx t h≠mt h:=fun e=>hA (k.nq.1 e)
   obtain⟨a,A',eA⟩:∃a A',A=a::A':=by cases A with
    | nil=>exact absurd rfl hA
    | cons a A'=>exact⟨a,A',rfl⟩
   have hg:bd (bA t) (mt h) (bA (X t h r A B)).nx (bA (X t h r A B)).pv:=by
    subst eA
    refine RC hk hb hnx (fun j _=>?_) (fun j _=>?_)
    ·show (hG (CU t h (a::A') B) j).n=_
     rw[(k.dv j).1,aA (fun x=>x.1 hB),oZ]
     by_cases e:pv t (mt h)=j
     ·rw[aC e,aC ⟨hn2,e⟩]
     ·rw[aA e,aA (fun x=>e x.2)]
    ·show (hG (CU t h (a::A') B) j).p=_
     rw[(k.dv j).2,aA (fun x=>x.1 hB),oZ]
     by_cases e:nx t h=j
     ·rw[aC e,aC ⟨hn2,e⟩]
     ·rw[aA e,aA (fun x=>e x.2)]
   have w1:=hw.ot (al:=(bA t).al) (rv:=(bA t).rv) hg hb hnx (fun q hq=>by
    rw[oZ,aA (fun x=>hn2 x.1)]) (fun q hq _=>by rw[oZ,aA (fun x=>hn2 x.1)])
   rw[oZ] at w1
   have w2:=w1.ll (R':=t.rs.length+1) (al:=fun q=>if q=t.rs.length then true else (bA t).al q) (rv:=fun q=>if q=t.rs.length then (bA t).f h else (bA t).rv q) (rc:=fun q=>if q=t.rs.length then (bA t).rc r else (bA t).rc q) (Nat.le_succ _)
    (fun q hq=>aA (by have:q<t.rs.length:=hq;omega)) (fun q hq _=>aA (by have:q<t.rs.length:=hq;omega)) (fun q hq=>aA (by have:q<t.rs.length:=hq;omega))
   have w3:=w2.iy (q:=t.rs.length) (w:=(bA t).f h) (by show t.rs.length<t.rs.length+1;omega)
    (by show (true&&decide (t.rs.length<t.rs.length))=false;rw[fM];exact aW (by omega))
    (aC rfl) (by show (hG t.hs h).f.toNat<t.V.toNat;omega)
    (by show decide ((bA t).f h≠(bA t).f h)=false;exact aW (fun x=>x rfl))
    (aC rfl) (by refine⟨?_,rfl⟩;show (if t.rs.length=t.rs.length then _ else _)<t.F.toNat;rw[aC rfl];show (rG t.rs r).c.toNat<_;omega)
   have w4:=w3.alive (R:=fun _=>true) (V:=fun _=>true) (F:=fun _=>true) (fun q hq=>by
    have hq:q<t.rs.length+1:=hq
    show ((true&&decide (q<t.rs.length))||decide (q=t.rs.length))=true
    rw[fM,oB,bE,bE];omega) (fun u _=>by
    show (decide (u≠(bA t).f h)||decide (u=(bA t).f h))=true
    rw[oB,bE,bE];exact(UK _).symm) (fun _ _=>rfl)
   have nr:r≠t.rs.length:=by omega
   have w5:=w4.ji (s:=CJ r t.rs.length) (i:=CJ r t.rs.length) (R':=t.rs.length+1) (P':=fun _=>true) (Qw (n:=t.rs.length+1) (Nat.lt_succ_of_lt hr) (Nat.lt_succ_self _)) (r:=(bA (X t h r A B)).r) (al:=(bA (X t h r A B)).al) (rv:=(bA (X t h r A B)).rv) (rc:=(bA (X t h r A B)).rc)
    (fun y hy=>by
     obtain⟨y1,y2,y3⟩:=fY.1 hy
     rw[k.kc]
     show _=CJ r t.rs.length ((bA t).r y)
     unfold CJ
     by_cases e:y∈A
     ·have:=(k.fm e).2
      have e4:(bA t).r y=r:=by show (hG t.hs y).r.toNat=r;rw[bI this];rfl
      rw[aC e,aC e4]
     ·have h5:(bA t).r y<t.rs.length:=(hw.hr y ⟨y1,rfl⟩).1
      rw[aA e,aA (fun e2=>?_),aA (by omega)]
      have h6:fC t r y=true:=aR (by
       have:=(nn.h y ⟨y1,rfl⟩).2.2.2
       have h7:(hG t.hs y).r.toNat=r:=e2
       omega)
      have:=(k.hm y).2 ⟨y1,h6⟩
      rw[hB] at this
      rcases cJ.1 this with h7 | h7
      ·exact y3 (by rw[oZ];exact h7)
      ·rcases fL.1 h7 with h8 | h8
       ·exact e h8
       ·exact y2 (by simpa using h8))
    (fun j hj=>by
     have hj1:j<t.rs.length+1:=hj.1
     show _=(if CJ r t.rs.length j=t.rs.length then true else (bA t).al (CJ r t.rs.length j))
     unfold CJ
     by_cases e1:j=r
     ·rw[aC e1,aC rfl,e1]
      show decide ((rG (uT t h r A B) r).h=-1)=true
      rw[q4 hB];exact aR rfl
     ·rw[aA e1]
      by_cases e2:j=t.rs.length
      ·rw[aC e2,aA nr,alr,e2]
       exact aW (by have:=(q7 hA).1;show ¬(rG (uT t h r A B) (t.rs.length:Nat)).h=-1;omega)
      ·rw[aA e2,aA e2]
       exact(alX j (by omega) (fun x=>e1 x.symm)).1)
    (fun j hj bo=>by
     have hj1:j<t.rs.length+1:=hj.1
     show _=(if CJ r t.rs.length j=t.rs.length then (bA t).f h else (bA t).rv (CJ r t.rs.length j))
     unfold CJ
     by_cases e1:j=r
     ·rw[aC e1,aC rfl,e1]
      show (rG (uT t h r A B) r).v.toNat=_
      rw[q4 hB];rfl
     ·rw[aA e1]
      by_cases e2:j=t.rs.length
      ·rw[e2] at bo
       have h4:decide ((rG (uT t h r A B) (t.rs.length:Nat)).h=-1)=true:=bo
       have h5:=bI h4
       have:=(q7 hA).1
       omega
      ·rw[aA e2,aA e2]
       exact(alX j (by omega) (fun x=>e1 x.symm)).2.1)
    (fun j hj=>by
     have hj1:j<t.rs.length+1:=hj.1
     show _=(if CJ r t.rs.length j=t.rs.length then (bA t).rc r else (bA t).rc (CJ r t.rs.length j))
     unfold CJ
     by_cases e1:j=r
     ·rw[aC e1,aC rfl,e1];exact rcr
     ·rw[aA e1]
      by_cases e2:j=t.rs.length
      ·rw[aC e2,aA nr,e2];exact rcR
      ·rw[aA e2,aA e2]
       exact rcA j (by omega))
   refine mk _ (meq _ _ fE rfl) ?_
   have e8:=Ug h
   rw[←e8];exact w5
  ·-- both are longer
   obtain⟨a,A',eA⟩:∃a A',A=a::A':=by cases A with
    | nil=>exact absurd rfl hA
    | cons a A'=>exact⟨a,A',rfl⟩
   obtain⟨b,B',eB⟩:∃b B',B=b::B':=by cases B with
    | nil=>exact absurd rfl hB
    | cons b B'=>exact⟨b,B',rfl⟩
   subst eA eB
   have hn1:nx t h=a:=k.p1.1
   have hn2:nx t (mt h)=b:=k.p2.1
   have np:pv t h≠pv t (mt h):=fun e=>rL h ((hk.np hb).symm.trans (by rw[←e];exact hk.np hh))
   have nN:nx t (mt h)≠nx t h:=fun e=>rL h (hk.fl hb hh e)
   have hg:bd (bA t) h (bA (X t h r (a::A') (b::B'))).nx (bA (X t h r (a::A') (b::B'))).pv:=by
    refine TX hk hh (by rw[hn1];exact k.ah (by simp)) (by rw[hn2];exact k.bm (by simp)) (fun j _=>?_) (fun j _=>?_)
    ·show (pv t h=j∧(hG (CU t h (a::A') (b::B')) j).n=_)∨(pv t (mt h)=j∧(hG (CU t h (a::A') (b::B')) j).n=_)∨(pv t h≠j∧pv t (mt h)≠j∧(hG (CU t h (a::A') (b::B')) j).n=_)
     rw[(k.dv j).1]
     by_cases e1:pv t h=j
     ·rw[aC ⟨hB,e1⟩];exact .inl ⟨e1,rfl⟩
     ·rw[aA (fun x=>e1 x.2)]
      by_cases e2:pv t (mt h)=j
      ·rw[aC e2];exact .inr (.inl ⟨e2,rfl⟩)
      ·rw[aA e2];exact .inr (.inr ⟨e1,e2,rfl⟩)
    ·show (nx t (mt h)=j∧(hG (CU t h (a::A') (b::B')) j).p=_)∨(nx t h=j∧(hG (CU t h (a::A') (b::B')) j).p=_)∨(nx t (mt h)≠j∧nx t h≠j∧(hG (CU t h (a::A') (b::B')) j).p=_)
     rw[(k.dv j).2]
     by_cases e1:nx t (mt h)=j
     ·rw[aC ⟨hB,e1⟩];exact .inl ⟨e1,rfl⟩
     ·rw[aA (fun x=>e1 x.2)]
      by_cases e2:nx t h=j
      ·rw[aC e2];exact .inr (.inl ⟨e2,rfl⟩)
      ·rw[aA e2];exact .inr (.inr ⟨e1,e2,rfl⟩)
   have w1:=hw.ow (r:=(bA (X t h r (a::A') (b::B'))).r) (al:=(bA (X t h r (a::A') (b::B'))).al) (rv:=(bA (X t h r (a::A') (b::B'))).rv) (rc:=(bA (X t h r (a::A') (b::B'))).rc) hg hh k.hc (fun y=>by
    rw[k.hm y,hrr]
    refine K8 fun hy=>?_
    have h7:=(nn.h y ⟨hy,rfl⟩).2.2.2
    show decide ((hG t.hs y).r=(r:Int))=true↔(hG t.hs y).r.toNat=r
    rw[bE];omega) (fun y _=>k.kc) (fun q hq=>by
    have hq:q<t.rs.length:=hq
    by_cases e:r=q
    ·rw[←e,alr]
     exact aW (by have:=(q5 hB).1;show ¬(rG (uT t h r (a::A') (b::B')) r).h=-1;omega)
    ·exact(alX q hq e).1) (aW (by have:=(q7 hA).1;show ¬(rG (uT t h r (a::A') (b::B')) (t.rs.length:Nat)).h=-1;omega)) (fun q hq bo=>by
    have hq:q<t.rs.length:=hq
    by_cases e:r=q
    ·rw[←e] at bo
     have h4:decide ((rG (uT t h r (a::A') (b::B')) r).h=-1)=true:=bo
     have h5:=bI h4
     have:=(q5 hB).1
     omega
    ·exact(alX q hq e).2.1) (fun q hq=>rcA q hq) (by rw[hrr];exact rcR)
   exact mk _ (meq _ _ fE rfl) w1
theorem fp(k:Km t h r A B)(hR:t.rs.length+1≤257):CKP (lz ⟨t.V,t.F,dE (CU t h A B) h,uT t h r A B⟩):=by
 have ht:=k.ht
 obtain⟨hw,nn⟩:=ht.wv
 have he:=ht.e
 have hn:=ht.n
 have lh:(X t h r A B).hs.length=t.hs.length:=BC t h A B
 have lr:(X t h r A B).rs.length=t.rs.length+1:=J7 t h r A B
 obtain⟨q1,q2,q3,q4,q5,q6,q7⟩:=k.rows
 have hc:=(ht.rc r k.hr).1
 have n1:NN (X t h r A B) ⟨B1 h,fun _=>true,fun _=>true,fun _=>true⟩:=by
  refine⟨fun y hy=>?_,fun q hq=>?_⟩
  ·have hy1:y<t.hs.length:=by rw[←lh];exact hy.1
   obtain⟨a,b,c,d⟩:=nn.h y ⟨hy1,rfl⟩
   show 0≤(hG (CU t h A B) y).f∧0≤(hG (CU t h A B) y).n∧0≤(hG (CU t h A B) y).p∧0≤(hG (CU t h A B) y).r
   rw[k.nu,k.ring]
   have np:0≤(hG (CU t h A B) y).n∧0≤(hG (CU t h A B) y).p:=by
    by_cases hA:A=[]
    ·rw[show CU t h A B=HU t h by rw[hA];exact Ev t h B k.jl,N9 ht.toHok k.hh]
     refine⟨?_,?_⟩
     ·show 0≤(if nx t (mt h)≠h∧pv t h=y then (nx t (mt h):Int) else (hG t.hs y).n)
      split <;> omega
     ·show 0≤(if nx t (mt h)≠h∧nx t (mt h)=y then (pv t h:Int) else (hG t.hs y).p)
      split <;> omega
    ·obtain⟨a',A',eA⟩:∃a A',A=a::A':=by cases A with
      | nil=>exact absurd rfl hA
      | cons a A'=>exact⟨a,A',rfl⟩
     subst eA
     rw[(k.dv y).1,(k.dv y).2]
     refine⟨?_,?_⟩
     ·split
      ·omega
      ·split <;> omega
     ·split
      ·omega
      ·split <;> omega
   refine⟨a,np.1,np.2,?_⟩
   split <;> omega
  ·have hq1:q<t.rs.length+1:=by rw[←lr];exact hq.1
   show 0≤(rG (uT t h r A B) q).c∧(((rG (uT t h r A B) q).h=-1∧0≤(rG (uT t h r A B) q).v)∨((rG (uT t h r A B) q).h≠-1∧(rG (uT t h r A B) q).v=-1))
   by_cases e1:q=t.rs.length
   ·rw[e1,q3]
    refine⟨hc,?_⟩
    by_cases hA:A=[]
    ·rw[q6 hA];exact .inl ⟨rfl,(nn.h _ ⟨k.fo.1,rfl⟩).1⟩
    ·obtain⟨a,b⟩:=q7 hA;exact .inr ⟨by omega,b⟩
   ·have hq2:q<t.rs.length:=by omega
    by_cases e:r=q
    ·rw[←e,q2]
     refine⟨hc,?_⟩
     by_cases hB:B=[]
     ·rw[q4 hB];exact .inl ⟨rfl,(nn.h _ ⟨k.hh,rfl⟩).1⟩
     ·obtain⟨a,b⟩:=q5 hB;exact .inr ⟨by omega,b⟩
    ·rw[q1 q hq2 e];exact nn.c q ⟨hq2,rfl⟩
 have w4:=Ng (X:=X t h r A B) (by rw[lh];exact he) (by rw[lh];exact k.hh) k.wv
 have n4:=Nh (X:=X t h r A B) (by rw[lh];exact he) (by rw[lh];exact k.hh) n1
 have l2:(dE (CU t h A B) h).length=2*(t.hs.length/2-1):=by rw[oW,BC]
 exact WV.fp (t:={ X t h r A B with hs:=dE (X t h r A B).hs h }) { n:=by show (dE (CU t h A B) h).length≤256;omega,e:=by show (dE (CU t h A B) h).length%2=0;omega,V0:=ht.V0,V1:=ht.V1,F0:=ht.F0,F1:=ht.F1,R:=by show (uT t h r A B).length≤257;rw[J7];exact hR } n4 w4
end Km
end Go.Eng.Tl
set_option linter.unusedSectionVars false
namespace Go.Eng.Tl
open Go.Eng
theorem TY{t:Tp}(ht:Hok t){a:Nat}(ha:a<t.hs.length)(e1:nx t a≠a)(e2:nx t (mt a)=mt a){hs:List Hf}
 (h1:∀k,k<t.hs.length→(hG hs k).n=if pv t a=k then (nx t a:Int) else (hG t.hs k).n)
 (h2:∀k,k<t.hs.length→(hG hs k).p=if nx t a=k then (pv t a:Int) else (hG t.hs k).p):bd (bA t) a (fun k=>(hG hs k).n.toNat) (fun k=>(hG hs k).p.toNat):=by
 obtain⟨hN,hP,PN,NP⟩:=ht.fu
 have hb:=kQ ht.e ha
 have hab:a≠mt a:=(rL a).symm
 have p1:pv t a≠a:=fun e=>e1 (by have:=NP a ha;rwa[e] at this)
 have p2:pv t (mt a)=mt a:=by have:=PN _ hb;rwa[e2] at this
 refine⟨fun k hk ka kb=>?_,fun k hk ka kb=>?_⟩
 ·show (hG hs k).n.toNat=skip (nx t) a (mt a) k
  rw[TW hN hP PN NP ha hb hab hk e1 e2 ka kb,h1 k hk]
  by_cases e:pv t a=k
  ·rw[aC e,aC e];rfl
  ·rw[aA e,aA e];rfl
 ·show (hG hs k).p.toNat=skip (pv t) a (mt a) k
  rw[TW hP hN NP PN ha hb hab hk p1 p2 ka kb,h2 k hk]
  by_cases e:nx t a=k
  ·rw[aC e,aC e];rfl
  ·rw[aA e,aA e];rfl
theorem bd.swap{t:Tp}(ht:Hok t){a:Nat}(ha:a<t.hs.length)(bo:¬(nx t a=a∧nx t (mt a)=mt a)){nx' pv':Nat→Nat}(g:bd (bA t) (mt a) nx' pv'):bd (bA t) a nx' pv':=by
 obtain⟨hN,hP,PN,NP⟩:=ht.fu
 have hb:=kQ ht.e ha
 have hab:a≠mt a:=(rL a).symm
 have ft:¬(pv t a=a∧pv t (mt a)=mt a):=fun⟨q1,q2⟩=>bo ⟨by have:=NP a ha;rwa[q1] at this,by have:=NP _ hb;rwa[q2] at this⟩
 refine⟨fun k hk ka kb=>?_,fun k hk ka kb=>?_⟩
 ·have:=g.n k hk kb (by rw[oZ];exact ka)
  rw[oZ] at this
  rw[this]
  exact(RB hN hP PN NP ha hb hab hk bo ka kb).symm
 ·have:=g.p k hk kb (by rw[oZ];exact ka)
  rw[oZ] at this
  rw[this]
  exact(RB hP hN NP PN ha hb hab hk ft ka kb).symm
namespace Ke
variable {t:Tp} {h u w:Nat} {c:List Nat}
theorem dv(k:Ke t h u w c){y:Nat}(hy:y<t.hs.length):(hG (vW t h u w) y).f=(hG t.hs y).f∧(hG (vW t h u w) y).n=(hG (G5 t h t.hs) y).n∧(hG (vW t h u w) y).p=(hG (G5 t h t.hs) y).p:=by
 have hk:=k.ht.toHok
 have p1:=hk.aj k.hh
 have p2:=hk.bf k.hh
 have p3:=hk.aj k.cj
 have p4:=hk.bf k.cj
 unfold vW
 rw[vU _ (by rw[rM];exact hy),CI]
 refine⟨?_,rfl,rfl⟩
 show (hG (G5 t h t.hs) y).f=_
 unfold G5
 split
 ·rw[bF p1 p2]
 ·split
  ·rw[bF p3 p4]
  ·rw[bF (by rw[aG];exact p3) (by rw[aG];exact p2),bF p1 p4]
def X(t:Tp)(h u w:Nat):Tp:=⟨t.V,t.F,vW t h u w,t.rs⟩
theorem bo(k:Ke t h u w c):¬(nx t h=h∧nx t (mt h)=mt h):=fun e=>k.na ⟨e.1,k.my.1 e.2⟩
theorem gone(k:Ke t h u w c):bd (bA t) h (bA (X t h u w)).nx (bA (X t h u w)).pv:=by
 have hk:=k.ht.toHok
 have hh:=k.hh
 have hb:=k.cj
 have p1:=hk.aj hh
 have p2:=hk.bf hh
 have p3:=hk.aj hb
 have p4:=hk.bf hb
 have np:pv t h≠pv t (mt h):=fun e=>rL h ((hk.np hb).symm.trans (by rw[←e];exact hk.np hh))
 have nN:nx t h≠nx t (mt h):=fun e=>rL h ((hk.pn hb).symm.trans (by rw[←e];exact hk.pn hh))
 by_cases e1:nx t (mt h)=mt h
 ·have e2:nx t h≠h:=fun e=>k.bo ⟨e,e1⟩
  have eL:G5 t h t.hs=lk t.hs (pv t h) (nx t h):=aC e1
  refine TY hk hh e2 e1 (fun j hj=>?_) (fun j hj=>?_)
  ·show (hG (vW t h u w) j).n=_
   rw[(k.dv hj).2.1,eL,bF p1 p2]
  ·show (hG (vW t h u w) j).p=_
   rw[(k.dv hj).2.2,eL,bF p1 p2]
 ·by_cases e2:nx t h=h
  ·have eL:G5 t h t.hs=lk t.hs (pv t (mt h)) (nx t (mt h)):=by unfold G5;rw[aA e1,aC e2]
   refine bd.swap hk hh k.bo (TY hk hb e1 (by rw[oZ];exact e2) (fun j hj=>?_) (fun j hj=>?_))
   ·show (hG (vW t h u w) j).n=_
    rw[(k.dv hj).2.1,eL,bF p3 p4]
   ·show (hG (vW t h u w) j).p=_
    rw[(k.dv hj).2.2,eL,bF p3 p4]
  ·have eL:G5 t h t.hs=lk (lk t.hs (pv t h) (nx t (mt h))) (pv t (mt h)) (nx t h):=by unfold G5;rw[aA e1,aA e2]
   refine TX hk hh e2 e1 (fun j hj=>?_) (fun j hj=>?_)
   ·show (pv t h=j∧(hG (vW t h u w) j).n=_)∨(pv t (mt h)=j∧(hG (vW t h u w) j).n=_)∨(pv t h≠j∧pv t (mt h)≠j∧(hG (vW t h u w) j).n=_)
    rw[(k.dv hj).2.1,eL,bF (by rw[aG];exact p3) (by rw[aG];exact p2),bF p1 p4]
    by_cases q1:pv t h=j
    ·exact .inl ⟨q1,by show (if pv t (mt h)=j then _ else if pv t h=j then _ else _)=_;rw[aA (fun q2=>np (q1.trans q2.symm)),aC q1]⟩
    ·by_cases q2:pv t (mt h)=j
     ·exact .inr (.inl ⟨q2,by show (if pv t (mt h)=j then _ else if pv t h=j then _ else _)=_;rw[aC q2]⟩)
     ·exact .inr (.inr ⟨q1,q2,by show (if pv t (mt h)=j then _ else if pv t h=j then _ else _)=_;rw[aA q2,aA q1]⟩)
   ·show (nx t (mt h)=j∧(hG (vW t h u w) j).p=_)∨(nx t h=j∧(hG (vW t h u w) j).p=_)∨(nx t (mt h)≠j∧nx t h≠j∧(hG (vW t h u w) j).p=_)
    rw[(k.dv hj).2.2,eL,bF (by rw[aG];exact p3) (by rw[aG];exact p2),bF p1 p4]
    by_cases q1:nx t (mt h)=j
    ·exact .inl ⟨q1,by show (if nx t h=j then _ else if nx t (mt h)=j then _ else _)=_;rw[aA (fun q2=>nN (q2.trans q1.symm)),aC q1]⟩
    ·by_cases q2:nx t h=j
     ·exact .inr (.inl ⟨q2,by show (if nx t h=j then _ else if nx t (mt h)=j then _ else _)=_;rw[aC q2]⟩)
     ·exact .inr (.inr ⟨q1,q2,by show (if nx t h=j then _ else if nx t (mt h)=j then _ else _)=_;rw[aA q2,aA q1]⟩)
theorem fp(k:Ke t h u w c)(hf:(rG t.rs w).c≠(rG t.rs u).c)(hcnt:aw (vV t (rG t.rs w).c) t.rs.length≤1):CKP (lz (NH t h u w)):=by
 have ht:=k.ht
 obtain⟨hw,nn⟩:=ht.wv
 have hk:=ht.toHok
 have he:=ht.e
 have hh:=k.hh
 have hn:=ht.n
 have hwl:=k.hw
 have hul:=k.hu
 have lh:(X t h u w).hs.length=t.hs.length:=k.dk
 obtain⟨c0,c1⟩:=ht.rc w hwl
 obtain⟨d0,d1⟩:=ht.rc u hul
 have hru:(bA t).r h=u:=by show (hG t.hs h).r.toNat=u;rw[k.ru];rfl
 have Xd:(bA t).r (mt h)=w:=by show (hG t.hs (mt h:Nat)).r.toNat=w;rw[k.rw];rfl
 have only:∀q:Nat,q<t.rs.length→(rG t.rs q).c=(rG t.rs w).c→q=w:=fun q hq e=>by
  have h1:vV t (rG t.rs w).c w=true:=aR rfl
  have h2:vV t (rG t.rs w).c q=true:=aR e
  have h3:aw (vV t (rG t.rs w).c) t.rs.length=1:=by
   have:=rK.2 ⟨w,hwl,h1⟩
   omega
  obtain⟨z,_,hz⟩:=J9.1 h3
  rw[hz q hq h2,hz w hwl h1]
 have w1:=hw.qg (r:=(bA (X t h u w)).r) k.gone hh k.bo hru Xd k.ne (fun q hq e=>by
  have hq:q<t.rs.length:=hq
  have e:(rG t.rs q).c.toNat=(rG t.rs w).c.toNat:=e
  have:=(ht.rc q hq).1
  exact only q hq (by omega)) (fun y hy=>by
  have hy:y<t.hs.length:=hy
  show (hG (vW t h u w) y).r.toNat=if (hG t.hs y).r.toNat=w then u else (hG t.hs y).r.toNat
  rw[k.gu hy]
  have:=(nn.h y ⟨hy,rfl⟩).2.2.2
  by_cases e:(hG t.hs y).r=(w:Int)
  ·rw[aC e,aC (by omega)];rfl
  ·rw[aA e,aA (by omega)])
 have w2:WV (bA (X t h u w)) ⟨B1 h,fun q=>decide (q≠w),fun _=>true,fun f=>decide (f≠(rG t.rs w).c.toNat)⟩:=by
  have h2:=w1.congr (f:=(bA (X t h u w)).f) (r:=(bA (X t h u w)).r) (nx:=(bA (X t h u w)).nx) (pv:=(bA (X t h u w)).pv) (al:=(bA (X t h u w)).al) (rv:=(bA (X t h u w)).rv) (rc:=(bA (X t h u w)).rc)
   (fun j hj=>by show (hG (vW t h u w) j).f.toNat=(hG t.hs j).f.toNat;rw[(k.dv (fY.1 hj).1).1]) (fun _ _=>rfl) (fun _ _=>rfl) (fun _ _=>rfl) (fun _ _=>rfl) (fun _ _ _=>rfl) (fun _ _=>rfl)
  have e:bA (X t h u w)={ bA t with f:=(bA (X t h u w)).f,r:=(bA (X t h u w)).r,nx:=(bA (X t h u w)).nx,pv:=(bA (X t h u w)).pv,al:=(bA (X t h u w)).al,rv:=(bA (X t h u w)).rv,rc:=(bA (X t h u w)).rc }:=by
   show Mp.mk _ _ _ _ _ _ _ _ _ _ _=Mp.mk _ _ _ _ _ _ _ _ _ _ _
   rw[lh]
   rfl
  rw[e];exact h2
 have n2:NN (X t h u w) ⟨B1 h,fun q=>decide (q≠w),fun _=>true,fun f=>decide (f≠(rG t.rs w).c.toNat)⟩:=by
  refine⟨fun y hy=>?_,fun q hq=>nn.c q ⟨hq.1,rfl⟩⟩
  have hy1:y<t.hs.length:=by rw[←lh];exact hy.1
  obtain⟨q1,q2,q3,q4⟩:=nn.h y ⟨hy1,rfl⟩
  have hs:=k.pw y (by rw[k.dk];exact hy1)
  show 0≤(hG (vW t h u w) y).f∧0≤(hG (vW t h u w) y).n∧0≤(hG (vW t h u w) y).p∧0≤(hG (vW t h u w) y).r
  refine⟨by rw[(k.dv hy1).1];exact q1,hs.1,hs.2.2.1,?_⟩
  rw[k.gu hy1]
  split <;> omega
 have w3:=Ng (X:=X t h u w) (by rw[lh];exact he) (by rw[lh];exact hh) w2
 have n3:=Nh (X:=X t h u w) (by rw[lh];exact he) (by rw[lh];exact hh) n2
 obtain⟨w4,n4⟩:=Wo (X:={ X t h u w with hs:=dE (X t h u w).hs h }) (c:=(rG t.rs w).c) ⟨c0,c1⟩ n3 w3
 obtain⟨w5,n5⟩:=Rt (w:=w) (by show w<(t.rs.map _).length;rw[dM];exact hwl) n4 w4
 have l2:=k.gv
 exact WV.fp (t:=NH t h u w) { n:=by rw[l2.2];omega,e:=by rw[l2.2];omega,V0:=ht.V0,V1:=ht.V1,F0:=by show 1≤t.F-1;omega,F1:=by have:=ht.F1;show t.F-1≤257;omega,R:=by have:=ht.R;rw[l2.1];omega } n5 w5
end Ke
end Go.Eng.Tl
